/-
What the functions of values, events and expressions say of data. Conditions: none; definitions and plain lemmas.
-/
import Derived.Test.YthdkeggdipogoaaGreatDoorGL
import Derived.Test.YthdkeggdipogoaaGreatDoorGR
import Derived.Test.YthdkeggdipogoaaGreatDoorTO3
namespace Go.Aug.Api
open Go.Aug

def maxNum : Int := 1099511627776
def emptyS : ByteArray := ⟨#[]⟩

/-- May that be a value? -/
def rightV (v : TVal) : Bool :=
  if v.kind = 1 then decide (-maxNum ≤ v.n) && decide (v.n ≤ maxNum) && decide (v.s = emptyS)
  else if v.kind = 3 then decide (0 ≤ v.n) && decide (v.n ≤ 1) && decide (v.s = emptyS)
  else if v.kind = 2 then decide (v.n = 0) && decide (v.s.size ≤ 64)
  else false

def bothV (a b : TVal) : Int := if rightV a = false ∨ rightV b = false then 1 else if a.kind ≠ 1 ∨ b.kind ≠ 1 then 42 else 0

theorem both_zero {a b : TVal} (h : bothV a b = 0) : rightV a = true ∧ rightV b = true ∧ a.kind = 1 ∧ b.kind = 1 := by
  unfold bothV at h
  grind

theorem right_num {v : TVal} (h : rightV v = true) (hk : v.kind = 1) : -maxNum ≤ v.n ∧ v.n ≤ maxNum ∧ v.s = emptyS := by
  unfold rightV at h
  grind

abbrev VE := TVal × Int
def VE.enc (r : VE) : D := .tup [.agg (valC r.1), i64D r.2]

/-- What comes of two numbers. -/
def ofSum (n : Int) : VE := if -maxNum ≤ n ∧ n ≤ maxNum then (⟨1, n, emptyS⟩, 0) else (zVal, 41)
def addV (a b : TVal) : VE := if bothV a b = 0 then ofSum (a.n + b.n) else (zVal, bothV a b)
def subV (a b : TVal) : VE := if bothV a b = 0 then ofSum (a.n - b.n) else (zVal, bothV a b)

def zSchema : TSchema := ⟨emptyS, .nil⟩
/-- The schema of a name. -/
def findS (l : List TSchema) (name : ByteArray) : TSchema × Bool := match l.find? (fun s => decide (s.name = name)) with
  | some s => (s, true)
  | none => (zSchema, false)
/-- A field's place and kind. -/
def fieldS (s : TSchema) (name : ByteArray) : Int × Int := (idx (fun f => decide (f.name = name)) s.fields.l, match s.fields.l.find? (fun f => decide (f.name = name)) with
  | some f => f.kind
  | none => 0)

theorem idx_cases {α : Type} (p : α → Bool) (l : List α) : (idx p l = -1 ∧ (∀ x ∈ l, p x = false) ∧ l.find? p = none) ∨
    ∃ pre x suf, l = pre ++ x :: suf ∧ (∀ y ∈ pre, p y = false) ∧ p x = true ∧ idx p l = (pre.length : Nat) ∧ l.find? p = some x := by
  induction l with
  | nil => left; simp [idx]
  | cons y l ih =>
    cases hy : p y with
    | true => right; exact ⟨[], y, l, rfl, by simp, hy, idx_some [] y l (by simp) hy, by simp [hy]⟩
    | false =>
      rcases ih with ⟨h1, h2, h3⟩ | ⟨pre, x, suf, rfl, h1, h2, h3, h4⟩
      · left
        have : ∀ x ∈ y :: l, p x = false := by
          intro x hx
          rcases List.mem_cons.1 hx with rfl | hx
          · exact hy
          · exact h2 x hx
        exact ⟨idx_none this, this, by simp [hy, h3]⟩
      · right
        have hp : ∀ z ∈ y :: pre, p z = false := by
          intro z hz
          rcases List.mem_cons.1 hz with rfl | hz
          · exact hy
          · exact h1 z hz
        exact ⟨y :: pre, x, suf, rfl, hp, h2, idx_some (y :: pre) x suf hp h2, by simp only [List.find?_cons, hy]; exact h4⟩

end Go.Aug.Api

/- What expressions are worth. Conditions: none; definitions and plain lemmas. -/

namespace Go.Aug.Api
open Go.Aug

structure TScope where
  l : Sl TSchema
  q : TQuery
  bound : Sl (Sl TEvent)
def scopeC (s : TScope) : List D := [s.l.enc schemaC, s.q.items.enc itemC, s.q.preds.enc predC, i64D s.q.within, strD s.q.by_, i64D s.q.pick, s.bound.enc rowC]

/-- The events that are bound to a variable's item; false: there is no such item. -/
def rowS (s : TScope) (v : ByteArray) : Sl TEvent × Bool :=
  if idx (fun x : TItem => decide (x.var = v)) s.q.items.l < 0 then (.nil, false)
  else match s.bound.l[(idx (fun x : TItem => decide (x.var = v)) s.q.items.l).toNat]? with
    | some r => (r, true)
    | none => (.nil, true)

/-- An event's field. -/
def fieldE (s : TScope) (e : TEvent) (name : ByteArray) : VE :=
  if (findS s.l.l e.name).2 = true ∧ 0 ≤ (fieldS (findS s.l.l e.name).1 name).1 then
    match e.vals.l[(fieldS (findS s.l.l e.name).1 name).1.toNat]? with
    | some v => (v, 0)
    | none => (zVal, 12)
  else (zVal, 12)

/-- A field that must be a number. -/
def numE (s : TScope) (e : TEvent) (name : ByteArray) : VE :=
  if (fieldE s e name).2 = 0 ∧ (fieldE s e name).1.kind ≠ 1 then ((fieldE s e name).1, 42) else fieldE s e name

/-- What comes of two numbers, of which one is what came of those ahead. -/
def foldOf (kind : Int) (a b : TVal) : VE :=
  if kind = 4 then addV a b else if kind = 5 then (if b.n < a.n then (b, 0) else (a, 0)) else if kind = 6 then (if a.n < b.n then (b, 0) else (a, 0)) else (zVal, 0)

/-- What comes of a field of all events. -/
def foldS (s : TScope) (kind : Int) (name : ByteArray) : List TEvent → TVal → VE
  | [], out => (out, 0)
  | e :: l, out => if (numE s e name).2 ≠ 0 then (zVal, (numE s e name).2) else
    if (foldOf kind out (numE s e name).1).2 ≠ 0 then (zVal, (foldOf kind out (numE s e name).1).2) else foldS s kind name l (foldOf kind out (numE s e name).1).1

def foldedS (s : TScope) (kind : Int) (name : ByteArray) : List TEvent → VE
  | [] => (zVal, 0)
  | e :: l => if (numE s e name).2 ≠ 0 then (zVal, (numE s e name).2) else foldS s kind name l (numE s e name).1

/-- What comes of two expressions. -/
def twoS (of : TVal → TVal → VE) (a b : VE) : VE := if a.2 ≠ 0 then (zVal, a.2) else if b.2 ≠ 0 then (zVal, b.2) else of a.1 b.1

/-- What an expression that has no parts is worth. -/
def leafS (s : TScope) (kind : Int) (v : TVal) (var field : ByteArray) : VE :=
  if kind = 1 then (if rightV v = true then (v, 0) else (zVal, 1)) else
  if (rowS s var).2 = false ∨ kind < 2 ∨ 6 < kind then (zVal, 1) else
  if kind = 3 then (⟨1, (rowS s var).1.l.length, emptyS⟩, 0) else
  match (rowS s var).1.l.getLast? with
  | none => (zVal, 12)
  | some e => if kind = 2 then fieldE s e field else foldedS s kind field (rowS s var).1.l

mutual
def valueS (s : TScope) : TExpr → VE
  | .mk kind v var field _ kids =>
    if kind = 7 then twoKids s addV kids else if kind = 8 then twoKids s subV kids else leafS s kind v var field
def twoKids (s : TScope) (of : TVal → TVal → VE) : List TExpr → VE
  | [a, b] => twoS of (valueS s a) (valueS s b)
  | _ => (zVal, 1)
end

end Go.Aug.Api

namespace Go.Aug.Api
open Go.Aug

mutual
/-- Does an expression name a variable? -/
def namesE : TExpr → ByteArray → Bool
  | .mk _ _ var _ _ kids, v => decide (var = v) || namesEs kids v
def namesEs : List TExpr → ByteArray → Bool
  | [], _ => false
  | x :: l, v => namesE x v || namesEs l v
end

theorem namesEs_append : ∀ (a b : List TExpr) (v : ByteArray), namesEs (a ++ b) v = (namesEs a v || namesEs b v)
  | [], b, v => by simp [namesEs]
  | x :: a, b, v => by simp [namesEs, namesEs_append a b v, Bool.or_assoc]

end Go.Aug.Api

namespace Go.Aug.Api
open Go.Aug

/-- How two numbers stand to each other. -/
def cmpI (a b : Int) : Int := if a < b then -1 else if b < a then 1 else 0
def cmpV (a b : TVal) : Int := if a.kind = 2 then cmpB a.s b.s else cmpI a.n b.n
/-- Does a comparison say so? -/
def signOf (op c : Int) : Bool := if op = 1 then decide (c = 0) else if op = 2 then decide (c ≠ 0) else if op = 3 then decide (c < 0) else if op = 4 then decide (c ≤ 0) else if op = 5 then decide (0 < c) else decide (0 ≤ c)
def compareV (op : Int) (a b : TVal) : Bool × Int :=
  if rightV a = false ∨ rightV b = false ∨ op < 1 ∨ 6 < op then (false, 1) else if a.kind ≠ b.kind then (false, 42) else if a.kind = 3 ∧ 2 < op then (false, 42) else (signOf op (cmpV a b), 0)
/-- Does a predicate hold? -/
def holdsS (s : TScope) (op : Int) (L R : TExpr) : Bool :=
  if (valueS s L).2 = 12 ∨ (valueS s R).2 = 12 then true else if (valueS s L).2 ≠ 0 ∨ (valueS s R).2 ≠ 0 then false else (compareV op (valueS s L).1 (valueS s R).1).1

theorem cmpI_range (a b : Int) : cmpI a b = -1 ∨ cmpI a b = 0 ∨ cmpI a b = 1 := by unfold cmpI; grind
theorem cmpV_range (a b : TVal) : cmpV a b = -1 ∨ cmpV a b = 0 ∨ cmpV a b = 1 := by
  unfold cmpV
  split
  · exact cmp_range _ _
  · exact cmpI_range _ _

end Go.Aug.Api
