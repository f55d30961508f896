/-
What the functions of values, events and expressions say of data. Conditions: none; definitions and plain lemmas.
-/
import Derived.Test.YtnpoicmaiieanaaGreatDoorGL
import Derived.Test.YtnpoicmaiieanaaGreatDoorGR
import Derived.Test.YtnpoicmaiieanaaGreatDoorTO3
namespace Go.Aug.Api
open Go.Aug

def maxNum : Int := 1099511627776
def emptyS : ByteArray := ⟨#[]⟩

/-- May that be a value? -/
def rightV (v : TVal) : Bool :=
  if v.kind = 1 then decide (-maxNum ≤ v.n) && decide (v.n ≤ maxNum) && decide (v.s = emptyS)
  else if v.kind = 3 then decide (0 ≤ v.n) && decide (v.n ≤ 1) && decide (v.s = emptyS)
  else if v.kind = 2 then decide (v.n = 0) && decide (v.s.size ≤ 64)
  else false

def bothV (a b : TVal) : Int := if rightV a = false ∨ rightV b = false then 1 else if a.kind ≠ 1 ∨ b.kind ≠ 1 then 42 else 0

theorem both_zero {a b : TVal} (h : bothV a b = 0) : rightV a = true ∧ rightV b = true ∧ a.kind = 1 ∧ b.kind = 1 := by
  unfold bothV at h
  grind

theorem right_num {v : TVal} (h : rightV v = true) (hk : v.kind = 1) : -maxNum ≤ v.n ∧ v.n ≤ maxNum ∧ v.s = emptyS := by
  unfold rightV at h
  grind

abbrev VE := TVal × Int
def VE.enc (r : VE) : D := .tup [.agg (valC r.1), i64D r.2]

/-- What comes of two numbers. -/
def ofSum (n : Int) : VE := if -maxNum ≤ n ∧ n ≤ maxNum then (⟨1, n, emptyS⟩, 0) else (zVal, 41)
def addV (a b : TVal) : VE := if bothV a b = 0 then ofSum (a.n + b.n) else (zVal, bothV a b)
def subV (a b : TVal) : VE := if bothV a b = 0 then ofSum (a.n - b.n) else (zVal, bothV a b)

def zSchema : TSchema := ⟨emptyS, .nil⟩
/-- The schema of a name. -/
def findS (l : List TSchema) (name : ByteArray) : TSchema × Bool := match l.find? (fun s => decide (s.name = name)) with
  | some s => (s, true)
  | none => (zSchema, false)
/-- A field's place and kind. -/
def fieldS (s : TSchema) (name : ByteArray) : Int × Int := (idx (fun f => decide (f.name = name)) s.fields.l, match s.fields.l.find? (fun f => decide (f.name = name)) with
  | some f => f.kind
  | none => 0)

theorem idx_cases {α : Type} (p : α → Bool) (l : List α) : (idx p l = -1 ∧ (∀ x ∈ l, p x = false) ∧ l.find? p = none) ∨
    ∃ pre x suf, l = pre ++ x :: suf ∧ (∀ y ∈ pre, p y = false) ∧ p x = true ∧ idx p l = (pre.length : Nat) ∧ l.find? p = some x := by
  induction l with
  | nil => left; simp [idx]
  | cons y l ih =>
    cases hy : p y with
    | true => right; exact ⟨[], y, l, rfl, by simp, hy, idx_some [] y l (by simp) hy, by simp [hy]⟩
    | false =>
      rcases ih with ⟨h1, h2, h3⟩ | ⟨pre, x, suf, rfl, h1, h2, h3, h4⟩
      · left
        have : ∀ x ∈ y :: l, p x = false := by
          intro x hx
          rcases List.mem_cons.1 hx with rfl | hx
          · exact hy
          · exact h2 x hx
        exact ⟨idx_none this, this, by simp [hy, h3]⟩
      · right
        have hp : ∀ z ∈ y :: pre, p z = false := by
          intro z hz
          rcases List.mem_cons.1 hz with rfl | hz
          · exact hy
          · exact h1 z hz
        exact ⟨y :: pre, x, suf, rfl, hp, h2, idx_some (y :: pre) x suf hp h2, by simp only [List.find?_cons, hy]; exact h4⟩

end Go.Aug.Api

/- What expressions are worth. Conditions: none; definitions and plain lemmas. -/

namespace Go.Aug.Api
open Go.Aug

structure TScope where
  l : Sl TSchema
  q : TQuery
  bound : Sl (Sl TEvent)
def scopeC (s : TScope) : List D := [s.l.enc schemaC, s.q.items.enc itemC, s.q.preds.enc predC, i64D s.q.within, strD s.q.by_, i64D s.q.pick, s.bound.enc rowC]

/-- The events that are bound to a variable's item; false: there is no such item. -/
def rowS (s : TScope) (v : ByteArray) : Sl TEvent × Bool :=
  if idx (fun x : TItem => decide (x.var = v)) s.q.items.l < 0 then (.nil, false)
  else match s.bound.l[(idx (fun x : TItem => decide (x.var = v)) s.q.items.l).toNat]? with
    | some r => (r, true)
    | none => (.nil, true)

/-- An event's field. -/
def fieldE (s : TScope) (e : TEvent) (name : ByteArray) : VE :=
  if (findS s.l.l e.name).2 = true ∧ 0 ≤ (fieldS (findS s.l.l e.name).1 name).1 then
    match e.vals.l[(fieldS (findS s.l.l e.name).1 name).1.toNat]? with
    | some v => (v, 0)
    | none => (zVal, 12)
  else (zVal, 12)

/-- A field that must be a number. -/
def numE (s : TScope) (e : TEvent) (name : ByteArray) : VE :=
  if (fieldE s e name).2 = 0 ∧ (fieldE s e name).1.kind ≠ 1 then ((fieldE s e name).1, 42) else fieldE s e name

/-- What comes of two numbers, of which one is what came of those ahead. -/
def foldOf (kind : Int) (a b : TVal) : VE :=
  if kind = 4 then addV a b else if kind = 5 then (if b.n < a.n then (b, 0) else (a, 0)) else if kind = 6 then (if a.n < b.n then (b, 0) else (a, 0)) else (zVal, 0)

/-- What comes of a field of all events. -/
def foldS (s : TScope) (kind : Int) (name : ByteArray) : List TEvent → TVal → VE
  | [], out => (out, 0)
  | e :: l, out => if (numE s e name).2 ≠ 0 then (zVal, (numE s e name).2) else
    if (foldOf kind out (numE s e name).1).2 ≠ 0 then (zVal, (foldOf kind out (numE s e name).1).2) else foldS s kind name l (foldOf kind out (numE s e name).1).1

def foldedS (s : TScope) (kind : Int) (name : ByteArray) : List TEvent → VE
  | [] => (zVal, 0)
  | e :: l => if (numE s e name).2 ≠ 0 then (zVal, (numE s e name).2) else foldS s kind name l (numE s e name).1

/-- What comes of two expressions. -/
def twoS (of : TVal → TVal → VE) (a b : VE) : VE := if a.2 ≠ 0 then (zVal, a.2) else if b.2 ≠ 0 then (zVal, b.2) else of a.1 b.1

/-- What an expression that has no parts is worth. -/
def leafS (s : TScope) (kind : Int) (v : TVal) (var field : ByteArray) : VE :=
  if kind = 1 then (if rightV v = true then (v, 0) else (zVal, 1)) else
  if (rowS s var).2 = false ∨ kind < 2 ∨ 6 < kind then (zVal, 1) else
  if kind = 3 then (⟨1, (rowS s var).1.l.length, emptyS⟩, 0) else
  match (rowS s var).1.l.getLast? with
  | none => (zVal, 12)
  | some e => if kind = 2 then fieldE s e field else foldedS s kind field (rowS s var).1.l

mutual
def valueS (s : TScope) : TExpr → VE
  | .mk kind v var field _ kids =>
    if kind = 7 then twoKids s addV kids else if kind = 8 then twoKids s subV kids else leafS s kind v var field
def twoKids (s : TScope) (of : TVal → TVal → VE) : List TExpr → VE
  | [a, b] => twoS of (valueS s a) (valueS s b)
  | _ => (zVal, 1)
end

end Go.Aug.Api

namespace Go.Aug.Api
open Go.Aug

mutual
/-- Does an expression name a variable? -/
def namesE : TExpr → ByteArray → Bool
  | .mk _ _ var _ _ kids, v => decide (var = v) || namesEs kids v
def namesEs : List TExpr → ByteArray → Bool
  | [], _ => false
  | x :: l, v => namesE x v || namesEs l v
end

theorem namesEs_append : ∀ (a b : List TExpr) (v : ByteArray), namesEs (a ++ b) v = (namesEs a v || namesEs b v)
  | [], b, v => by simp [namesEs]
  | x :: a, b, v => by simp [namesEs, namesEs_append a b v, Bool.or_assoc]

end Go.Aug.Api

namespace Go.Aug.Api
open Go.Aug

/-- How two numbers stand to each other. -/
def cmpI (a b : Int) : Int := if a < b then -1 else if b < a then 1 else 0
def cmpV (a b : TVal) : Int := if a.kind = 2 then cmpB a.s b.s else cmpI a.n b.n
/-- Does a comparison say so? -/
def signOf (op c : Int) : Bool := if op = 1 then decide (c = 0) else if op = 2 then decide (c ≠ 0) else if op = 3 then decide (c < 0) else if op = 4 then decide (c ≤ 0) else if op = 5 then decide (0 < c) else decide (0 ≤ c)
def compareV (op : Int) (a b : TVal) : Bool × Int :=
  if rightV a = false ∨ rightV b = false ∨ op < 1 ∨ 6 < op then (false, 1) else if a.kind ≠ b.kind then (false, 42) else if a.kind = 3 ∧ 2 < op then (false, 42) else (signOf op (cmpV a b), 0)
/-- Does a predicate hold? -/
def holdsS (s : TScope) (op : Int) (L R : TExpr) : Bool :=
  if (valueS s L).2 = 12 ∨ (valueS s R).2 = 12 then true else if (valueS s L).2 ≠ 0 ∨ (valueS s R).2 ≠ 0 then false else (compareV op (valueS s L).1 (valueS s R).1).1

theorem cmpI_range (a b : Int) : cmpI a b = -1 ∨ cmpI a b = 0 ∨ cmpI a b = 1 := by unfold cmpI; grind
theorem cmpV_range (a b : TVal) : cmpV a b = -1 ∨ cmpV a b = 0 ∨ cmpV a b = 1 := by
  unfold cmpV
  split
  · exact cmp_range _ _
  · exact cmpI_range _ _

end Go.Aug.Api

/- What a name, a right value, a right query are, as the references of chapters 04, 05, 07, 08 say. Conditions: none; definitions and plain lemmas. -/

namespace Go.Aug.Api
open Go.Aug

/-- May that byte stand at a place of a name? -/
def okB (first : Bool) (c : Int) : Bool := (decide (97 ≤ c) && decide (c ≤ 122)) || (!first && (decide (c = 95) || (decide (48 ≤ c) && decide (c ≤ 57))))
def wordL : Bool → List UInt8 → Bool
  | _, [] => true
  | f, b :: l => okB f (b.toNat : Int) && wordL false l
def wordS (s : ByteArray) : Bool := wordL true s.data.toList && decide (1 ≤ s.size) && decide (s.size ≤ 16)

/-- The words that are no names. -/
def keysL : List ByteArray := [⟨#[115, 101, 113]⟩, ⟨#[116, 104, 101, 110]⟩, ⟨#[110, 111, 116]⟩, ⟨#[111, 114]⟩, ⟨#[119, 104, 101, 114, 101]⟩, ⟨#[97, 110, 100]⟩, ⟨#[119, 105, 116, 104, 105, 110]⟩, ⟨#[98, 121]⟩, ⟨#[112, 105, 99, 107]⟩, ⟨#[97, 110, 121]⟩, ⟨#[110, 101, 120, 116]⟩, ⟨#[115, 116, 114, 105, 99, 116]⟩, ⟨#[116, 114, 117, 101]⟩, ⟨#[102, 97, 108, 115, 101]⟩, ⟨#[99, 111, 117, 110, 116]⟩, ⟨#[115, 117, 109]⟩, ⟨#[109, 105, 110]⟩, ⟨#[109, 97, 120]⟩]
def keyS (s : ByteArray) : Bool := keysL.any fun k => decide (k = s)
def nameS (s : ByteArray) : Bool := wordS s && !keyS s

theorem wordL_append (a b : List UInt8) (f : Bool) : wordL f (a ++ b) = (wordL f a && wordL (f && a.isEmpty) b) := by
  induction a generalizing f with
  | nil => simp [wordL]
  | cons x a ih => simp [wordL, ih, Bool.and_assoc]

theorem idxS_zip (s : ByteArray) (pre : List UInt8) (b : UInt8) (suf : List UInt8) (h : s.data.toList = pre ++ b :: suf) (k : IntKind) : evIdxS (strD s) (.v (.int k (pre.length : Nat))) = some (.v (.int .u8 (b.toNat : Nat))) := by
  have hs : s.data[pre.length]? = some b := by
    rw [← Array.getElem?_toList, h]
    simp
  have hlt : pre.length < s.data.size := (Array.getElem?_eq_some_iff.1 hs).1
  have : s[pre.length]? = some b := by
    rw [getElem?_pos s pre.length hlt]
    have := (Array.getElem?_eq_some_iff.1 hs).2
    exact congrArg some this
  simp only [evIdxS]
  rw [if_pos (by omega), Int.toNat_natCast, this]

theorem size_list (s : ByteArray) : s.size = s.data.toList.length := by rw [Array.length_toList]; rfl

/-- May a text stand in quotes? -/
def plainL : List UInt8 → Bool
  | [] => true
  | b :: l => !(decide ((b.toNat : Int) < 32) || decide (126 < (b.toNat : Int)) || decide ((b.toNat : Int) = 39)) && plainL l

mutual
/-- Is that an expression, and no deeper than may be? -/
def rightE : Int → TExpr → Bool
  | most, .mk k v var f _ kids =>
    if most < 1 ∨ (¬ (k = 7 ∨ k = 8) ∧ kids ≠ []) ∨ (k ≠ 1 ∧ v ≠ zVal) then false
    else if k = 2 ∨ k = 4 ∨ k = 5 ∨ k = 6 then nameS var && nameS f
    else if k = 3 then nameS var && decide (f = emptyS)
    else if var ≠ emptyS ∨ f ≠ emptyS then false
    else if k = 7 ∨ k = 8 then rightTwo (most - 1) kids
    else plainL v.s.data.toList && (decide (k = 1) && rightV v)
def rightTwo : Int → List TExpr → Bool
  | most, [a, b] => rightE most a && rightE most b
  | _, _ => false
end

/-- Are names of an item in order: each one, none twice? -/
def namesOk : List ByteArray → List ByteArray → Bool
  | _, [] => true
  | pre, s :: l => nameS s && !(pre.any fun p => decide (p = s)) && namesOk (pre ++ [s]) l
def rightItem (x : TItem) (first : Bool) : Bool :=
  if nameS x.var = false ∨ x.names.l.length < 1 ∨ 3 < x.names.l.length ∨ x.mode < 1 ∨ 3 < x.mode then false
  else if namesOk [] x.names.l = false then false
  else if first = true ∧ (x.not = true ∨ x.mode = 3) then false
  else !x.not || decide (x.mode = 1)

def itemsOk : List TItem → List TItem → Bool
  | _, [] => true
  | pre, x :: l => rightItem x pre.isEmpty && !(pre.any fun p => decide (p.var = x.var)) && itemsOk (pre ++ [x]) l
def predOk (p : TPred) : Bool := decide (1 ≤ p.cmp) && decide (p.cmp ≤ 6) && rightE 6 p.L && rightE 6 p.R
/-- Is that a query? -/
def rightQ (q : TQuery) : Bool :=
  if q.items.l.length < 1 ∨ 6 < q.items.l.length ∨ 8 < q.preds.l.length then false
  else itemsOk [] q.items.l && q.preds.l.all predOk &&
    (decide (0 ≤ q.within) && decide (q.within ≤ maxNum) && (decide (q.by_ = emptyS) || nameS q.by_) && decide (1 ≤ q.pick) && decide (q.pick ≤ 3))

end Go.Aug.Api

/- The kinds of expressions and the places that they name, as chapter 09 has them. Conditions: none; definitions and plain lemmas. -/

namespace Go.Aug.Api
open Go.Aug

def zItem : TItem := ⟨false, .nil, ⟨#[]⟩, 0, fun _ h => by simp [Sl.nil] at h, Nat.zero_le _⟩
/-- The place of a variable's item; below 0: there is none. -/
def placeS (l : List TItem) (v : ByteArray) : Int := idx (fun x : TItem => decide (x.var = v)) l
def itemS (l : List TItem) (v : ByteArray) : TItem := match l.find? (fun x => decide (x.var = v)) with
  | some x => x
  | none => zItem

/-- The kind of a field in the schema of a name. -/
def kindF (l : List TSchema) (f name : ByteArray) : Int := (fieldS (findS l name).1 f).2
/-- The kind of a field, if it has one alone in the schemas of all names. -/
def fieldK (l : List TSchema) (names : List ByteArray) (f : ByteArray) : Int :=
  match names with
  | [] => 0
  | n :: r => if (r.all fun m => decide (kindF l f m = kindF l f n)) = true then kindF l f n else 0

/-- What an expression's kind is, that has no parts. -/
def leafK (l : List TSchema) (q : List TItem) (k vk : Int) (var f : ByteArray) : Int :=
  if k = 1 then vk else
  let kind := if k = 2 then fieldK l (itemS q var).names.l f else if k = 3 then 1 else if k = 4 ∨ k = 5 ∨ k = 6 then (if fieldK l (itemS q var).names.l f = 1 then 1 else 0) else 0
  if placeS q var < 0 ∨ ((itemS q var).not = true ∧ k ≠ 2) then 0 else kind

mutual
/-- An expression's kind; 0: it has none. -/
def kindS (l : List TSchema) (q : List TItem) : TExpr → Int
  | .mk k v var f _ kids => if k = 7 ∨ k = 8 then kindTwo l q kids else leafK l q k v.kind var f
def kindTwo (l : List TSchema) (q : List TItem) : List TExpr → Int
  | [a, b] => if kindS l q a = 1 ∧ kindS l q b = 1 then 1 else 0
  | _ => 0
end

mutual
/-- The variables that an expression names. -/
def eachV : TExpr → List ByteArray
  | .mk k _ var _ _ kids => if 2 ≤ k ∧ k ≤ 6 then [var] else if k = 7 ∨ k = 8 then eachVs kids else []
def eachVs : List TExpr → List ByteArray
  | [] => []
  | x :: l => eachV x ++ eachVs l
end

/-- Places, each once, as they come. -/
def addP (l : List Int) (n : Int) : List Int := if 0 ≤ n then (if l.contains n then l else l ++ [n]) else l
def placesS (q : List TItem) (vs : List ByteArray) : List Int := vs.foldl (fun l v => addP l (placeS q v)) []
/-- The places that expressions name, rising. -/
def varsS (q : List TItem) (xs : List TExpr) : List Int := sortI (placesS q (eachVs xs))

end Go.Aug.Api
