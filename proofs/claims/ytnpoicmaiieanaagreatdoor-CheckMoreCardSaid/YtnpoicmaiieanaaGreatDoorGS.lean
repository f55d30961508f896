/-
What the functions of values, events and expressions say of data. Conditions: none; definitions and plain lemmas.
-/
import Derived.Test.YtnpoicmaiieanaaGreatDoorGL
import Derived.Test.YtnpoicmaiieanaaGreatDoorGR
import Derived.Test.YtnpoicmaiieanaaGreatDoorTO3
import Derived.Lib.IndexLaws
namespace Go.Aug.Api
open Go.Aug

def maxNum : Int := 1099511627776
def emptyS : ByteArray := ⟨#[]⟩

/-- May that be a value? -/
def rightV (v : TVal) : Bool :=
  if v.kind = 1 then decide (-maxNum ≤ v.n) && decide (v.n ≤ maxNum) && decide (v.s = emptyS)
  else if v.kind = 3 then decide (0 ≤ v.n) && decide (v.n ≤ 1) && decide (v.s = emptyS)
  else if v.kind = 2 then decide (v.n = 0) && decide (v.s.size ≤ 64)
  else false

def bothV (a b : TVal) : Int := if rightV a = false ∨ rightV b = false then 1 else if a.kind ≠ 1 ∨ b.kind ≠ 1 then 42 else 0

theorem both_zero {a b : TVal} (h : bothV a b = 0) : rightV a = true ∧ rightV b = true ∧ a.kind = 1 ∧ b.kind = 1 := by
  unfold bothV at h
  grind

theorem right_num {v : TVal} (h : rightV v = true) (hk : v.kind = 1) : -maxNum ≤ v.n ∧ v.n ≤ maxNum ∧ v.s = emptyS := by
  unfold rightV at h
  grind

abbrev VE := TVal × Int
def VE.enc (r : VE) : D := .tup [.agg (valC r.1), i64D r.2]

/-- What comes of two numbers. -/
def ofSum (n : Int) : VE := if -maxNum ≤ n ∧ n ≤ maxNum then (⟨1, n, emptyS⟩, 0) else (zVal, 41)
def addV (a b : TVal) : VE := if bothV a b = 0 then ofSum (a.n + b.n) else (zVal, bothV a b)
def subV (a b : TVal) : VE := if bothV a b = 0 then ofSum (a.n - b.n) else (zVal, bothV a b)

def zSchema : TSchema := ⟨emptyS, .nil⟩
/-- The schema of a name. -/
def findS (l : List TSchema) (name : ByteArray) : TSchema × Bool := match l.find? (fun s => decide (s.name = name)) with
  | some s => (s, true)
  | none => (zSchema, false)
/-- A field's place and kind. -/
def fieldS (s : TSchema) (name : ByteArray) : Int × Int := (idx (fun f => decide (f.name = name)) s.fields.l, match s.fields.l.find? (fun f => decide (f.name = name)) with
  | some f => f.kind
  | none => 0)

theorem idx_cases {α : Type} (p : α → Bool) (l : List α) : (idx p l = -1 ∧ (∀ x ∈ l, p x = false) ∧ l.find? p = none) ∨
    ∃ pre x suf, l = pre ++ x :: suf ∧ (∀ y ∈ pre, p y = false) ∧ p x = true ∧ idx p l = (pre.length : Nat) ∧ l.find? p = some x := by
  induction l with
  | nil => left; simp [idx]
  | cons y l ih =>
    cases hy : p y with
    | true => right; exact ⟨[], y, l, rfl, by simp, hy, idx_some [] y l (by simp) hy, by simp [hy]⟩
    | false =>
      rcases ih with ⟨h1, h2, h3⟩ | ⟨pre, x, suf, rfl, h1, h2, h3, h4⟩
      · left
        have : ∀ x ∈ y :: l, p x = false := by
          intro x hx
          rcases List.mem_cons.1 hx with rfl | hx
          · exact hy
          · exact h2 x hx
        exact ⟨idx_none this, this, by simp [hy, h3]⟩
      · right
        have hp : ∀ z ∈ y :: pre, p z = false := by
          intro z hz
          rcases List.mem_cons.1 hz with rfl | hz
          · exact hy
          · exact h1 z hz
        exact ⟨y :: pre, x, suf, rfl, hp, h2, idx_some (y :: pre) x suf hp h2, by simp only [List.find?_cons, hy]; exact h4⟩

end Go.Aug.Api

/- What expressions are worth. Conditions: none; definitions and plain lemmas. -/

namespace Go.Aug.Api
open Go.Aug

structure TScope where
  l : Sl TSchema
  q : TQuery
  bound : Sl (Sl TEvent)
def scopeC (s : TScope) : List D := [s.l.enc schemaC, s.q.items.enc itemC, s.q.preds.enc predC, i64D s.q.within, strD s.q.by_, i64D s.q.pick, s.bound.enc rowC]

/-- The events that are bound to a variable's item; false: there is no such item. -/
def rowS (s : TScope) (v : ByteArray) : Sl TEvent × Bool :=
  if idx (fun x : TItem => decide (x.var = v)) s.q.items.l < 0 then (.nil, false)
  else match s.bound.l[(idx (fun x : TItem => decide (x.var = v)) s.q.items.l).toNat]? with
    | some r => (r, true)
    | none => (.nil, true)

/-- An event's field. -/
def fieldE (s : TScope) (e : TEvent) (name : ByteArray) : VE :=
  if (findS s.l.l e.name).2 = true ∧ 0 ≤ (fieldS (findS s.l.l e.name).1 name).1 then
    match e.vals.l[(fieldS (findS s.l.l e.name).1 name).1.toNat]? with
    | some v => (v, 0)
    | none => (zVal, 12)
  else (zVal, 12)

/-- A field that must be a number. -/
def numE (s : TScope) (e : TEvent) (name : ByteArray) : VE :=
  if (fieldE s e name).2 = 0 ∧ (fieldE s e name).1.kind ≠ 1 then ((fieldE s e name).1, 42) else fieldE s e name

/-- What comes of two numbers, of which one is what came of those ahead. -/
def foldOf (kind : Int) (a b : TVal) : VE :=
  if kind = 4 then addV a b else if kind = 5 then (if b.n < a.n then (b, 0) else (a, 0)) else if kind = 6 then (if a.n < b.n then (b, 0) else (a, 0)) else (zVal, 0)

/-- What comes of a field of all events. -/
def foldS (s : TScope) (kind : Int) (name : ByteArray) : List TEvent → TVal → VE
  | [], out => (out, 0)
  | e :: l, out => if (numE s e name).2 ≠ 0 then (zVal, (numE s e name).2) else
    if (foldOf kind out (numE s e name).1).2 ≠ 0 then (zVal, (foldOf kind out (numE s e name).1).2) else foldS s kind name l (foldOf kind out (numE s e name).1).1

def foldedS (s : TScope) (kind : Int) (name : ByteArray) : List TEvent → VE
  | [] => (zVal, 0)
  | e :: l => if (numE s e name).2 ≠ 0 then (zVal, (numE s e name).2) else foldS s kind name l (numE s e name).1

/-- What comes of two expressions. -/
def twoS (of : TVal → TVal → VE) (a b : VE) : VE := if a.2 ≠ 0 then (zVal, a.2) else if b.2 ≠ 0 then (zVal, b.2) else of a.1 b.1

/-- What an expression that has no parts is worth. -/
def leafS (s : TScope) (kind : Int) (v : TVal) (var field : ByteArray) : VE :=
  if kind = 1 then (if rightV v = true then (v, 0) else (zVal, 1)) else
  if (rowS s var).2 = false ∨ kind < 2 ∨ 6 < kind then (zVal, 1) else
  if kind = 3 then (⟨1, (rowS s var).1.l.length, emptyS⟩, 0) else
  match (rowS s var).1.l.getLast? with
  | none => (zVal, 12)
  | some e => if kind = 2 then fieldE s e field else foldedS s kind field (rowS s var).1.l

mutual
def valueS (s : TScope) : TExpr → VE
  | .mk kind v var field _ kids =>
    if kind = 7 then twoKids s addV kids else if kind = 8 then twoKids s subV kids else leafS s kind v var field
def twoKids (s : TScope) (of : TVal → TVal → VE) : List TExpr → VE
  | [a, b] => twoS of (valueS s a) (valueS s b)
  | _ => (zVal, 1)
end

end Go.Aug.Api

namespace Go.Aug.Api
open Go.Aug

mutual
/-- Does an expression name a variable? -/
def namesE : TExpr → ByteArray → Bool
  | .mk _ _ var _ _ kids, v => decide (var = v) || namesEs kids v
def namesEs : List TExpr → ByteArray → Bool
  | [], _ => false
  | x :: l, v => namesE x v || namesEs l v
end

theorem namesEs_append : ∀ (a b : List TExpr) (v : ByteArray), namesEs (a ++ b) v = (namesEs a v || namesEs b v)
  | [], b, v => by simp [namesEs]
  | x :: a, b, v => by simp [namesEs, namesEs_append a b v, Bool.or_assoc]

end Go.Aug.Api

namespace Go.Aug.Api
open Go.Aug

/-- How two numbers stand to each other. -/
def cmpI (a b : Int) : Int := if a < b then -1 else if b < a then 1 else 0
def cmpV (a b : TVal) : Int := if a.kind = 2 then cmpB a.s b.s else cmpI a.n b.n
/-- Does a comparison say so? -/
def signOf (op c : Int) : Bool := if op = 1 then decide (c = 0) else if op = 2 then decide (c ≠ 0) else if op = 3 then decide (c < 0) else if op = 4 then decide (c ≤ 0) else if op = 5 then decide (0 < c) else decide (0 ≤ c)
def compareV (op : Int) (a b : TVal) : Bool × Int :=
  if rightV a = false ∨ rightV b = false ∨ op < 1 ∨ 6 < op then (false, 1) else if a.kind ≠ b.kind then (false, 42) else if a.kind = 3 ∧ 2 < op then (false, 42) else (signOf op (cmpV a b), 0)
/-- Does a predicate hold? -/
def holdsS (s : TScope) (op : Int) (L R : TExpr) : Bool :=
  if (valueS s L).2 = 12 ∨ (valueS s R).2 = 12 then true else if (valueS s L).2 ≠ 0 ∨ (valueS s R).2 ≠ 0 then false else (compareV op (valueS s L).1 (valueS s R).1).1

theorem cmpI_range (a b : Int) : cmpI a b = -1 ∨ cmpI a b = 0 ∨ cmpI a b = 1 := by unfold cmpI; grind
theorem cmpV_range (a b : TVal) : cmpV a b = -1 ∨ cmpV a b = 0 ∨ cmpV a b = 1 := by
  unfold cmpV
  split
  · exact cmp_range _ _
  · exact cmpI_range _ _

end Go.Aug.Api

/- What a name, a right value, a right query are, as the references of chapters 04, 05, 07, 08 say. Conditions: none; definitions and plain lemmas. -/

namespace Go.Aug.Api
open Go.Aug

/-- May that byte stand at a place of a name? -/
def okB (first : Bool) (c : Int) : Bool := (decide (97 ≤ c) && decide (c ≤ 122)) || (!first && (decide (c = 95) || (decide (48 ≤ c) && decide (c ≤ 57))))
def wordL : Bool → List UInt8 → Bool
  | _, [] => true
  | f, b :: l => okB f (b.toNat : Int) && wordL false l
def wordS (s : ByteArray) : Bool := wordL true s.data.toList && decide (1 ≤ s.size) && decide (s.size ≤ 16)

/-- The words that are no names. -/
def keysL : List ByteArray := [⟨#[115, 101, 113]⟩, ⟨#[116, 104, 101, 110]⟩, ⟨#[110, 111, 116]⟩, ⟨#[111, 114]⟩, ⟨#[119, 104, 101, 114, 101]⟩, ⟨#[97, 110, 100]⟩, ⟨#[119, 105, 116, 104, 105, 110]⟩, ⟨#[98, 121]⟩, ⟨#[112, 105, 99, 107]⟩, ⟨#[97, 110, 121]⟩, ⟨#[110, 101, 120, 116]⟩, ⟨#[115, 116, 114, 105, 99, 116]⟩, ⟨#[116, 114, 117, 101]⟩, ⟨#[102, 97, 108, 115, 101]⟩, ⟨#[99, 111, 117, 110, 116]⟩, ⟨#[115, 117, 109]⟩, ⟨#[109, 105, 110]⟩, ⟨#[109, 97, 120]⟩]
def keyS (s : ByteArray) : Bool := keysL.any fun k => decide (k = s)
def nameS (s : ByteArray) : Bool := wordS s && !keyS s

theorem wordL_append (a b : List UInt8) (f : Bool) : wordL f (a ++ b) = (wordL f a && wordL (f && a.isEmpty) b) := by
  induction a generalizing f with
  | nil => simp [wordL]
  | cons x a ih => simp [wordL, ih, Bool.and_assoc]

theorem idxS_zip (s : ByteArray) (pre : List UInt8) (b : UInt8) (suf : List UInt8) (h : s.data.toList = pre ++ b :: suf) (k : IntKind) : evIdxS (strD s) (.v (.int k (pre.length : Nat))) = some (.v (.int .u8 (b.toNat : Nat))) := by
  have hs : s.data[pre.length]? = some b := by
    rw [← Array.getElem?_toList, h]
    simp
  have hlt : pre.length < s.data.size := (Array.getElem?_eq_some_iff.1 hs).1
  have : s[pre.length]? = some b := by
    rw [getElem?_pos s pre.length hlt]
    have := (Array.getElem?_eq_some_iff.1 hs).2
    exact congrArg some this
  simp only [evIdxS]
  rw [if_pos (by omega), Int.toNat_natCast, this]

theorem size_list (s : ByteArray) : s.size = s.data.toList.length := by rw [Array.length_toList]; rfl

/-- May a text stand in quotes? -/
def plainL : List UInt8 → Bool
  | [] => true
  | b :: l => !(decide ((b.toNat : Int) < 32) || decide (126 < (b.toNat : Int)) || decide ((b.toNat : Int) = 39)) && plainL l

mutual
/-- Is that an expression, and no deeper than may be? -/
def rightE : Int → TExpr → Bool
  | most, .mk k v var f _ kids =>
    if most < 1 ∨ (¬ (k = 7 ∨ k = 8) ∧ kids ≠ []) ∨ (k ≠ 1 ∧ v ≠ zVal) then false
    else if k = 2 ∨ k = 4 ∨ k = 5 ∨ k = 6 then nameS var && nameS f
    else if k = 3 then nameS var && decide (f = emptyS)
    else if var ≠ emptyS ∨ f ≠ emptyS then false
    else if k = 7 ∨ k = 8 then rightTwo (most - 1) kids
    else plainL v.s.data.toList && (decide (k = 1) && rightV v)
def rightTwo : Int → List TExpr → Bool
  | most, [a, b] => rightE most a && rightE most b
  | _, _ => false
end

/-- Are names of an item in order: each one, none twice? -/
def namesOk : List ByteArray → List ByteArray → Bool
  | _, [] => true
  | pre, s :: l => nameS s && !(pre.any fun p => decide (p = s)) && namesOk (pre ++ [s]) l
def rightItem (x : TItem) (first : Bool) : Bool :=
  if nameS x.var = false ∨ x.names.l.length < 1 ∨ 3 < x.names.l.length ∨ x.mode < 1 ∨ 3 < x.mode then false
  else if namesOk [] x.names.l = false then false
  else if first = true ∧ (x.not = true ∨ x.mode = 3) then false
  else !x.not || decide (x.mode = 1)

def itemsOk : List TItem → List TItem → Bool
  | _, [] => true
  | pre, x :: l => rightItem x pre.isEmpty && !(pre.any fun p => decide (p.var = x.var)) && itemsOk (pre ++ [x]) l
def predOk (p : TPred) : Bool := decide (1 ≤ p.cmp) && decide (p.cmp ≤ 6) && rightE 6 p.L && rightE 6 p.R
/-- Is that a query? -/
def rightQ (q : TQuery) : Bool :=
  if q.items.l.length < 1 ∨ 6 < q.items.l.length ∨ 8 < q.preds.l.length then false
  else itemsOk [] q.items.l && q.preds.l.all predOk &&
    (decide (0 ≤ q.within) && decide (q.within ≤ maxNum) && (decide (q.by_ = emptyS) || nameS q.by_) && decide (1 ≤ q.pick) && decide (q.pick ≤ 3))

end Go.Aug.Api

/- The kinds of expressions and the places that they name, as chapter 09 has them. Conditions: none; definitions and plain lemmas. -/

namespace Go.Aug.Api
open Go.Aug

def zItem : TItem := ⟨false, .nil, ⟨#[]⟩, 0, fun _ h => by simp [Sl.nil] at h, Nat.zero_le _⟩
/-- The place of a variable's item; below 0: there is none. -/
def placeS (l : List TItem) (v : ByteArray) : Int := idx (fun x : TItem => decide (x.var = v)) l
def itemS (l : List TItem) (v : ByteArray) : TItem := match l.find? (fun x => decide (x.var = v)) with
  | some x => x
  | none => zItem

/-- The kind of a field in the schema of a name. -/
def kindF (l : List TSchema) (f name : ByteArray) : Int := (fieldS (findS l name).1 f).2
/-- The kind of a field, if it has one alone in the schemas of all names. -/
def fieldK (l : List TSchema) (names : List ByteArray) (f : ByteArray) : Int :=
  match names with
  | [] => 0
  | n :: r => if (r.all fun m => decide (kindF l f m = kindF l f n)) = true then kindF l f n else 0

/-- What an expression's kind is, that has no parts. -/
def leafK (l : List TSchema) (q : List TItem) (k vk : Int) (var f : ByteArray) : Int :=
  if k = 1 then vk else
  let kind := if k = 2 then fieldK l (itemS q var).names.l f else if k = 3 then 1 else if k = 4 ∨ k = 5 ∨ k = 6 then (if fieldK l (itemS q var).names.l f = 1 then 1 else 0) else 0
  if placeS q var < 0 ∨ ((itemS q var).not = true ∧ k ≠ 2) then 0 else kind

mutual
/-- An expression's kind; 0: it has none. -/
def kindS (l : List TSchema) (q : List TItem) : TExpr → Int
  | .mk k v var f _ kids => if k = 7 ∨ k = 8 then kindTwo l q kids else leafK l q k v.kind var f
def kindTwo (l : List TSchema) (q : List TItem) : List TExpr → Int
  | [a, b] => if kindS l q a = 1 ∧ kindS l q b = 1 then 1 else 0
  | _ => 0
end

mutual
/-- The variables that an expression names. -/
def eachV : TExpr → List ByteArray
  | .mk k _ var _ _ kids => if 2 ≤ k ∧ k ≤ 6 then [var] else if k = 7 ∨ k = 8 then eachVs kids else []
def eachVs : List TExpr → List ByteArray
  | [] => []
  | x :: l => eachV x ++ eachVs l
end

/-- Places, each once, as they come. -/
def addP (l : List Int) (n : Int) : List Int := if 0 ≤ n then (if l.contains n then l else l ++ [n]) else l
def placesS (q : List TItem) (vs : List ByteArray) : List Int := vs.foldl (fun l v => addP l (placeS q v)) []
/-- The places that expressions name, rising. -/
def varsS (q : List TItem) (xs : List TExpr) : List Int := sortI (placesS q (eachVs xs))

end Go.Aug.Api

/- The words kept for the language, as they are searched for in one text. Conditions: none; plain lemmas. -/

namespace Go.Aug.Api
open Go.Aug

theorem index_pos_iff : ∀ (s sub : List UInt8), 0 ≤ Lib.index s sub ↔ ∃ j, j ≤ s.length ∧ Lib.occAt s sub j = true := by
  intro s sub
  constructor
  · intro h
    refine Classical.byContradiction fun hn => ?_
    have : Lib.index s sub = -1 := Lib.index_none fun j hj => by
      cases ho : Lib.occAt s sub j with
      | false => rfl
      | true => exact absurd ⟨j, hj, ho⟩ hn
    omega
  · rintro ⟨j, hj, ho⟩
    -- the first one
    have : ∀ n, n ≤ s.length → Lib.occAt s sub n = true → ∃ i, i ≤ n ∧ Lib.occAt s sub i = true ∧ ∀ k, k < i → Lib.occAt s sub k = false := by
      intro n
      induction n using Nat.strongRecOn with
      | ind n ih =>
        intro hn h
        by_cases hx : ∃ k, k < n ∧ Lib.occAt s sub k = true
        · obtain ⟨k, hk, hk2⟩ := hx
          obtain ⟨i, h1, h2, h3⟩ := ih k hk (by omega) hk2
          exact ⟨i, by omega, h2, h3⟩
        · refine ⟨n, Nat.le_refl _, h, fun k hk => ?_⟩
          cases ho : Lib.occAt s sub k with
          | false => rfl
          | true => exact absurd ⟨k, hk, ho⟩ hx
    obtain ⟨i, h1, h2, h3⟩ := this j hj ho
    rw [Lib.index_first (by omega) h2 h3]
    omega

/-- The words kept, with a space at each end. -/
def keysK : List UInt8 := [32, 115, 101, 113, 32, 116, 104, 101, 110, 32, 110, 111, 116, 32, 111, 114, 32, 119, 104, 101, 114, 101, 32, 97, 110, 100, 32, 119, 105, 116, 104, 105, 110, 32, 98, 121, 32, 112, 105, 99, 107, 32, 97, 110, 121, 32, 110, 101, 120, 116, 32, 115, 116, 114, 105, 99, 116, 32, 116, 114, 117, 101, 32, 102, 97, 108, 115, 101, 32, 99, 111, 117, 110, 116, 32, 115, 117, 109, 32, 109, 105, 110, 32, 109, 97, 120, 32]

theorem occ_space (w : List UInt8) : (0 ≤ Lib.index w [32]) ↔ (32 : UInt8) ∈ w := by
  rw [index_pos_iff]
  constructor
  · rintro ⟨j, -, h⟩
    have := Lib.occAt_head (s := w) (sub := [32]) (i := j) (c := 32) (t := []) rfl h
    exact List.mem_of_getElem? this
  · intro h
    obtain ⟨j, hj, e⟩ := List.getElem_of_mem h
    refine ⟨j, by omega, ?_⟩
    rw [Lib.occAt_iff_take _ _ _ (by simp; omega)]
    rw [List.drop_eq_getElem_cons hj, e]
    simp

def keysB : List (List UInt8) := keysL.map fun k => k.data.toList

/-- No other word stands between two spaces. -/
theorem keys_only : ∀ j, j < 87 → ∀ n, n < 17 → (keysK[j]? = some 32 ∧ keysK[j + n + 1]? = some 32 ∧ ((keysK.drop (j + 1)).take n).all (fun b => b != 32) = true ∧ n ≠ 0) → keysB.contains ((keysK.drop (j + 1)).take n) = true := by decide +kernel
theorem keys_all : ∀ k ∈ keysB, 0 ≤ Lib.index keysK (32 :: (k ++ [32])) := by decide +kernel
theorem keys_plain : ∀ k ∈ keysB, (32 : UInt8) ∉ k ∧ k ≠ [] := by decide +kernel

theorem keyB_iff (w : List UInt8) (hw : w.length ≤ 16) : (w ≠ [] ∧ (32 : UInt8) ∉ w ∧ 0 ≤ Lib.index keysK (32 :: (w ++ [32]))) ↔ w ∈ keysB := by
  constructor
  · rintro ⟨h1, h2, h3⟩
    obtain ⟨j, hj, ho⟩ := (index_pos_iff _ _).1 h3
    have hr := (Lib.occAt_room ho).resolve_right (by simp)
    have hK : keysK.length = 87 := by decide
    simp only [List.length_cons, List.length_append, List.length_nil] at hr
    rw [Lib.occAt_iff_take _ _ _ (by simp only [List.length_cons, List.length_append, List.length_nil]; omega)] at ho
    have ho' : (keysK.drop j).take (w.length + 2) = 32 :: (w ++ [32]) := by
      have := eq_of_beq ho
      simpa using this
    have g0 : keysK[j]? = some 32 := by
      have := congrArg (fun l => l[0]?) ho'
      simpa [List.getElem?_take, List.getElem?_drop] using this
    have gi : ∀ i, i < w.length → keysK[j + 1 + i]? = w[i]? := by
      intro i hi
      have := congrArg (fun l => l[i + 1]?) ho'
      simp [List.getElem?_take, List.getElem?_drop, List.getElem?_append_left hi] at this
      rw [if_pos (by omega)] at this
      rw [show j + 1 + i = j + (i + 1) by omega]
      exact this
    have gn : keysK[j + w.length + 1]? = some 32 := by
      have := congrArg (fun l => l[w.length + 1]?) ho'
      simp [List.getElem?_take, List.getElem?_drop] at this
      rw [show j + w.length + 1 = j + (w.length + 1) by omega]
      exact this
    have ew : (keysK.drop (j + 1)).take w.length = w := by
      apply List.ext_getElem?
      intro i
      rw [List.getElem?_take]
      split
      · rename_i hi
        rw [List.getElem?_drop]
        exact gi i hi
      · rename_i hi
        rw [List.getElem?_eq_none (by omega)]
    have := keys_only j (by omega) w.length (by omega) ⟨g0, gn, by
      rw [ew, List.all_eq_true]
      intro b hb
      simp only [bne_iff_ne, ne_eq]
      rintro rfl
      exact h2 hb, fun h => h1 (List.eq_nil_of_length_eq_zero h)⟩
    rw [ew] at this
    exact List.contains_iff_mem.1 this
  · intro h
    exact ⟨(keys_plain w h).2, (keys_plain w h).1, keys_all w h⟩

theorem keyS_iff (w : ByteArray) : keyS w = true ↔ w.data.toList ∈ keysB := by
  unfold keyS keysB
  rw [List.any_eq_true, List.mem_map]
  constructor
  · rintro ⟨k, hk, e⟩
    exact ⟨k, hk, by rw [of_decide_eq_true e]⟩
  · rintro ⟨k, hk, e⟩
    refine ⟨k, hk, decide_eq_true ?_⟩
    obtain ⟨⟨k⟩⟩ := k
    obtain ⟨⟨w⟩⟩ := w
    simp at e
    subst e
    rfl

end Go.Aug.Api

/- Which queries can be asked of which schemas, as chapter 09 has it; and that more schemas behind change nothing where all was found. Conditions: none; definitions and plain lemmas. -/

namespace Go.Aug.Api
open Go.Aug

mutual
/-- May that be an expression, so deep? -/
def rightX : Int → TExpr → Bool
  | most, .mk k v var f _ kids =>
    if most = 0 then false
    else if k = 1 then decide (var = emptyS) && decide (f = emptyS) && kids.isEmpty && rightV v && plainL v.s.data.toList
    else if k = 3 then decide (v = zVal) && kids.isEmpty && nameS var && decide (f = emptyS)
    else if 2 ≤ k ∧ k ≤ 6 then decide (v = zVal) && kids.isEmpty && nameS var && nameS f
    else if k = 7 ∨ k = 8 then decide (var = emptyS) && decide (f = emptyS) && decide (v = zVal) && rightTwoX (most - 1) kids
    else false
def rightTwoX : Int → List TExpr → Bool
  | most, [a, b] => rightX most a && rightX most b
  | _, _ => false
end
def predX (p : TPred) : Bool := decide (1 ≤ p.cmp) && decide (p.cmp ≤ 6) && rightX 6 p.L && rightX 6 p.R
/-- May that be a query? -/
def rightP (q : TQuery) : Bool :=
  itemsOk [] q.items.l && q.preds.l.all predX && !(decide (q.items.l.length = 0) || decide (6 < q.items.l.length) || decide (8 < q.preds.l.length)) &&
    !(decide (q.within < 0) || decide (maxNum < q.within) || decide (q.pick < 1) || decide (3 < q.pick)) && (decide (q.by_ = emptyS) || nameS q.by_)

/-- Are there all schemas? Else at which item not. -/
def namesR (l : List TSchema) : Nat → List TItem → Option (Int × Int)
  | _, [] => none
  | i, x :: r => if (x.names.l.all fun n => (findS l n).2) = true then namesR l (i + 1) r else some ((i : Nat), 12)
def byL (l : List TSchema) (f : ByteArray) (kind : Int) : Nat → List TItem → Option (Int × Int)
  | _, [] => none
  | i, x :: r => if fieldK l x.names.l f = 0 ∨ fieldK l x.names.l f ≠ kind then some ((i : Nat), 91) else byL l f kind (i + 1) r
def firstK (l : List TSchema) (f : ByteArray) : List TItem → Int
  | [] => 0
  | x :: _ => fieldK l (x.names.l.take 1) f
def byR (l : List TSchema) (f : ByteArray) (q : List TItem) : Option (Int × Int) := if f = emptyS then none else byL l f (firstK l f q) 0 q
def kindsR (l : List TSchema) (q : List TItem) : Nat → List TPred → Option (Int × Int)
  | _, [] => none
  | i, p :: r => if kindS l q p.L = 0 ∨ kindS l q p.L ≠ kindS l q p.R ∨ (kindS l q p.L = 3 ∧ 2 < p.cmp) then some ((i : Nat), 42) else kindsR l q (i + 1) r
/-- Is what stands at a place one that must not come? -/
def notAt (q : List TItem) (n : Int) : Bool := match q[n.toNat]? with
  | some x => x.not
  | none => false
def notsR (q : List TItem) : Nat → List TPred → Option (Int × Int)
  | _, [] => none
  | i, p :: r => if 1 < (varsS q [p.L, p.R]).length ∧ ((varsS q [p.L, p.R]).dropLast.any (notAt q)) = true then some ((i : Nat), 91) else notsR q (i + 1) r

def firstE : List (Option (Int × Int)) → Int × Int
  | [] => (0, 0)
  | none :: l => firstE l
  | some (i, e) :: _ => (e, i)
/-- The error, and its place. -/
def checkR (l : List TSchema) (q : TQuery) : Int × Int :=
  if rightP q = true then firstE [namesR l 0 q.items.l, byR l q.by_ q.items.l, kindsR l q.items.l 0 q.preds.l, notsR q.items.l 0 q.preds.l] else (1, 0)

/-! ### more schemas behind -/

theorem findS_more (l m : List TSchema) (n : ByteArray) (h : (findS l n).2 = true) : findS (l ++ m) n = findS l n := by
  unfold findS at *
  rw [List.find?_append]
  cases hf : l.find? (fun s => decide (s.name = n)) with
  | none => rw [hf] at h; cases h
  | some s => rfl

theorem namesR_all (l : List TSchema) : ∀ (q : List TItem) (i : Nat), namesR l i q = none ↔ ∀ x ∈ q, ∀ n ∈ x.names.l, (findS l n).2 = true
  | [], i => by simp [namesR]
  | x :: r, i => by
    have ih := namesR_all l r (i + 1)
    unfold namesR
    split
    · rename_i h
      rw [ih]
      constructor
      · intro h2 y hy n hn
        rcases List.mem_cons.1 hy with rfl | hy
        · exact List.all_eq_true.1 h n hn
        · exact h2 y hy n hn
      · exact fun h2 y hy => h2 y (List.mem_cons_of_mem _ hy)
    · rename_i h
      constructor
      · intro h2; cases h2
      · intro h2
        exact absurd (List.all_eq_true.2 fun n hn => h2 x (List.mem_cons_self ..) n hn) h

theorem fieldK_more (l m : List TSchema) (f : ByteArray) (names : List ByteArray) (h : ∀ n ∈ names, (findS l n).2 = true) : fieldK (l ++ m) names f = fieldK l names f := by
  have hk : ∀ n ∈ names, kindF (l ++ m) f n = kindF l f n := fun n hn => by unfold kindF; rw [findS_more l m n (h n hn)]
  cases names with
  | nil => rfl
  | cons n r =>
    unfold fieldK
    have e : (r.all fun k => decide (kindF (l ++ m) f k = kindF (l ++ m) f n)) = r.all fun k => decide (kindF l f k = kindF l f n) := by
      rw [Bool.eq_iff_iff, List.all_eq_true, List.all_eq_true]
      constructor
      · intro h2 k hk2
        have := h2 k hk2
        rw [hk k (List.mem_cons_of_mem _ hk2), hk n (List.mem_cons_self ..)] at this
        exact this
      · intro h2 k hk2
        rw [hk k (List.mem_cons_of_mem _ hk2), hk n (List.mem_cons_self ..)]
        exact h2 k hk2
    show (if _ then _ else _) = (if _ then _ else _)
    rw [e, hk n (List.mem_cons_self ..)]

theorem itemS_names {q : List TItem} {P : ByteArray → Prop} (h : ∀ x ∈ q, ∀ n ∈ x.names.l, P n) (v : ByteArray) : ∀ n ∈ (itemS q v).names.l, P n := by
  unfold itemS
  split
  · rename_i x hx
    exact h x (List.mem_of_find?_eq_some hx)
  · intro n hn
    simp [zItem, Sl.nil] at hn

theorem leafK_more (l m : List TSchema) (q : List TItem) (h : ∀ x ∈ q, ∀ n ∈ x.names.l, (findS l n).2 = true) (k vk : Int) (var f : ByteArray) : leafK (l ++ m) q k vk var f = leafK l q k vk var f := by
  unfold leafK
  rw [fieldK_more l m f _ (itemS_names h var)]

theorem kindS_more (l m : List TSchema) (q : List TItem) (h : ∀ x ∈ q, ∀ n ∈ x.names.l, (findS l n).2 = true) : ∀ x : TExpr, kindS (l ++ m) q x = kindS l q x
  | .mk k v var f rep kids => by
    have ih : ∀ x ∈ kids, kindS (l ++ m) q x = kindS l q x := fun x _ => kindS_more l m q h x
    unfold kindS
    rw [leafK_more l m q h]
    have : kindTwo (l ++ m) q kids = kindTwo l q kids := by
      match kids, ih with
      | [], _ => rfl
      | [_], _ => rfl
      | [a, b], ih => simp only [kindTwo, ih a (by simp), ih b (by simp)]
      | _ :: _ :: _ :: _, _ => rfl
    rw [this]

theorem byR_more (l m : List TSchema) (f : ByteArray) (q : List TItem) (h : ∀ x ∈ q, ∀ n ∈ x.names.l, (findS l n).2 = true) : byR (l ++ m) f q = byR l f q := by
  have hl : ∀ (r : List TItem) (kind : Int) (i : Nat), (∀ x ∈ r, ∀ n ∈ x.names.l, (findS l n).2 = true) → byL (l ++ m) f kind i r = byL l f kind i r := by
    intro r
    induction r with
    | nil => intros; rfl
    | cons x r ih =>
      intro kind i hr
      unfold byL
      rw [fieldK_more l m f _ (hr x (List.mem_cons_self ..)), ih kind (i + 1) fun y hy => hr y (List.mem_cons_of_mem _ hy)]
  have hf : firstK (l ++ m) f q = firstK l f q := by
    cases q with
    | nil => rfl
    | cons x r => exact fieldK_more l m f _ fun n hn => h x (List.mem_cons_self ..) n (List.mem_of_mem_take hn)
  unfold byR
  rw [hf, hl q _ 0 h]

theorem kindsR_more (l m : List TSchema) (q : List TItem) (h : ∀ x ∈ q, ∀ n ∈ x.names.l, (findS l n).2 = true) : ∀ (ps : List TPred) (i : Nat), kindsR (l ++ m) q i ps = kindsR l q i ps
  | [], _ => rfl
  | p :: ps, i => by
    unfold kindsR
    rw [kindS_more l m q h p.L, kindS_more l m q h p.R, kindsR_more l m q h ps (i + 1)]

theorem firstE_codes {l : List (Option (Int × Int))} (hc : ∀ o ∈ l, ∀ p, o = some p → p.2 ≠ 0) : (firstE l).1 = 0 ↔ ∀ o ∈ l, o = none := by
  induction l with
  | nil => simp [firstE]
  | cons o l ih =>
    cases o with
    | none =>
      have := ih fun o ho => hc o (List.mem_cons_of_mem _ ho)
      simpa [firstE] using this
    | some p =>
      have := hc (some p) (List.mem_cons_self ..) p rfl
      obtain ⟨i, e⟩ := p
      simp [firstE]
      exact this

theorem namesR_code (l : List TSchema) : ∀ (q : List TItem) (i : Nat) (p : Int × Int), namesR l i q = some p → p.2 = 12
  | [], i, p, h => by simp [namesR] at h
  | x :: r, i, p, h => by
    unfold namesR at h
    split at h
    · exact namesR_code l r (i + 1) p h
    · cases h; rfl
theorem byL_code (l : List TSchema) (f : ByteArray) (kind : Int) : ∀ (q : List TItem) (i : Nat) (p : Int × Int), byL l f kind i q = some p → p.2 = 91
  | [], i, p, h => by simp [byL] at h
  | x :: r, i, p, h => by
    unfold byL at h
    split at h
    · cases h; rfl
    · exact byL_code l f kind r (i + 1) p h
theorem byR_code (l : List TSchema) (f : ByteArray) (q : List TItem) (p : Int × Int) (h : byR l f q = some p) : p.2 = 91 := by
  unfold byR at h
  split at h
  · cases h
  · exact byL_code l f _ q 0 p h
theorem kindsR_code (l : List TSchema) (q : List TItem) : ∀ (ps : List TPred) (i : Nat) (p : Int × Int), kindsR l q i ps = some p → p.2 = 42
  | [], i, p, h => by simp [kindsR] at h
  | x :: r, i, p, h => by
    unfold kindsR at h
    split at h
    · cases h; rfl
    · exact kindsR_code l q r (i + 1) p h
theorem notsR_code (q : List TItem) : ∀ (ps : List TPred) (i : Nat) (p : Int × Int), notsR q i ps = some p → p.2 = 91
  | [], i, p, h => by simp [notsR] at h
  | x :: r, i, p, h => by
    unfold notsR at h
    split at h
    · cases h; rfl
    · exact notsR_code q r (i + 1) p h

theorem checkR_ok (l : List TSchema) (q : TQuery) : (checkR l q).1 = 0 ↔ rightP q = true ∧ namesR l 0 q.items.l = none ∧ byR l q.by_ q.items.l = none ∧ kindsR l q.items.l 0 q.preds.l = none ∧ notsR q.items.l 0 q.preds.l = none := by
  unfold checkR
  split
  · rename_i h
    rw [firstE_codes]
    · simp [h]
    · intro o ho p hp
      simp at ho
      rcases ho with ho | ho | ho | ho
      · rw [namesR_code l _ 0 p (ho ▸ hp)]; decide
      · rw [byR_code l _ _ p (ho ▸ hp)]; decide
      · rw [kindsR_code l _ _ 0 p (ho ▸ hp)]; decide
      · rw [notsR_code _ _ 0 p (ho ▸ hp)]; decide
  · rename_i h
    simp [h]

/-- What can be asked can be asked with more schemas behind. -/
theorem checkR_more (l m : List TSchema) (q : TQuery) (h : (checkR l q).1 = 0) : (checkR (l ++ m) q).1 = 0 := by
  rw [checkR_ok] at h ⊢
  obtain ⟨h1, h2, h3, h4, h5⟩ := h
  have hn := (namesR_all l q.items.l 0).1 h2
  refine ⟨h1, (namesR_all _ _ _).2 fun x hx n hn2 => ?_, ?_, ?_, h5⟩
  · rw [findS_more l m n (hn x hx n hn2)]
    exact hn x hx n hn2
  · rw [byR_more l m _ _ hn]; exact h3
  · rw [kindsR_more l m _ hn]; exact h4

end Go.Aug.Api

/- Maps from texts to counts, as the evaluator holds them. Conditions: none; plain lemmas. -/

namespace Go.Aug

/-- A map from texts to numbers. -/
def encT (m : List (ByteArray × Int)) : List (D × D) := m.map fun p => (strD p.1, i64D p.2)

theorem find_encT (k : ByteArray) : ∀ (m : List (ByteArray × Int)) (i : Nat), findD .text (strD k) (encT m) i = some ((m.findIdx? fun p => decide (p.1 = k)).map (· + i))
  | [], i => rfl
  | (a, b) :: m, i => by
    have ih := find_encT k m (i + 1)
    have e : eqK .text (strD k) (strD a) = some (k.toList == a.toList) := rfl
    simp only [encT, List.map_cons, findD, e]
    by_cases h : a = k
    · subst h
      simp [List.findIdx?_cons]
    · have h' : (k.toList == a.toList) = false := by
        rw [beq_eq_false_iff_ne]
        exact fun e => h ((toList_inj k a).1 e).symm
      rw [h']
      simp only [List.findIdx?_cons, h, decide_false]
      have : (List.map (fun p : ByteArray × Int => (strD p.1, i64D p.2)) m) = encT m := rfl
      rw [this, ih]
      cases m.findIdx? fun p => decide (p.1 = k) with
      | none => rfl
      | some j => simp; omega

/-- What a text stands at. -/
def countT (m : List (ByteArray × Int)) (k : ByteArray) : Int := match m.find? (fun p => decide (p.1 = k)) with
  | some p => p.2
  | none => 0

theorem look_encT {H : Heap} {r : Nat} {m : List (ByteArray × Int)} (hg : H.get r = some (.map (encT m))) (k : ByteArray) : evMlook H .text (i64D 0) false (.mp r) (strD k) = some (i64D (countT m k)) := by
  have hk : keyOk .text (strD k) = true := rfl
  simp only [evMlook, mapAt, hg, hk, if_true, find_encT]
  unfold countT
  cases h : m.findIdx? fun p => decide (p.1 = k) with
  | none =>
    have : m.find? (fun p => decide (p.1 = k)) = none := by
      rw [List.find?_eq_none]
      intro x hx
      simpa using (List.findIdx?_eq_none_iff.1 h) x hx
    simp [this]
  | some i =>
    obtain ⟨hi, h1, h2⟩ := List.findIdx?_eq_some_iff_getElem.1 h
    have hf : m.find? (fun p => decide (p.1 = k)) = some m[i] := by
      rw [List.find?_eq_some_iff_getElem]
      exact ⟨by simpa using h1, i, hi, rfl, fun j hj => by have := h2 j hj; simpa using this⟩
    simp [hf, encT, hi]

/-- A text put, or its count anew. -/
def putT (m : List (ByteArray × Int)) (k : ByteArray) (x : Int) : List (ByteArray × Int) := match m.findIdx? fun p => decide (p.1 = k) with
  | none => m ++ [(k, x)]
  | some i => m.set i (k, x)

theorem put_encT {H : Heap} {r : Nat} {m : List (ByteArray × Int)} (hg : H.get r = some (.map (encT m))) (k : ByteArray) (x : Int) : evMput H .text (.mp r) (strD k) (i64D x) = some (H.set r (.map (encT (putT m k x)))) := by
  have hk : keyOk .text (strD k) = true := rfl
  simp only [evMput, hg, hk, if_true, find_encT, putT]
  cases h : m.findIdx? fun p => decide (p.1 = k) with
  | none => simp [encT]
  | some i => simp [encT, List.map_set]

theorem count_putT (m : List (ByteArray × Int)) (k : ByteArray) (x : Int) (v : ByteArray) : countT (putT m k x) v = if v = k then x else countT m v := by
  unfold putT
  cases h : m.findIdx? fun p => decide (p.1 = k) with
  | none =>
    have hn := List.findIdx?_eq_none_iff.1 h
    unfold countT
    rw [List.find?_append]
    by_cases hv : v = k
    · subst hv
      have : m.find? (fun p => decide (p.1 = v)) = none := by rw [List.find?_eq_none]; intro y hy; simpa using hn y hy
      simp [this]
    · have hv' : ¬ k = v := fun e => hv e.symm
      cases m.find? (fun p => decide (p.1 = v)) <;> simp [hv, hv']
  | some i =>
    obtain ⟨hi, h1, h2⟩ := List.findIdx?_eq_some_iff_getElem.1 h
    simp only [decide_eq_true_eq] at h1 h2
    have hs : m = m.take i ++ m[i] :: m.drop (i + 1) := by rw [List.getElem_cons_drop, List.take_append_drop]
    have hset : m.set i (k, x) = m.take i ++ (k, x) :: m.drop (i + 1) := by rw [List.set_eq_take_append_cons_drop]; simp [hi]
    have hpre : ∀ v, v = k → (m.take i).find? (fun p => decide (p.1 = v)) = none := fun v hv => by
      subst hv
      rw [List.find?_eq_none]
      intro y hy
      obtain ⟨j, hj, rfl⟩ := List.getElem_of_mem hy
      simp only [List.length_take] at hj
      have := h2 j (by omega)
      simpa using this
    unfold countT
    show (match List.find? _ (m.set i (k, x)) with | some p => p.2 | none => 0) = _
    rw [hset]
    conv => rhs; rw [hs]
    simp only [List.find?_append, List.find?_cons]
    by_cases hv : v = k
    · subst hv
      simp [hpre v rfl]
    · have hv' : ¬ k = v := fun e => hv e.symm
      have hv2 : ¬ m[i].1 = v := by rw [h1]; exact hv'
      simp [hv, hv', hv2]

theorem countT_nil (v : ByteArray) : countT [] v = 0 := rfl

end Go.Aug
