/-
What a name, a right value, a right query are, as the references of chapters 04, 05, 07, 08 say. Conditions: none; definitions and plain lemmas.
-/
import Derived.Test.YtnpoicmaiieanaaGreatDoorTS2
namespace Go.Aug.Api
open Go.Aug

/-- May that byte stand at a place of a name? -/
def okB (first : Bool) (c : Int) : Bool := (decide (97 ≤ c) && decide (c ≤ 122)) || (!first && (decide (c = 95) || (decide (48 ≤ c) && decide (c ≤ 57))))
def wordL : Bool → List UInt8 → Bool
  | _, [] => true
  | f, b :: l => okB f (b.toNat : Int) && wordL false l
def wordS (s : ByteArray) : Bool := wordL true s.data.toList && decide (1 ≤ s.size) && decide (s.size ≤ 16)

/-- The words that are no names. -/
def keysL : List ByteArray := [⟨#[115, 101, 113]⟩, ⟨#[116, 104, 101, 110]⟩, ⟨#[110, 111, 116]⟩, ⟨#[111, 114]⟩, ⟨#[119, 104, 101, 114, 101]⟩, ⟨#[97, 110, 100]⟩, ⟨#[119, 105, 116, 104, 105, 110]⟩, ⟨#[98, 121]⟩, ⟨#[112, 105, 99, 107]⟩, ⟨#[97, 110, 121]⟩, ⟨#[110, 101, 120, 116]⟩, ⟨#[115, 116, 114, 105, 99, 116]⟩, ⟨#[116, 114, 117, 101]⟩, ⟨#[102, 97, 108, 115, 101]⟩, ⟨#[99, 111, 117, 110, 116]⟩, ⟨#[115, 117, 109]⟩, ⟨#[109, 105, 110]⟩, ⟨#[109, 97, 120]⟩]
def keyS (s : ByteArray) : Bool := keysL.any fun k => decide (k = s)
def nameS (s : ByteArray) : Bool := wordS s && !keyS s

theorem wordL_append (a b : List UInt8) (f : Bool) : wordL f (a ++ b) = (wordL f a && wordL (f && a.isEmpty) b) := by
  induction a generalizing f with
  | nil => simp [wordL]
  | cons x a ih => simp [wordL, ih, Bool.and_assoc]

theorem idxS_zip (s : ByteArray) (pre : List UInt8) (b : UInt8) (suf : List UInt8) (h : s.data.toList = pre ++ b :: suf) (k : IntKind) : evIdxS (strD s) (.v (.int k (pre.length : Nat))) = some (.v (.int .u8 (b.toNat : Nat))) := by
  have hs : s.data[pre.length]? = some b := by
    rw [← Array.getElem?_toList, h]
    simp
  have hlt : pre.length < s.data.size := (Array.getElem?_eq_some_iff.1 hs).1
  have : s[pre.length]? = some b := by
    rw [getElem?_pos s pre.length hlt]
    have := (Array.getElem?_eq_some_iff.1 hs).2
    exact congrArg some this
  simp only [evIdxS]
  rw [if_pos (by omega), Int.toNat_natCast, this]

theorem size_list (s : ByteArray) : s.size = s.data.toList.length := by rw [Array.length_toList]; rfl

/-- May a text stand in quotes? -/
def plainL : List UInt8 → Bool
  | [] => true
  | b :: l => !(decide ((b.toNat : Int) < 32) || decide (126 < (b.toNat : Int)) || decide ((b.toNat : Int) = 39)) && plainL l

mutual
/-- Is that an expression, and no deeper than may be? -/
def rightE : Int → TExpr → Bool
  | most, .mk k v var f _ kids =>
    if most < 1 ∨ (¬ (k = 7 ∨ k = 8) ∧ kids ≠ []) ∨ (k ≠ 1 ∧ v ≠ zVal) then false
    else if k = 2 ∨ k = 4 ∨ k = 5 ∨ k = 6 then nameS var && nameS f
    else if k = 3 then nameS var && decide (f = emptyS)
    else if var ≠ emptyS ∨ f ≠ emptyS then false
    else if k = 7 ∨ k = 8 then rightTwo (most - 1) kids
    else plainL v.s.data.toList && (decide (k = 1) && rightV v)
def rightTwo : Int → List TExpr → Bool
  | most, [a, b] => rightE most a && rightE most b
  | _, _ => false
end

/-- Are names of an item in order: each one, none twice? -/
def namesOk : List ByteArray → List ByteArray → Bool
  | _, [] => true
  | pre, s :: l => nameS s && !(pre.any fun p => decide (p = s)) && namesOk (pre ++ [s]) l
def rightItem (x : TItem) (first : Bool) : Bool :=
  if nameS x.var = false ∨ x.names.l.length < 1 ∨ 3 < x.names.l.length ∨ x.mode < 1 ∨ 3 < x.mode then false
  else if namesOk [] x.names.l = false then false
  else if first = true ∧ (x.not = true ∨ x.mode = 3) then false
  else !x.not || decide (x.mode = 1)

def itemsOk : List TItem → List TItem → Bool
  | _, [] => true
  | pre, x :: l => rightItem x pre.isEmpty && !(pre.any fun p => decide (p.var = x.var)) && itemsOk (pre ++ [x]) l
def predOk (p : TPred) : Bool := decide (1 ≤ p.cmp) && decide (p.cmp ≤ 6) && rightE 6 p.L && rightE 6 p.R
/-- Is that a query? -/
def rightQ (q : TQuery) : Bool :=
  if q.items.l.length < 1 ∨ 6 < q.items.l.length ∨ 8 < q.preds.l.length then false
  else itemsOk [] q.items.l && q.preds.l.all predOk &&
    (decide (0 ≤ q.within) && decide (q.within ≤ maxNum) && (decide (q.by_ = emptyS) || nameS q.by_) && decide (1 ≤ q.pick) && decide (q.pick ≤ 3))

end Go.Aug.Api
