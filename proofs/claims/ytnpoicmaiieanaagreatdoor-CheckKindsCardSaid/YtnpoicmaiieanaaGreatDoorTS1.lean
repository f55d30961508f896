/-
What the functions of values, events and expressions say of data. Conditions: none; definitions and plain lemmas.
-/
import Derived.Test.YtnpoicmaiieanaaGreatDoorGL
import Derived.Test.YtnpoicmaiieanaaGreatDoorGR
namespace Go.Aug.Api
open Go.Aug

def maxNum : Int := 1099511627776
def emptyS : ByteArray := ⟨#[]⟩

/-- May that be a value? -/
def rightV (v : TVal) : Bool :=
  if v.kind = 1 then decide (-maxNum ≤ v.n) && decide (v.n ≤ maxNum) && decide (v.s = emptyS)
  else if v.kind = 3 then decide (0 ≤ v.n) && decide (v.n ≤ 1) && decide (v.s = emptyS)
  else if v.kind = 2 then decide (v.n = 0) && decide (v.s.size ≤ 64)
  else false

def bothV (a b : TVal) : Int := if rightV a = false ∨ rightV b = false then 1 else if a.kind ≠ 1 ∨ b.kind ≠ 1 then 42 else 0

theorem both_zero {a b : TVal} (h : bothV a b = 0) : rightV a = true ∧ rightV b = true ∧ a.kind = 1 ∧ b.kind = 1 := by
  unfold bothV at h
  grind

theorem right_num {v : TVal} (h : rightV v = true) (hk : v.kind = 1) : -maxNum ≤ v.n ∧ v.n ≤ maxNum ∧ v.s = emptyS := by
  unfold rightV at h
  grind

abbrev VE := TVal × Int
def VE.enc (r : VE) : D := .tup [.agg (valC r.1), i64D r.2]

/-- What comes of two numbers. -/
def ofSum (n : Int) : VE := if -maxNum ≤ n ∧ n ≤ maxNum then (⟨1, n, emptyS⟩, 0) else (zVal, 41)
def addV (a b : TVal) : VE := if bothV a b = 0 then ofSum (a.n + b.n) else (zVal, bothV a b)
def subV (a b : TVal) : VE := if bothV a b = 0 then ofSum (a.n - b.n) else (zVal, bothV a b)

def zSchema : TSchema := ⟨emptyS, .nil⟩
/-- The schema of a name. -/
def findS (l : List TSchema) (name : ByteArray) : TSchema × Bool := match l.find? (fun s => decide (s.name = name)) with
  | some s => (s, true)
  | none => (zSchema, false)
/-- A field's place and kind. -/
def fieldS (s : TSchema) (name : ByteArray) : Int × Int := (idx (fun f => decide (f.name = name)) s.fields.l, match s.fields.l.find? (fun f => decide (f.name = name)) with
  | some f => f.kind
  | none => 0)

theorem idx_cases {α : Type} (p : α → Bool) (l : List α) : (idx p l = -1 ∧ (∀ x ∈ l, p x = false) ∧ l.find? p = none) ∨
    ∃ pre x suf, l = pre ++ x :: suf ∧ (∀ y ∈ pre, p y = false) ∧ p x = true ∧ idx p l = (pre.length : Nat) ∧ l.find? p = some x := by
  induction l with
  | nil => left; simp [idx]
  | cons y l ih =>
    cases hy : p y with
    | true => right; exact ⟨[], y, l, rfl, by simp, hy, idx_some [] y l (by simp) hy, by simp [hy]⟩
    | false =>
      rcases ih with ⟨h1, h2, h3⟩ | ⟨pre, x, suf, rfl, h1, h2, h3, h4⟩
      · left
        have : ∀ x ∈ y :: l, p x = false := by
          intro x hx
          rcases List.mem_cons.1 hx with rfl | hx
          · exact hy
          · exact h2 x hx
        exact ⟨idx_none this, this, by simp [hy, h3]⟩
      · right
        have hp : ∀ z ∈ y :: pre, p z = false := by
          intro z hz
          rcases List.mem_cons.1 hz with rfl | hz
          · exact hy
          · exact h1 z hz
        exact ⟨y :: pre, x, suf, rfl, hp, h2, idx_some (y :: pre) x suf hp h2, by simp only [List.find?_cons, hy]; exact h4⟩

end Go.Aug.Api
