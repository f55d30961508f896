/-
An expression, folded; numbers that are added, one behind the other. Conditions: none; definitions and plain lemmas.
-/
import Derived.Test.YthdkeggdipogoaaGreatDoorTV0
namespace Go.Aug.Api
open Go.Aug

/-- What is reckoned of two values, by the kind of the expression. -/
def reckV (k : Int) (a b : TVal) : VE := if k = 8 then subV a b else addV a b
def valE (v : TVal) : TExpr := .mk 1 v emptyS emptyS none []

/-- Two that are folded, put together. -/
def foldedTwo (k : Int) (v : TVal) (var f : ByteArray) (a b : TExpr) : TExpr :=
  if a.kind = 1 ∧ b.kind = 1 ∧ (reckV k a.val b.val).2 = 0 then valE (reckV k a.val b.val).1 else .mk k v var f (some (some 2)) [a, b]

mutual
/-- An expression without what can be reckoned ahead. -/
def foldX : TExpr → TExpr
  | .mk k v var f rep kids => if k = 7 ∨ k = 8 then foldTwo k v var f rep kids else .mk k v var f rep kids
def foldTwo (k : Int) (v : TVal) (var f : ByteArray) (rep : Option (Option Nat)) : List TExpr → TExpr
  | [a, b] => foldedTwo k v var f (foldX a) (foldX b)
  | l => .mk k v var f rep l
end

theorem foldX_other {k : Int} {v : TVal} {var f : ByteArray} {rep : Option (Option Nat)} {kids : List TExpr} (h : ¬ (k = 7 ∨ k = 8)) : foldX (.mk k v var f rep kids) = .mk k v var f rep kids := by
  rw [foldX, if_neg h]
theorem foldX_two {k : Int} {v : TVal} {var f : ByteArray} {rep : Option (Option Nat)} {a b : TExpr} (h : k = 7 ∨ k = 8) : foldX (.mk k v var f rep [a, b]) = foldedTwo k v var f (foldX a) (foldX b) := by
  rw [foldX, if_pos h, foldTwo]
theorem foldX_not {k : Int} {v : TVal} {var f : ByteArray} {rep : Option (Option Nat)} {kids : List TExpr} (h : kids.length ≠ 2) : foldX (.mk k v var f rep kids) = .mk k v var f rep kids := by
  rw [foldX]
  split
  · match kids, h with
    | [], _ => simp [foldTwo]
    | [_], _ => simp [foldTwo]
    | [_, _], h => exact absurd rfl h
    | _ :: _ :: _ :: _, _ => simp [foldTwo]
  · rfl

/-! ### numbers that are added, one behind the other -/

def addE (e : TExpr) (i : Nat) (n : Int) : TExpr := .mk (if i % 2 = 0 then 8 else 7) zVal emptyS emptyS (some (some 2)) [e, valE (numV n)]
def chainE : TExpr → Nat → List Int → TExpr
  | e, _, [] => e
  | e, i, n :: l => chainE (addE e i n) (i + 1) l
def stepI (a : Int) (i : Nat) (n : Int) : Int := if i % 2 = 0 then a - n else a + n
def sumI : Int → Nat → List Int → Int
  | a, _, [] => a
  | a, i, n :: l => sumI (stepI a i n) (i + 1) l

theorem chainE_append : ∀ (l : List Int) (e : TExpr) (i : Nat) (n : Int), chainE e i (l ++ [n]) = addE (chainE e i l) (i + l.length) n
  | [], _, _, _ => rfl
  | m :: l, e, i, n => by
    simp only [List.cons_append, chainE, List.length_cons]
    rw [chainE_append l _ (i + 1) n]
    congr 1
    omega
theorem sumI_append : ∀ (l : List Int) (a : Int) (i : Nat) (n : Int), sumI a i (l ++ [n]) = stepI (sumI a i l) (i + l.length) n
  | [], _, _, _ => rfl
  | m :: l, a, i, n => by
    simp only [List.cons_append, sumI, List.length_cons]
    rw [sumI_append l _ (i + 1) n]
    congr 1
    omega

theorem sumI_bound : ∀ (l : List Int) (a : Int) (i : Nat), (∀ n ∈ l, -1000000 ≤ n ∧ n ≤ 1000000) → a - 1000000 * l.length ≤ sumI a i l ∧ sumI a i l ≤ a + 1000000 * l.length
  | [], a, _, _ => by simp [sumI]
  | n :: l, a, i, h => by
    have h1 := h n (List.mem_cons_self ..)
    have h2 := sumI_bound l (stepI a i n) (i + 1) (fun m hm => h m (List.mem_cons_of_mem _ hm))
    simp only [sumI, List.length_cons]
    unfold stepI at h2 ⊢
    split at h2 <;> simp_all <;> omega

theorem sub_num {a b : Int} (ha : -maxNum ≤ a) (ha' : a ≤ maxNum) (hb : -maxNum ≤ b) (hb' : b ≤ maxNum) (hc : -maxNum ≤ a - b) (hc' : a - b ≤ maxNum) : subV (numV a) (numV b) = (numV (a - b), 0) := by
  have h1 : rightV (numV a) = true := by simp [rightV, numV, ha, ha']
  have h2 : rightV (numV b) = true := by simp [rightV, numV, hb, hb']
  have h3 : bothV (numV a) (numV b) = 0 := by unfold bothV; simp [h1, h2]; simp [numV]
  unfold subV ofSum
  rw [if_pos h3, if_pos ⟨hc, hc'⟩]
  rfl

theorem foldX_val (v : TVal) : foldX (valE v) = valE v := by
  unfold valE
  rw [foldX_other (by decide)]

theorem fold_chain : ∀ (l : List Int) (e : TExpr) (a : Int) (i : Nat), foldX e = valE (numV a) → (∀ n ∈ l, -1000000 ≤ n ∧ n ≤ 1000000) → -1000000 * (60 - (l.length : Int)) ≤ a → a ≤ 1000000 * (60 - (l.length : Int)) → l.length ≤ 60 → foldX (chainE e i l) = valE (numV (sumI a i l))
  | [], _, _, _, h, _, _, _, _ => h
  | n :: l, e, a, i, h, hb, h1, h2, h3 => by
    have hn := hb n (List.mem_cons_self ..)
    simp only [List.length_cons] at h1 h2 h3
    simp only [chainE, sumI]
    refine fold_chain l _ (stepI a i n) (i + 1) ?_ (fun m hm => hb m (List.mem_cons_of_mem _ hm)) ?_ ?_ (by omega)
    · unfold addE stepI
      by_cases hi : i % 2 = 0
      · rw [if_pos hi, if_pos hi, foldX_two (.inr rfl), h, foldX_val]
        have := sub_num (a := a) (b := n) (by unfold maxNum; omega) (by unfold maxNum; omega) (by unfold maxNum; omega) (by unfold maxNum; omega) (by unfold maxNum; omega) (by unfold maxNum; omega)
        unfold foldedTwo
        simp only [valE, TExpr.kind, TExpr.val, reckV, if_true, this]
        simp
      · rw [if_neg hi, if_neg hi, foldX_two (.inl rfl), h, foldX_val]
        have := add_num (a := a) (b := n) (by unfold maxNum; omega) (by unfold maxNum; omega) (by unfold maxNum; omega) (by unfold maxNum; omega) (by unfold maxNum; omega) (by unfold maxNum; omega)
        unfold foldedTwo
        simp only [valE, TExpr.kind, TExpr.val, reckV, this]
        simp
    · unfold stepI; split <;> omega
    · unfold stepI; split <;> omega

theorem okE_val (n : Int) : okE (valE (numV n)) := by
  have : (emptyS).size ≤ big := Nat.zero_le _
  exact ⟨Nat.zero_le _, trivial, this, this, this⟩
theorem okE_chain : ∀ (l : List Int) (e : TExpr) (i : Nat), okE e → okE (chainE e i l)
  | [], _, _, h => h
  | n :: l, e, i, h => by
    refine okE_chain l _ (i + 1) ?_
    have : (emptyS).size ≤ big := Nat.zero_le _
    exact ⟨Nat.le_of_ble_eq_true rfl, ⟨h, okE_val n, trivial⟩, this, this, this⟩

end Go.Aug.Api
