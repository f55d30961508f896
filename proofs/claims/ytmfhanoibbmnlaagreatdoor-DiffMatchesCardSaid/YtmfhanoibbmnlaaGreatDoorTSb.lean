/-
A query's normal form, as chapter 10 has it: predicates' texts, places and keys; what is there once; what is sorted. Conditions: none; definitions and plain lemmas.
-/
import Derived.Test.YtmfhanoibbmnlaaGreatDoorTV0
import Derived.Lib.ItoaLen
namespace Go.Aug.Api
open Go.Aug
def foldW (k : Int) : ByteArray := if k = 4 then ⟨#[115, 117, 109]⟩ else if k = 5 then ⟨#[109, 105, 110]⟩ else ⟨#[109, 97, 120]⟩
def valW (v : TVal) : ByteArray := if v.kind = 1 then ⟨(Lib.itoa v.n).toArray⟩ else if v.kind = 2 then ⟨#[39]⟩ ++ v.s ++ ⟨#[39]⟩ else if v.n = 1 then ⟨#[116, 114, 117, 101]⟩ else ⟨#[102, 97, 108, 115, 101]⟩
mutual
def writtenS : TExpr → ByteArray
  | .mk k v var f _ kids => if k = 1 then valW v else if k = 2 then var ++ ⟨#[46]⟩ ++ f else if k = 3 then ⟨#[99, 111, 117, 110, 116, 40]⟩ ++ var ++ ⟨#[41]⟩ else if k = 7 ∨ k = 8 then writtenTwo k kids else foldW k ++ ⟨#[40]⟩ ++ var ++ ⟨#[46]⟩ ++ f ++ ⟨#[41]⟩
def writtenTwo (k : Int) : List TExpr → ByteArray
  | [a, b] => writtenS a ++ ⟨#[32]⟩ ++ (if k = 7 then ⟨#[43]⟩ else ⟨#[45]⟩) ++ ⟨#[32]⟩ ++ (if 7 ≤ b.kind then ⟨#[40]⟩ ++ writtenS b ++ ⟨#[41]⟩ else writtenS b)
  | _ => emptyS
end
def signS (c : Int) : ByteArray := if c = 1 then ⟨#[61]⟩ else if c = 2 then ⟨#[33, 61]⟩ else if c = 3 then ⟨#[60]⟩ else if c = 4 then ⟨#[60, 61]⟩ else if c = 5 then ⟨#[62]⟩ else ⟨#[62, 61]⟩
def predS (p : TPred) : ByteArray := writtenS p.L ++ ⟨#[32]⟩ ++ signS p.cmp ++ ⟨#[32]⟩ ++ writtenS p.R
theorem name_size {s : ByteArray} (h : nameS s = true) : s.size ≤ 16 := by
  unfold nameS wordS at h
  simp only [Bool.and_eq_true, decide_eq_true_eq] at h
  exact h.1.2
theorem valW_size {v : TVal} (h : rightV v = true) : (valW v).size ≤ 66 := by
  unfold rightV at h
  unfold valW
  split at h
  · rename_i h1
    rw [if_pos h1]
    simp only [Bool.and_eq_true, decide_eq_true_eq] at h
    have hm : maxNum = 1099511627776 := rfl
    have := h.1.1
    have := h.1.2
    have := Lib.itoa_length_le v.n (by omega) (by omega)
    show (Lib.itoa v.n).toArray.size ≤ 66
    simp
    omega
  · rename_i h1
    rw [if_neg h1]
    split at h
    · rename_i h2
      have : ¬ v.kind = 2 := by omega
      rw [if_neg this]
      split <;> decide
    · split at h
      · rename_i h3
        rw [if_pos h3]
        simp only [Bool.and_eq_true, decide_eq_true_eq] at h
        have e1 : (⟨#[39]⟩ : ByteArray).size = 1 := rfl
        simp only [ByteArray.size_append, e1]
        omega
      · cases h
theorem foldW_size (k : Int) : (foldW k).size = 3 := by
  unfold foldW
  split
  · rfl
  · split <;> rfl
theorem written_size : ∀ (x : TExpr) (n : Nat), rightX n x = true → (writtenS x).size + 5 ≤ 100 * 2 ^ n
  | .mk k v var f rep kids, n, h => by
    have ih : ∀ x ∈ kids, ∀ n : Nat, rightX n x = true → (writtenS x).size + 5 ≤ 100 * 2 ^ n := fun x hm n h => written_size x n h
    unfold rightX at h
    by_cases m0 : (n : Int) = 0
    · rw [if_pos m0] at h; cases h
    rw [if_neg m0] at h
    obtain ⟨m, rfl⟩ : ∃ m, n = m + 1 := ⟨n - 1, by omega⟩
    have hp : 1 ≤ 2 ^ m := Nat.one_le_two_pow
    have hb : 200 ≤ 100 * 2 ^ (m + 1) := by rw [Nat.pow_succ]; omega
    have e1 : ∀ b : UInt8, (⟨#[b]⟩ : ByteArray).size = 1 := fun _ => rfl
    have e6 : (⟨#[99, 111, 117, 110, 116, 40]⟩ : ByteArray).size = 6 := rfl
    unfold writtenS
    split at h
    · rename_i k1
      rw [if_pos k1]
      simp only [Bool.and_eq_true] at h
      have := valW_size h.1.2
      omega
    · rename_i k1
      rw [if_neg k1]
      split at h
      · rename_i k3
        have k2 : ¬ k = 2 := by omega
        rw [if_neg k2, if_pos k3]
        simp only [Bool.and_eq_true] at h
        have := name_size h.1.2
        simp only [ByteArray.size_append, e1, e6]
        omega
      · rename_i k3
        split at h
        · rename_i k26
          simp only [Bool.and_eq_true] at h
          have h1 := name_size h.1.2
          have h2 := name_size h.2
          by_cases k2 : k = 2
          · rw [if_pos k2]
            simp only [ByteArray.size_append, e1]
            omega
          · have k7 : ¬ (k = 7 ∨ k = 8) := by omega
            rw [if_neg k2, if_neg k3, if_neg k7]
            simp only [ByteArray.size_append, e1, foldW_size]
            omega
        · split at h
          · rename_i k7
            have k2 : ¬ k = 2 := by omega
            rw [if_neg k2, if_neg k3, if_pos k7]
            simp only [Bool.and_eq_true] at h
            have h := h.2
            match kids, ih, h with
            | [a, b], ih, h =>
              simp only [rightTwoX, Bool.and_eq_true] at h
              have hm : ((m + 1 : Nat) : Int) - 1 = (m : Nat) := by omega
              rw [hm] at h
              have ha := ih a (by simp) m h.1
              have hb := ih b (by simp) m h.2
              have hs : (if 7 ≤ b.kind then ⟨#[40]⟩ ++ writtenS b ++ ⟨#[41]⟩ else writtenS b : ByteArray).size ≤ (writtenS b).size + 2 := by
                split
                · simp only [ByteArray.size_append, e1]; omega
                · omega
              have hk : (if k = 7 then ⟨#[43]⟩ else ⟨#[45]⟩ : ByteArray).size = 1 := by split <;> rfl
              unfold writtenTwo
              simp only [ByteArray.size_append, e1, hk]
              rw [Nat.pow_succ]
              omega
            | [], _, h => cases h
            | [_], _, h => cases h
            | _ :: _ :: _ :: _, _, h => cases h
          · cases h
theorem written_six {x : TExpr} (h : rightX 6 x = true) : (writtenS x).size ≤ 6400 := by
  have := written_size x 6 h
  omega
theorem sign_size (c : Int) : (signS c).size ≤ 2 := by
  unfold signS
  repeat' split
  all_goals decide
theorem okE_valE (v : TVal) (h : v.s.size ≤ big) : okE (valE v) := by
  have : (emptyS).size ≤ big := Nat.zero_le _
  exact ⟨Nat.zero_le _, trivial, this, this, h⟩
theorem reck_s (k : Int) (a b : TVal) : (reckV k a b).1.s = emptyS := by
  unfold reckV addV subV ofSum
  split <;> split <;> (try split) <;> rfl
theorem okE_fold : ∀ x : TExpr, okE x → okE (foldX x)
  | .mk k v var f rep kids, h => by
    have ih : ∀ x ∈ kids, okE x → okE (foldX x) := fun x _ => okE_fold x
    by_cases k7 : k = 7 ∨ k = 8
    · by_cases h2 : kids.length = 2
      · obtain ⟨a, b, rfl⟩ : ∃ a b, kids = [a, b] := by
          match kids, h2 with
          | [a, b], _ => exact ⟨a, b, rfl⟩
        rw [foldX_two k7]
        unfold foldedTwo
        split
        · exact okE_valE _ (by rw [reck_s]; exact Nat.zero_le _)
        · obtain ⟨h1, ⟨ha, hb, _⟩, h3⟩ := h
          exact ⟨h1, ⟨ih a (by simp) ha, ih b (by simp) hb, trivial⟩, h3⟩
      · rw [foldX_not h2]; exact h
    · rw [foldX_other k7]; exact h
theorem rightV_reck {k : Int} {a b : TVal} (h : (reckV k a b).2 = 0) : rightV (reckV k a b).1 = true := by
  have key : ∀ n, (ofSum n).2 = 0 → rightV (ofSum n).1 = true := fun n h => by
    unfold ofSum at h ⊢
    split
    · rename_i hn
      unfold rightV
      simp [hn]
    · rename_i hn
      rw [if_neg hn] at h
      cases h
  unfold reckV at h ⊢
  split
  · rename_i hk
    rw [if_pos hk] at h
    unfold subV at h ⊢
    split
    · rename_i hb
      rw [if_pos hb] at h
      exact key _ h
    · rename_i hb
      rw [if_neg hb] at h
      exact absurd h hb
  · rename_i hk
    rw [if_neg hk] at h
    unfold addV at h ⊢
    split
    · rename_i hb
      rw [if_pos hb] at h
      exact key _ h
    · rename_i hb
      rw [if_neg hb] at h
      exact absurd h hb
theorem rightX_fold : ∀ (x : TExpr) (most : Int), rightX most x = true → rightX most (foldX x) = true
  | .mk k v var f rep kids, most, h => by
    have ih : ∀ x ∈ kids, ∀ most : Int, rightX most x = true → rightX most (foldX x) = true := fun x _ => rightX_fold x
    by_cases k7 : k = 7 ∨ k = 8
    · by_cases h2 : kids.length = 2
      · obtain ⟨a, b, rfl⟩ : ∃ a b, kids = [a, b] := by
          match kids, h2 with
          | [a, b], _ => exact ⟨a, b, rfl⟩
        have k1 : ¬ k = 1 := by omega
        have k3 : ¬ k = 3 := by omega
        have k26 : ¬ (2 ≤ k ∧ k ≤ 6) := by omega
        rw [foldX_two k7]
        have m0 : ¬ most = 0 := fun e => by unfold rightX at h; rw [if_pos e] at h; cases h
        unfold rightX at h
        rw [if_neg m0, if_neg k1, if_neg k3, if_neg k26, if_pos k7] at h
        simp only [Bool.and_eq_true, rightTwoX] at h
        unfold foldedTwo
        split
        · rename_i hf
          unfold valE rightX
          rw [if_neg m0, if_pos rfl]
          have hv := rightV_reck hf.2.2
          have hs := reck_s k (foldX a).val (foldX b).val
          simp [hv, hs, emptyS, plainL]
        · unfold rightX
          rw [if_neg m0, if_neg k1, if_neg k3, if_neg k26, if_pos k7]
          simp only [Bool.and_eq_true, rightTwoX]
          exact ⟨h.1, ih a (by simp) _ h.2.1, ih b (by simp) _ h.2.2⟩
      · rw [foldX_not h2]; exact h
    · rw [foldX_other k7]; exact h
def normP (p : TPred) : TPred := if 5 ≤ p.cmp then ⟨p.cmp - 2, foldX p.R, foldX p.L, okE_fold _ p.okR, okE_fold _ p.okL⟩ else ⟨p.cmp, foldX p.L, foldX p.R, okE_fold _ p.okL, okE_fold _ p.okR⟩
theorem predX_norm {p : TPred} (h : predX p = true) : predX (normP p) = true ∧ (normP p).cmp ≤ 4 := by
  unfold predX at h ⊢
  simp only [Bool.and_eq_true, decide_eq_true_eq] at h ⊢
  unfold normP
  split
  · exact ⟨⟨⟨⟨by simp only; omega, by simp only; omega⟩, rightX_fold _ _ h.2⟩, rightX_fold _ _ h.1.2⟩, by simp only; omega⟩
  · exact ⟨⟨⟨⟨by simp only; omega, by simp only; omega⟩, rightX_fold _ _ h.1.2⟩, rightX_fold _ _ h.2⟩, by simp only; omega⟩
def maxI : List Int → Int
  | [] => 0
  | a :: l => l.foldl (fun m x => if m < x then x else m) a
def placeN (q : List TItem) (p : TPred) : Int := maxI ((varsS q [p.L] ++ varsS q [p.R]) ++ [0])
structure TKeyed where
  pred : TPred
  place : Int
  text : ByteArray
def keyedC (k : TKeyed) : List D := predC k.pred ++ [i64D k.place, strD k.text]
theorem keyedC_len (k : TKeyed) : (keyedC k).length = 17 := by simp [keyedC]
theorem keyedC_pure (k : TKeyed) : pureL (keyedC k) := by simp [pureL, keyedC, under_append, under_cons, under_nil, under_v]
def keyN (q : List TItem) (tx : TPred → ByteArray) (p : TPred) : TKeyed := ⟨normP p, placeN q (normP p), tx (normP p)⟩
def addN (l : List TKeyed) (k : TKeyed) : List TKeyed := if (l.any fun x => decide (x.text = k.text)) = true then l else l ++ [k]
def onceN (l : List TKeyed) : List TKeyed := l.foldl addN []
def ltK (a b : TKeyed) : Bool := decide (a.place < b.place) || (decide (a.place = b.place) && Op.bytesLess a.text.toList b.text.toList)
def insN (x : TKeyed) : List TKeyed → List TKeyed
  | [] => [x]
  | y :: r => if ltK x y = true then y :: insN x r else x :: y :: r
def fallN (l : List TKeyed) : List TKeyed := l.foldl (fun a x => insN x a) []
def sortN (l : List TKeyed) : List TKeyed := (fallN l).reverse
def normL (q : List TItem) (tx : TPred → ByteArray) (ps : List TPred) : List TPred := (sortN (onceN (ps.map (keyN q tx)))).map (·.pred)
theorem less_asym : ∀ a b : List UInt8, Op.bytesLess a b = true → Op.bytesLess b a = false
  | [], [], _ => rfl
  | [], _ :: _, _ => rfl
  | _ :: _, [], h => by cases h
  | x :: a, y :: b, h => by
    simp only [Op.bytesLess, Bool.or_eq_true, decide_eq_true_eq, Bool.and_eq_true, beq_iff_eq] at h
    simp only [Op.bytesLess, Bool.or_eq_false_iff, decide_eq_false_iff_not, Bool.and_eq_false_imp, beq_iff_eq]
    rcases h with h | ⟨h, h2⟩
    · refine ⟨fun h3 => ?_, fun h3 => ?_⟩
      · have h1 := UInt8.lt_iff_toNat_lt.1 h
        have h4 := UInt8.lt_iff_toNat_lt.1 h3
        omega
      · subst h3
        have h1 := UInt8.lt_iff_toNat_lt.1 h
        omega
    · subst h
      refine ⟨fun h3 => ?_, fun _ => less_asym a b h2⟩
      have h4 := UInt8.lt_iff_toNat_lt.1 h3
      omega
theorem less_eq : ∀ a b : List UInt8, Op.bytesLess a b = false → Op.bytesLess b a = false → a = b
  | [], [], _, _ => rfl
  | [], _ :: _, h, _ => by cases h
  | _ :: _, [], _, h => by cases h
  | x :: a, y :: b, h, h2 => by
    simp only [Op.bytesLess, Bool.or_eq_false_iff, decide_eq_false_iff_not, Bool.and_eq_false_imp, beq_iff_eq] at *
    have e : ∀ p q : UInt8, p < q ↔ p.toNat < q.toNat := fun p q => UInt8.lt_iff_toNat_lt
    rw [e] at h h2
    have hxy : x = y := UInt8.toNat_inj.1 (by omega)
    subst hxy
    rw [less_eq a b (h.2 rfl) (h2.2 rfl)]
theorem insN_perm (x : TKeyed) : ∀ l : List TKeyed, (insN x l).Perm (x :: l)
  | [] => .refl _
  | y :: r => by
    unfold insN
    split
    · exact (List.Perm.cons y (insN_perm x r)).trans (.swap x y r)
    · exact .refl _
theorem fallN_perm (l : List TKeyed) : (fallN l).Perm l := by
  have : ∀ (l a : List TKeyed), (l.foldl (fun a x => insN x a) a).Perm (a ++ l) := by
    intro l
    induction l with
    | nil => intro a; simp
    | cons x l ih =>
      intro a
      refine (ih (insN x a)).trans ?_
      refine ((insN_perm x a).append_right l).trans ?_
      simpa using (List.perm_middle (a := x) (l₁ := a) (l₂ := l)).symm
  exact this l []
theorem sortN_perm (l : List TKeyed) : (sortN l).Perm l := (List.reverse_perm _).trans (fallN_perm l)
theorem onceN_mem {l : List TKeyed} {k : TKeyed} (h : k ∈ onceN l) : k ∈ l := by
  have : ∀ (l a : List TKeyed), k ∈ l.foldl addN a → k ∈ a ∨ k ∈ l := by
    intro l
    induction l with
    | nil => intro a h; exact .inl h
    | cons x l ih =>
      intro a h
      rcases ih _ h with h | h
      · unfold addN at h
        split at h
        · exact .inl h
        · rcases List.mem_append.1 h with h | h
          · exact .inl h
          · simp at h; subst h; exact .inr (by simp)
      · exact .inr (by simp [h])
  rcases this l [] h with h | h
  · simp at h
  · exact h
theorem onceN_length (l : List TKeyed) : (onceN l).length ≤ l.length := by
  have : ∀ (l a : List TKeyed), (l.foldl addN a).length ≤ a.length + l.length := by
    intro l
    induction l with
    | nil => intro a; simp
    | cons x l ih =>
      intro a
      have h1 := ih (addN a x)
      have h2 : (addN a x).length ≤ a.length + 1 := by unfold addN; split <;> simp
      simp only [List.foldl_cons, List.length_cons]
      omega
  have := this l []
  simp only [List.length_nil, Nat.zero_add] at this
  exact this
theorem normL_length (q : List TItem) (tx : TPred → ByteArray) (ps : List TPred) : (normL q tx ps).length ≤ ps.length := by
  unfold normL
  rw [List.length_map, (sortN_perm _).length_eq]
  have := onceN_length (ps.map (keyN q tx))
  simpa using this
theorem normL_mem {q : List TItem} {tx : TPred → ByteArray} {ps : List TPred} {x : TPred} (h : x ∈ normL q tx ps) : ∃ p ∈ ps, x = normP p := by
  unfold normL at h
  obtain ⟨k, hk, rfl⟩ := List.mem_map.1 h
  have := onceN_mem ((sortN_perm _).mem_iff.1 hk)
  obtain ⟨p, hp, rfl⟩ := List.mem_map.1 this
  exact ⟨p, hp, rfl⟩
end Go.Aug.Api
