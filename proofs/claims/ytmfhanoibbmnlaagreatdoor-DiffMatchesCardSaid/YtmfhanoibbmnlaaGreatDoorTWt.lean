/-
The walks of expressions' and predicates' texts. Conditions: none.
-/
import Derived.Test.YtmfhanoibbmnlaaGreatDoorGT
import Derived.Test.YtmfhanoibbmnlaaGreatDoorTSb
namespace Go.Proofs.YtmfhanoibbmnlaaGreatDoor.Tz
open Go.Aug Go.Aug.Api
set_option maxRecDepth 100000
theorem FormatInt_run (n : Int) (h : i64ok n) (H : Heap) : Run tab (.fn n_q105) [i64D n, i64D 10] H (strD ⟨(Lib.itoa n).toArray⟩) H :=
  cK.run (cK_orc o_q105 ⟨_, by simp only [orcFormat]; rw [if_pos ⟨h.1, h.2, by decide⟩], rfl, rfl⟩)
def boolW (b : Bool) : ByteArray := if b = true then ⟨#[116, 114, 117, 101]⟩ else ⟨#[102, 97, 108, 115, 101]⟩
theorem FormatBool2_run (b : Bool) (H : Heap) : Run tab (.fn n_q104) [bD b] H (strD (boolW b)) H := by
  refine cK.run (cK_fn o_q104 t_q104 (Nat.le_of_ble_eq_true rfl) (by decide) ?_)
  cases b <;> simp [boolW]
theorem FormatBool_run (b : Bool) (H : Heap) : Run tab (.fn n_q103) [bD b] H (strD (boolW b)) H := by
  refine cK.run (cK_fn o_q103 t_q103 (Nat.le_of_ble_eq_true rfl) (by decide) ?_)
  have := fun H => (FormatBool2_run b H).cK
  simp [this]
theorem tree_folds_run (H : Heap) : Run tab (.fn n_q113) [] H (.agg [strD ⟨#[]⟩, strD ⟨#[]⟩, strD ⟨#[]⟩, strD ⟨#[99, 111, 117, 110, 116]⟩, strD ⟨#[115, 117, 109]⟩, strD ⟨#[109, 105, 110]⟩, strD ⟨#[109, 97, 120]⟩]) H := by
  refine cK.run (cK_fn o_q113 t_q113 (Nat.le_of_ble_eq_true rfl) (by decide) ?_)
  simp
theorem tree_signs_run (H : Heap) : Run tab (.fn n_q120) [] H (.agg [strD ⟨#[]⟩, strD ⟨#[61]⟩, strD ⟨#[33, 61]⟩, strD ⟨#[60]⟩, strD ⟨#[60, 61]⟩, strD ⟨#[62]⟩, strD ⟨#[62, 61]⟩]) H := by
  refine cK.run (cK_fn o_q120 t_q120 (Nat.le_of_ble_eq_true rfl) (by decide) ?_)
  simp
theorem conv_plus : evConvI (.v (.int .u8 43)) = some (strD ⟨#[43]⟩) := by kernel_rfl
theorem conv_minus : evConvI (.v (.int .u8 45)) = some (strD ⟨#[45]⟩) := by kernel_rfl
theorem tree_written_run : ∀ (x : TExpr) (_hx : okE x) (n : Nat) (_hn : n ≤ 6) (_hr : rightX n x = true) (H : Heap), Run tab (.fn n_q121) [.agg (exprC x)] H (strD (writtenS x)) H
  | .mk k v var f rep kids, hx, n, hn, hr, H => by
    have ih : ∀ x ∈ kids, ∀ (n : Nat) (_hn : n ≤ 6) (_hr : rightX n x = true) (H : Heap), Run tab (.fn n_q121) [.agg (exprC x)] H (strD (writtenS x)) H := fun x hmem n hn hr H => tree_written_run x (okEs_mem hx.2.1 hmem) n hn hr H
    have e1 : ∀ b : UInt8, (⟨#[b]⟩ : ByteArray).size = 1 := fun _ => rfl
    have e6 : (⟨#[99, 111, 117, 110, 116, 40]⟩ : ByteArray).size = 6 := rfl
    have hsz := written_size _ n hr
    have hpow : 100 * 2 ^ n ≤ 6400 := by
      have : 2 ^ n ≤ 2 ^ 6 := Nat.pow_le_pow_right (by decide) hn
      omega
    refine cK.run (cK_fn o_q121 t_q121 (Nat.le_of_ble_eq_true rfl) (by decide) ?_)
    unfold rightX at hr
    by_cases m0 : (n : Int) = 0
    · rw [if_pos m0] at hr; cases hr
    rw [if_neg m0] at hr
    rw [exprC_mk]
    by_cases k1 : k = 1
    · subst k1
      simp only [if_true, Bool.and_eq_true] at hr
      have hv := hr.1.2
      have hw : writtenS (.mk 1 v var f rep kids) = valW v := by simp [writtenS]
      rw [hw] at hsz ⊢
      unfold rightV at hv
      by_cases v1 : v.kind = 1
      · rw [if_pos v1] at hv
        simp only [Bool.and_eq_true, decide_eq_true_eq] at hv
        have hm : maxNum = 1099511627776 := rfl
        have := hv.1.1
        have := hv.1.2
        have hf := fun H => (FormatInt_run v.n ⟨by omega, by omega⟩ H).cK
        have : valW v = ⟨(Lib.itoa v.n).toArray⟩ := by unfold valW; rw [if_pos v1]
        rw [this]
        simp [v1, hf]
      · rw [if_neg v1] at hv
        by_cases v2 : v.kind = 2
        · have : valW v = ⟨#[39]⟩ ++ v.s ++ ⟨#[39]⟩ := by unfold valW; rw [if_neg v1, if_pos v2]
          rw [this] at hsz ⊢
          simp only [ByteArray.size_append, e1] at hsz
          have a1 := bin_addS ⟨#[39]⟩ v.s (by rw [e1]; omega)
          have a2 := bin_addS (⟨#[39]⟩ ++ v.s) ⟨#[39]⟩ (by rw [ByteArray.size_append, e1]; omega)
          simp [v2, a1, a2]
        · have hf := fun H => (FormatBool_run (decide (v.n = 1)) H).cK
          have : valW v = boolW (decide (v.n = 1)) := by
            unfold valW boolW
            rw [if_neg v1, if_neg v2]
            by_cases h : v.n = 1 <;> simp [h]
          rw [this]
          simp [v1, v2, hf]
    rw [if_neg k1] at hr
    by_cases k2 : k = 2
    · subst k2
      have hw : writtenS (.mk 2 v var f rep kids) = var ++ ⟨#[46]⟩ ++ f := by simp [writtenS]
      rw [hw] at hsz ⊢
      simp only [ByteArray.size_append, e1] at hsz
      have a1 := bin_addS var ⟨#[46]⟩ (by rw [e1]; omega)
      have a2 := bin_addS (var ++ ⟨#[46]⟩) f (by rw [ByteArray.size_append, e1]; omega)
      simp [a1, a2]
    by_cases k3 : k = 3
    · subst k3
      have hw : writtenS (.mk 3 v var f rep kids) = ⟨#[99, 111, 117, 110, 116, 40]⟩ ++ var ++ ⟨#[41]⟩ := by simp [writtenS]
      rw [hw] at hsz ⊢
      simp only [ByteArray.size_append, e1, e6] at hsz
      have a1 := bin_addS ⟨#[99, 111, 117, 110, 116, 40]⟩ var (by rw [e6]; omega)
      have a2 := bin_addS (⟨#[99, 111, 117, 110, 116, 40]⟩ ++ var) ⟨#[41]⟩ (by rw [ByteArray.size_append, e1, e6]; omega)
      simp [a1, a2]
    by_cases k7 : k = 7 ∨ k = 8
    · have k26 : ¬ (2 ≤ k ∧ k ≤ 6) := by omega
      rw [if_neg k3, if_neg k26, if_pos k7] at hr
      simp only [Bool.and_eq_true] at hr
      have hr := hr.2
      match kids, ih, hr, hsz with
      | [a, b], ih, hr, hsz =>
        simp only [rightTwoX, Bool.and_eq_true] at hr
        obtain ⟨m, rfl⟩ : ∃ m, n = m + 1 := ⟨n - 1, by omega⟩
        have hm : ((m + 1 : Nat) : Int) - 1 = (m : Nat) := by omega
        rw [hm] at hr
        have hA := fun H => (ih a (by simp) m (by omega) hr.1 H).cK
        have hB := fun H => (ih b (by simp) m (by omega) hr.2 H).cK
        have e0 := elem_at exprC_len rep [a, b] .i64 0 a rfl
        have e1' := elem_at exprC_len rep [a, b] .i64 1 b rfl
        have hbk : ∀ (H : Heap) (rest : List D), evLoad H none (.cp (exprC b ++ rest)) = some (i64D b.kind) := fun H rest => by rw [exprC_eq b]; simp
        simp at e0 e1' hbk
        have hb0 : ∀ h : 0 < (exprC b).length, (exprC b)[0] = i64D b.kind := fun h => by simp only [exprC_eq b, List.getElem_cons_zero]
        have hw : writtenS (.mk k v var f rep [a, b]) = writtenS a ++ ⟨#[32]⟩ ++ (if k = 7 then ⟨#[43]⟩ else ⟨#[45]⟩) ++ ⟨#[32]⟩ ++ (if 7 ≤ b.kind then ⟨#[40]⟩ ++ writtenS b ++ ⟨#[41]⟩ else writtenS b) := by
          rw [writtenS, if_neg k1, if_neg k2, if_neg k3, if_pos k7, writtenTwo]
        rw [hw] at hsz ⊢
        generalize hS : (if 7 ≤ b.kind then ⟨#[40]⟩ ++ writtenS b ++ ⟨#[41]⟩ else writtenS b : ByteArray) = S at hsz ⊢
        have hk : ∀ c : Prop, [Decidable c] → (if c then ⟨#[43]⟩ else ⟨#[45]⟩ : ByteArray).size = 1 := fun c _ => by split <;> rfl
        simp only [ByteArray.size_append, e1, hk] at hsz
        have a1 := bin_addS (writtenS a) ⟨#[32]⟩ (by rw [e1]; omega)
        have a2 := fun c => bin_addS (writtenS a ++ ⟨#[32]⟩) ⟨#[c]⟩ (by rw [ByteArray.size_append, e1, e1]; omega)
        have a3 := fun c => bin_addS (writtenS a ++ ⟨#[32]⟩ ++ ⟨#[c]⟩) ⟨#[32]⟩ (by rw [ByteArray.size_append, ByteArray.size_append, e1, e1]; omega)
        have a4 := fun c => bin_addS (writtenS a ++ ⟨#[32]⟩ ++ ⟨#[c]⟩ ++ ⟨#[32]⟩) S (by rw [ByteArray.size_append, ByteArray.size_append, ByteArray.size_append, e1, e1]; omega)
        have ix : ∀ k : Int, k = 7 ∨ k = 8 → evIdxS (strD ⟨#[43, 45]⟩) (i64D (k - 7)) = some (.v (.int .u8 (if k = 7 then 43 else 45))) := fun k h => by rcases h with rfl | rfl <;> kernel_rfl
        have w7 : IntKind.i64.wrap 0 = 0 := by decide
        have w8 : IntKind.i64.wrap 1 = 1 := by decide
        have i7 : evIdxS (strD ⟨#[43, 45]⟩) (i64D 0) = some (.v (.int .u8 43)) := by kernel_rfl
        have i8 : evIdxS (strD ⟨#[43, 45]⟩) (i64D 1) = some (.v (.int .u8 45)) := by kernel_rfl
        by_cases hb7 : 7 ≤ b.kind
        · rw [if_pos hb7] at hS
          have hSs : S.size = (writtenS b).size + 2 := by rw [← hS]; simp only [ByteArray.size_append, e1]; omega
          have b1 := bin_addS ⟨#[40]⟩ (writtenS b) (by rw [e1]; omega)
          have b2 := bin_addS (⟨#[40]⟩ ++ writtenS b) ⟨#[41]⟩ (by rw [ByteArray.size_append, e1, e1]; omega)
          rw [hS] at b2
          rcases k7 with rfl | rfl
          · simp [e0, e1', hbk, hb0, load_elem _ _ _ _ (exprC_len a), load_elem _ _ _ _ (exprC_len b), hA, hB, hb7, b1, b2, a1, a2, a3, a4, w7, i7, conv_plus]
          · simp [e0, e1', hbk, hb0, load_elem _ _ _ _ (exprC_len a), load_elem _ _ _ _ (exprC_len b), hA, hB, hb7, b1, b2, a1, a2, a3, a4, w8, i8, conv_minus]
        · rw [if_neg hb7] at hS
          rw [hS] at hB
          rcases k7 with rfl | rfl
          · simp [e0, e1', hbk, hb0, load_elem _ _ _ _ (exprC_len a), load_elem _ _ _ _ (exprC_len b), hA, hB, hb7, a1, a2, a3, a4, w7, i7, conv_plus]
          · simp [e0, e1', hbk, hb0, load_elem _ _ _ _ (exprC_len a), load_elem _ _ _ _ (exprC_len b), hA, hB, hb7, a1, a2, a3, a4, w8, i8, conv_minus]
      | [], _, hr, _ => cases hr
      | [_], _, hr, _ => cases hr
      | _ :: _ :: _ :: _, _, hr, _ => cases hr
    · rw [if_neg k3] at hr
      have k26 : 2 ≤ k ∧ k ≤ 6 := by
        by_cases h : 2 ≤ k ∧ k ≤ 6
        · exact h
        · rw [if_neg h, if_neg k7] at hr; cases hr
      have hw : writtenS (.mk k v var f rep kids) = foldW k ++ ⟨#[40]⟩ ++ var ++ ⟨#[46]⟩ ++ f ++ ⟨#[41]⟩ := by
        unfold writtenS
        rw [if_neg k1, if_neg k2, if_neg k3, if_neg k7]
      rw [hw] at hsz ⊢
      have hF := fun H => (tree_folds_run H).cK
      have e3 := foldW_size k
      generalize hW : foldW k = W at hsz e3 ⊢
      simp only [ByteArray.size_append, e1] at hsz
      have a1 := bin_addS W ⟨#[40]⟩ (by rw [e1]; omega)
      have a2 := bin_addS (W ++ ⟨#[40]⟩) var (by rw [ByteArray.size_append, e1]; omega)
      have a3 := bin_addS (W ++ ⟨#[40]⟩ ++ var) ⟨#[46]⟩ (by simp only [ByteArray.size_append, e1]; omega)
      have a4 := bin_addS (W ++ ⟨#[40]⟩ ++ var ++ ⟨#[46]⟩) f (by simp only [ByteArray.size_append, e1]; omega)
      have a5 := bin_addS (W ++ ⟨#[40]⟩ ++ var ++ ⟨#[46]⟩ ++ f) ⟨#[41]⟩ (by simp only [ByteArray.size_append, e1]; omega)
      have k456 : k = 4 ∨ k = 5 ∨ k = 6 := by omega
      have hix : evIdxA none 1 7 (.agg [strD ⟨#[]⟩, strD ⟨#[]⟩, strD ⟨#[]⟩, strD ⟨#[99, 111, 117, 110, 116]⟩, strD ⟨#[115, 117, 109]⟩, strD ⟨#[109, 105, 110]⟩, strD ⟨#[109, 97, 120]⟩]) (i64D k) = some (strD W) := by
        rw [← hW]
        rcases k456 with rfl | rfl | rfl <;> rfl
      have k7' : ¬ k = 7 := by omega
      have k8' : ¬ k = 8 := by omega
      simp [k1, k2, k3, k7', k8', hF, hix, a1, a2, a3, a4, a5]
theorem Print_2_run (p : TPred) (hp : predX p = true) (H : Heap) : Run tab (.fn n_q110) [.agg (predC p)] H (strD (predS p)) H := by
  refine cK.run (cK_fn o_q110 t_q110 (Nat.le_of_ble_eq_true rfl) (by decide) ?_)
  unfold predX at hp
  simp only [Bool.and_eq_true, decide_eq_true_eq] at hp
  have hL := fun H => (tree_written_run p.L p.okL 6 (by decide) hp.1.2 H).cK
  have hR := fun H => (tree_written_run p.R p.okR 6 (by decide) hp.2 H).cK
  have hS := fun H => (tree_signs_run H).cK
  have s1 := written_six hp.1.2
  have s2 := written_six hp.2
  have s3 := sign_size p.cmp
  have e1 : ∀ b : UInt8, (⟨#[b]⟩ : ByteArray).size = 1 := fun _ => rfl
  have hix : evIdxA none 1 7 (.agg [strD ⟨#[]⟩, strD ⟨#[61]⟩, strD ⟨#[33, 61]⟩, strD ⟨#[60]⟩, strD ⟨#[60, 61]⟩, strD ⟨#[62]⟩, strD ⟨#[62, 61]⟩]) (i64D p.cmp) = some (strD (signS p.cmp)) := by
    have : p.cmp = 1 ∨ p.cmp = 2 ∨ p.cmp = 3 ∨ p.cmp = 4 ∨ p.cmp = 5 ∨ p.cmp = 6 := by omega
    rcases this with h | h | h | h | h | h <;> rw [h] <;> rfl
  unfold predS
  generalize signS p.cmp = S at *
  generalize writtenS p.L = A at *
  generalize writtenS p.R = B at *
  have a1 := bin_addS A ⟨#[32]⟩ (by rw [e1]; omega)
  have a2 := bin_addS (A ++ ⟨#[32]⟩) S (by simp only [ByteArray.size_append, e1]; omega)
  have a3 := bin_addS (A ++ ⟨#[32]⟩ ++ S) ⟨#[32]⟩ (by simp only [ByteArray.size_append, e1]; omega)
  have a4 := bin_addS (A ++ ⟨#[32]⟩ ++ S ++ ⟨#[32]⟩) B (by simp only [ByteArray.size_append, e1]; omega)
  simp [hL, hR, hS, hix, a1, a2, a3, a4]
theorem pred_size {p : TPred} (hp : predX p = true) : (predS p).size ≤ 13000 := by
  unfold predX at hp
  simp only [Bool.and_eq_true, decide_eq_true_eq] at hp
  have s1 := written_six hp.1.2
  have s2 := written_six hp.2
  have s3 := sign_size p.cmp
  have e1 : ∀ b : UInt8, (⟨#[b]⟩ : ByteArray).size = 1 := fun _ => rfl
  unfold predS
  simp only [ByteArray.size_append, e1]
  omega
end Go.Proofs.YtmfhanoibbmnlaaGreatDoor.Tz
