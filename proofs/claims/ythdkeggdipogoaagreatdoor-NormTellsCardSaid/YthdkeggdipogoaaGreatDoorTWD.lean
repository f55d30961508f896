/-
The walks of the reference's texts: numbers, signs, picks, expressions. Conditions: none.
-/
import Derived.Test.YthdkeggdipogoaaGreatDoorTWt
namespace Go.Proofs.YthdkeggdipogoaaGreatDoor.Tz
open Go.Aug Go.Aug.Api
set_option maxRecDepth 100000
theorem wrapU8 {n : Int} (h : 0 ≤ n) (h2 : n < 256) : IntKind.u8.wrap n = n := by
  simp only [IntKind.wrap, IntKind.signed, IntKind.bits]
  simp
  omega
def digC (u : Nat) : UInt8 := UInt8.ofNat (48 + u % 10)
theorem conv_digit (H : Heap) {r : Nat} {u : Nat} {c : Option Nat} (h : H.get r = some (.cells [.v (.int .u8 (IntKind.u8.wrap (IntKind.i64.wrap (48 + (u : Int) % 10))))])) : evConvB H (.rs r 0 1 c 1) = some (strD ⟨#[digC u]⟩) := by
  have hw : IntKind.i64.wrap (48 + (u : Int) % 10) = 48 + (u : Int) % 10 := wrap64 (by omega) (by omega)
  rw [hw, wrapU8 (by omega) (by omega)] at h
  have e : UInt8.ofNat (48 + (u : Int) % 10).toNat = digC u := by unfold digC; congr 1
  simp [evConvB, firstD, h, bytesL, e]
theorem digit_rem (u : Nat) : evBin .rem (i64D u) (.v (.int .i64 10)) = some (i64D ((u % 10 : Nat) : Int)) := by
  rw [bin_rem _ _ _ (by decide)]
  rfl
theorem digit_quo (u : Nat) (h : u ≤ 9000000000000000000) : evBin .quo (i64D u) (.v (.int .i64 10)) = some (i64D ((u / 10 : Nat) : Int)) := by
  have : evBin .quo (i64D u) (.v (.int .i64 10)) = some (i64D (IntKind.i64.wrap (Int.tdiv (u : Int) 10))) := by simp [evBin, binInt]
  have e : Int.tdiv (u : Int) 10 = ((u / 10 : Nat) : Int) := rfl
  rw [this, e, wrap64 (by omega) (by omega)]
theorem digits_len (u : Nat) (h : u ≤ 9000000000000000000) : (Lib.decDigits u).length ≤ 21 := by
  have := Lib.itoa_length_le (u : Int) (by omega) (by omega)
  unfold Lib.itoa at this
  rw [if_neg (by omega)] at this
  simpa using this
theorem ref08_text_pos (u : Nat) (h2 : u ≤ 9000000000000000000) (H : Heap) : Run tab (.fn n_q44) [i64D u] H (strD ⟨(Lib.decDigits u).toArray⟩) H := by
  refine cK.run (cK_fn o_q44 t_q44 (Nat.le_of_ble_eq_true rfl) (by decide) ?_)
  have h0 : ¬ (u : Int) < 0 := by omega
  have hd := fun u H r c h => conv_digit H (r := r) (u := u) (c := c) h
  have hl := digits_len u h2
  have q0 : Lib.decDigits u = (if u / 10 = 0 then [] else Lib.decDigits (u / 10)) ++ [digC u] := by
    unfold digC
    rw [Lib.decDigits]
    by_cases h : u < 10
    · have e : u / 10 = 0 := by omega
      have e2 : u % 10 = u := by omega
      rw [dif_pos h, e, e2]
      rfl
    · have e : ¬ u / 10 = 0 := by omega
      rw [dif_neg h, if_neg e]
  simp [h0, digit_rem, digit_quo _ h2, hd u]
  refine LR_rule (WR_mono _) (fun j E H' => ∃ out, E 0 = i64D j ∧ E 3 = strD ⟨out.toArray⟩ ∧ Lib.decDigits u = (if j = 0 then [] else Lib.decDigits j) ++ out ∧ j ≤ 9000000000000000000 ∧ H.next ≤ H'.low ∧ H'.low ≤ H'.next) ?_ (j := u / 10) ?_
  rotate_left
  · refine ⟨[digC u], ?_, ?_, q0, by omega, ?_, ?_⟩ <;> simp
  clear q0
  rintro j E H' ⟨out, e0, e3, ho, hj, w1, w2⟩
  by_cases c : j = 0
  · subst c
    simp at ho
    simp [e0, e3, ho, w1]
  · have c' : 0 < j := by omega
    have ho' := congrArg List.length ho
    simp only [List.length_append] at ho'
    have e1 : ∀ b : UInt8, (⟨#[b]⟩ : ByteArray).size = 1 := fun _ => rfl
    have eo : (⟨out.toArray⟩ : ByteArray).size = out.length := by show out.toArray.size = _; simp
    have ha := fun b => bin_addS ⟨#[b]⟩ ⟨out.toArray⟩ (by rw [e1, eo]; omega)
    have cc : ∀ b : UInt8, (⟨#[b]⟩ ++ ⟨out.toArray⟩ : ByteArray) = ⟨(b :: out).toArray⟩ := fun b => ByteArray.ext (by rw [ByteArray.data_append]; simp)
    simp [e0, e3, c', digit_rem, digit_quo _ hj, hd j, ha, cc, w2]
    refine ⟨j / 10, by omega, rfl, ?_, by omega, w1, by omega⟩
    rw [ho, if_neg c, Lib.decDigits]
    unfold digC
    by_cases h : j < 10
    · have e : j / 10 = 0 := by omega
      have e2 : j % 10 = j := by omega
      rw [dif_pos h, e, e2]
      rfl
    · have e : ¬ j / 10 = 0 := by omega
      rw [dif_neg h, if_neg e]
      simp
theorem ref08_text_run (n : Int) (h : -9000000000000000000 ≤ n) (h2 : n ≤ 9000000000000000000) (H : Heap) : Run tab (.fn n_q44) [i64D n] H (strD ⟨(Lib.itoa n).toArray⟩) H := by
  by_cases c : n < 0
  · refine cK.run (cK_fn o_q44 t_q44 (Nat.le_of_ble_eq_true rfl) (by decide) ?_)
    have hw : IntKind.i64.wrap (0 - n) = ((n.natAbs : Nat) : Int) := by rw [wrap64 (by omega) (by omega)]; omega
    have hp := fun H => (ref08_text_pos n.natAbs (by omega) H).cK
    have hl := digits_len n.natAbs (by omega)
    have e1 : (⟨#[45]⟩ : ByteArray).size = 1 := rfl
    have eo : (⟨(Lib.decDigits n.natAbs).toArray⟩ : ByteArray).size = (Lib.decDigits n.natAbs).length := by show (Lib.decDigits n.natAbs).toArray.size = _; simp
    have ha := bin_addS ⟨#[45]⟩ ⟨(Lib.decDigits n.natAbs).toArray⟩ (by rw [e1, eo]; omega)
    have cc : (⟨(Lib.itoa n).toArray⟩ : ByteArray) = ⟨#[45]⟩ ++ ⟨(Lib.decDigits n.natAbs).toArray⟩ := ByteArray.ext (by rw [ByteArray.data_append, Lib.itoa, if_pos c]; simp)
    rw [cc]
    simp only [Int.zero_sub] at hw
    simp [c, hw, hp, ha]
  · have e : n = ((n.toNat : Nat) : Int) := by omega
    have := ref08_text_pos n.toNat (by omega) H
    rw [← e] at this
    rw [Lib.itoa, if_neg c]
    exact this
theorem ref08_Sign_run (c : Int) (h : 1 ≤ c ∧ c ≤ 6) (H : Heap) : Run tab (.fn n_q27) [i64D c] H (strD (signS c)) H := by
  refine cK.run (cK_fn o_q27 t_q27 (Nat.le_of_ble_eq_true rfl) (by decide) ?_)
  have hc : c = 1 ∨ c = 2 ∨ c = 3 ∨ c = 4 ∨ c = 5 ∨ c = 6 := by omega
  rcases hc with rfl | rfl | rfl | rfl | rfl | rfl <;> simp [signS]
def pickW (pk : Int) : ByteArray := if pk = 1 then ⟨#[97, 110, 121]⟩ else if pk = 2 then ⟨#[110, 101, 120, 116]⟩ else ⟨#[115, 116, 114, 105, 99, 116]⟩
theorem ref08_pick_run (c : Int) (h : 1 ≤ c ∧ c ≤ 3) (H : Heap) : Run tab (.fn n_q29) [i64D c] H (strD (pickW c)) H := by
  refine cK.run (cK_fn o_q29 t_q29 (Nat.le_of_ble_eq_true rfl) (by decide) ?_)
  have hc : c = 1 ∨ c = 2 ∨ c = 3 := by omega
  rcases hc with rfl | rfl | rfl <;> simp [pickW]
theorem ref08_word_run (c : Int) (h : 4 ≤ c ∧ c ≤ 6) (H : Heap) : Run tab (.fn n_q45) [i64D c] H (strD (foldW c)) H := by
  refine cK.run (cK_fn o_q45 t_q45 (Nat.le_of_ble_eq_true rfl) (by decide) ?_)
  have hc : c = 4 ∨ c = 5 ∨ c = 6 := by omega
  rcases hc with rfl | rfl | rfl <;> simp [foldW]
theorem ref08_expr_run : ∀ (x : TExpr) (_hx : okE x) (n : Nat) (_hn : n ≤ 6) (_hr : rightX n x = true) (H : Heap), Run tab (.fn n_q28) [.agg (exprC x)] H (strD (writtenS x)) H
  | .mk k v var f rep kids, hx, n, hn, hr, H => by
    have ih : ∀ x ∈ kids, ∀ (n : Nat) (_hn : n ≤ 6) (_hr : rightX n x = true) (H : Heap), Run tab (.fn n_q28) [.agg (exprC x)] H (strD (writtenS x)) H := fun x hmem n hn hr H => ref08_expr_run x (okEs_mem hx.2.1 hmem) n hn hr H
    have e1 : ∀ b : UInt8, (⟨#[b]⟩ : ByteArray).size = 1 := fun _ => rfl
    have e6 : (⟨#[99, 111, 117, 110, 116, 40]⟩ : ByteArray).size = 6 := rfl
    have hsz := written_size _ n hr
    have hpow : 100 * 2 ^ n ≤ 6400 := by
      have : 2 ^ n ≤ 2 ^ 6 := Nat.pow_le_pow_right (by decide) hn
      omega
    refine cK.run (cK_fn o_q28 t_q28 (Nat.le_of_ble_eq_true rfl) (by decide) ?_)
    unfold rightX at hr
    by_cases m0 : (n : Int) = 0
    · rw [if_pos m0] at hr; cases hr
    rw [if_neg m0] at hr
    rw [exprC_mk]
    by_cases k1 : k = 1
    · subst k1
      simp only [if_true, Bool.and_eq_true] at hr
      have hv := hr.1.2
      have hw : writtenS (.mk 1 v var f rep kids) = valW v := by simp [writtenS]
      rw [hw] at hsz ⊢
      unfold rightV at hv
      by_cases v1 : v.kind = 1
      · rw [if_pos v1] at hv
        simp only [Bool.and_eq_true, decide_eq_true_eq] at hv
        have hm : maxNum = 1099511627776 := rfl
        have := hv.1.1
        have := hv.1.2
        have hf := fun H => (ref08_text_run v.n (by omega) (by omega) H).cK
        have : valW v = ⟨(Lib.itoa v.n).toArray⟩ := by unfold valW; rw [if_pos v1]
        rw [this]
        simp [v1, hf]
      · rw [if_neg v1] at hv
        by_cases v2 : v.kind = 2
        · have : valW v = ⟨#[39]⟩ ++ v.s ++ ⟨#[39]⟩ := by unfold valW; rw [if_neg v1, if_pos v2]
          rw [this] at hsz ⊢
          simp only [ByteArray.size_append, e1] at hsz
          have a1 := bin_addS ⟨#[39]⟩ v.s (by rw [e1]; omega)
          have a2 := bin_addS (⟨#[39]⟩ ++ v.s) ⟨#[39]⟩ (by rw [ByteArray.size_append, e1]; omega)
          simp [v2, a1, a2]
        · have : valW v = boolW (decide (v.n = 1)) := by
            unfold valW boolW
            rw [if_neg v1, if_neg v2]
            by_cases h : v.n = 1 <;> simp [h]
          rw [this]
          by_cases h : v.n = 1 <;> simp [v1, v2, h, boolW]
    rw [if_neg k1] at hr
    by_cases k2 : k = 2
    · subst k2
      have hw : writtenS (.mk 2 v var f rep kids) = var ++ ⟨#[46]⟩ ++ f := by simp [writtenS]
      rw [hw] at hsz ⊢
      simp only [ByteArray.size_append, e1] at hsz
      have a1 := bin_addS var ⟨#[46]⟩ (by rw [e1]; omega)
      have a2 := bin_addS (var ++ ⟨#[46]⟩) f (by rw [ByteArray.size_append, e1]; omega)
      simp [a1, a2]
    by_cases k3 : k = 3
    · subst k3
      have hw : writtenS (.mk 3 v var f rep kids) = ⟨#[99, 111, 117, 110, 116, 40]⟩ ++ var ++ ⟨#[41]⟩ := by simp [writtenS]
      rw [hw] at hsz ⊢
      simp only [ByteArray.size_append, e1, e6] at hsz
      have a1 := bin_addS ⟨#[99, 111, 117, 110, 116, 40]⟩ var (by rw [e6]; omega)
      have a2 := bin_addS (⟨#[99, 111, 117, 110, 116, 40]⟩ ++ var) ⟨#[41]⟩ (by rw [ByteArray.size_append, e1, e6]; omega)
      simp [a1, a2]
    by_cases k7 : k = 7 ∨ k = 8
    · have k26 : ¬ (2 ≤ k ∧ k ≤ 6) := by omega
      rw [if_neg k3, if_neg k26, if_pos k7] at hr
      simp only [Bool.and_eq_true] at hr
      have hr := hr.2
      match kids, ih, hr, hsz with
      | [a, b], ih, hr, hsz =>
        simp only [rightTwoX, Bool.and_eq_true] at hr
        obtain ⟨m, rfl⟩ : ∃ m, n = m + 1 := ⟨n - 1, by omega⟩
        have hm : ((m + 1 : Nat) : Int) - 1 = (m : Nat) := by omega
        rw [hm] at hr
        have hA := fun H => (ih a (by simp) m (by omega) hr.1 H).cK
        have hB := fun H => (ih b (by simp) m (by omega) hr.2 H).cK
        have e0 := elem_at exprC_len rep [a, b] .i64 0 a rfl
        have e1' := elem_at exprC_len rep [a, b] .i64 1 b rfl
        have hbk : ∀ (H : Heap) (rest : List D), evLoad H none (.cp (exprC b ++ rest)) = some (i64D b.kind) := fun H rest => by rw [exprC_eq b]; simp
        simp at e0 e1' hbk
        have hb0 : ∀ h : 0 < (exprC b).length, (exprC b)[0] = i64D b.kind := fun h => by simp only [exprC_eq b, List.getElem_cons_zero]
        have e3 : ∀ c : UInt8, (⟨#[32, c, 32]⟩ : ByteArray).size = 3 := fun _ => rfl
        have hmid : ∀ c : UInt8, (⟨#[32]⟩ ++ (⟨#[c]⟩ ++ ⟨#[32]⟩) : ByteArray) = ⟨#[32, c, 32]⟩ := fun c => ByteArray.ext (by simp [ByteArray.data_append])
        generalize hS : (if 7 ≤ b.kind then ⟨#[40]⟩ ++ writtenS b ++ ⟨#[41]⟩ else writtenS b : ByteArray) = S
        have hw : writtenS (.mk k v var f rep [a, b]) = writtenS a ++ (if k = 7 then ⟨#[32, 43, 32]⟩ else ⟨#[32, 45, 32]⟩) ++ S := by
          rw [writtenS, if_neg k1, if_neg k2, if_neg k3, if_pos k7, writtenTwo, hS]
          split <;> simp only [ByteArray.append_assoc, ← hmid]
        rw [hw] at hsz ⊢
        have hk : ∀ c : Prop, [Decidable c] → (if c then ⟨#[32, 43, 32]⟩ else ⟨#[32, 45, 32]⟩ : ByteArray).size = 3 := fun c _ => by split <;> rfl
        simp only [ByteArray.size_append, hk] at hsz
        have a1 := fun c => bin_addS (writtenS a) ⟨#[32, c, 32]⟩ (by rw [e3]; omega)
        have a2 := fun c => bin_addS (writtenS a ++ ⟨#[32, c, 32]⟩) S (by rw [ByteArray.size_append, e3]; omega)
        by_cases hb7 : 7 ≤ b.kind
        · rw [if_pos hb7] at hS
          have hSs : S.size = (writtenS b).size + 2 := by rw [← hS]; simp only [ByteArray.size_append, e1]; omega
          have b1 := bin_addS ⟨#[40]⟩ (writtenS b) (by rw [e1]; omega)
          have b2 := bin_addS (⟨#[40]⟩ ++ writtenS b) ⟨#[41]⟩ (by rw [ByteArray.size_append, e1, e1]; omega)
          rw [hS] at b2
          rcases k7 with rfl | rfl
          · simp [e0, e1', hbk, hb0, load_elem _ _ _ _ (exprC_len a), load_elem _ _ _ _ (exprC_len b), hA, hB, hb7, b1, b2, a1, a2]
          · simp [e0, e1', hbk, hb0, load_elem _ _ _ _ (exprC_len a), load_elem _ _ _ _ (exprC_len b), hA, hB, hb7, b1, b2, a1, a2]
        · rw [if_neg hb7] at hS
          rw [hS] at hB
          rcases k7 with rfl | rfl
          · simp [e0, e1', hbk, hb0, load_elem _ _ _ _ (exprC_len a), load_elem _ _ _ _ (exprC_len b), hA, hB, hb7, a1, a2]
          · simp [e0, e1', hbk, hb0, load_elem _ _ _ _ (exprC_len a), load_elem _ _ _ _ (exprC_len b), hA, hB, hb7, a1, a2]
      | [], _, hr, _ => cases hr
      | [_], _, hr, _ => cases hr
      | _ :: _ :: _ :: _, _, hr, _ => cases hr
    · rw [if_neg k3] at hr
      have k26 : 2 ≤ k ∧ k ≤ 6 := by
        by_cases h : 2 ≤ k ∧ k ≤ 6
        · exact h
        · rw [if_neg h, if_neg k7] at hr; cases hr
      have hw : writtenS (.mk k v var f rep kids) = foldW k ++ ⟨#[40]⟩ ++ var ++ ⟨#[46]⟩ ++ f ++ ⟨#[41]⟩ := by
        unfold writtenS
        rw [if_neg k1, if_neg k2, if_neg k3, if_neg k7]
      rw [hw] at hsz ⊢
      have hF := fun H => (ref08_word_run k (by omega) H).cK
      have e3 := foldW_size k
      generalize hW : foldW k = W at hsz e3 hF ⊢
      simp only [ByteArray.size_append, e1] at hsz
      have a1 := bin_addS W ⟨#[40]⟩ (by rw [e1]; omega)
      have a2 := bin_addS (W ++ ⟨#[40]⟩) var (by rw [ByteArray.size_append, e1]; omega)
      have a3 := bin_addS (W ++ ⟨#[40]⟩ ++ var) ⟨#[46]⟩ (by simp only [ByteArray.size_append, e1]; omega)
      have a4 := bin_addS (W ++ ⟨#[40]⟩ ++ var ++ ⟨#[46]⟩) f (by simp only [ByteArray.size_append, e1]; omega)
      have a5 := bin_addS (W ++ ⟨#[40]⟩ ++ var ++ ⟨#[46]⟩ ++ f) ⟨#[41]⟩ (by simp only [ByteArray.size_append, e1]; omega)
      have k7' : ¬ k = 7 := by omega
      have k8' : ¬ k = 8 := by omega
      simp [k1, k2, k3, k7', k8', hF, a1, a2, a3, a4, a5]
end Go.Proofs.YthdkeggdipogoaaGreatDoor.Tz

namespace Go.Aug.Api
open Go.Aug
theorem rightE_eq : ∀ (x : TExpr) (n : Nat), rightE n x = rightX n x
  | .mk k v var f rep kids, n => by
    have ih : ∀ x ∈ kids, ∀ n : Nat, rightE n x = rightX n x := fun x _ n => rightE_eq x n
    unfold rightE rightX
    by_cases m0 : (n : Int) = 0
    · rw [if_pos (.inl (by omega)), if_pos m0]
    rw [if_neg m0]
    have n1 : ¬ (n : Int) < 1 := by omega
    obtain ⟨m, rfl⟩ : ∃ m, n = m + 1 := ⟨n - 1, by omega⟩
    have hm : ((m + 1 : Nat) : Int) - 1 = (m : Nat) := by omega
    rw [hm]
    have h2 : rightTwo m kids = rightTwoX m kids := by
      match kids, ih with
      | [a, b], ih => simp only [rightTwo, rightTwoX, ih a (by simp) m, ih b (by simp) m]
      | [], _ => rfl
      | [_], _ => rfl
      | _ :: _ :: _ :: _, _ => rfl
    rw [h2]
    have n2 : (1 : Int) ≤ (m : Int) + 1 := by omega
    have n3 : decide ((m : Int) + 1 < 1) = false := by simp; omega
    by_cases k1 : k = 1
    · subst k1
      cases kids with
      | nil =>
        by_cases v1 : var = emptyS <;> by_cases v2 : f = emptyS <;> simp [n1, n2, n3, v1, v2, Bool.and_comm]
      | cons a l => simp [n1, n2]
    · by_cases k3 : k = 3
      · subst k3
        cases kids with
        | nil => by_cases v1 : v = zVal <;> simp [n1, n2, n3, v1]
        | cons a l => simp [n1, n2]
      · by_cases k26 : 2 ≤ k ∧ k ≤ 6
        · have k26' : k = 2 ∨ k = 4 ∨ k = 5 ∨ k = 6 := by omega
          have k7 : ¬ (k = 7 ∨ k = 8) := by omega
          rw [if_neg k1, if_neg k3, if_pos k26, if_pos k26']
          cases kids with
          | nil => by_cases v1 : v = zVal <;> simp [n1, n2, n3, v1, k1, k3]
          | cons a l => rw [if_pos (.inr (.inl ⟨k7, by simp⟩))]; simp
        · have k26' : ¬ (k = 2 ∨ k = 4 ∨ k = 5 ∨ k = 6) := by omega
          rw [if_neg k1, if_neg k3, if_neg k26, if_neg k26']
          by_cases k7 : k = 7 ∨ k = 8
          · simp only [if_pos k7]
            by_cases v1 : v = zVal <;> by_cases v2 : var = emptyS <;> by_cases v3 : f = emptyS <;> simp [n1, n2, n3, v1, v2, v3, k1, k7, k3]
          · simp only [if_neg k7]
            split
            · rfl
            · split
              · rfl
              · simp [k1]
theorem rightQ_eq (q : TQuery) : rightQ q = rightP q := by
  unfold rightQ rightP
  have hp : q.preds.l.all predOk = q.preds.l.all predX := by
    congr 1
    funext p
    unfold predOk predX
    have h1 := rightE_eq p.L 6
    have h2 := rightE_eq p.R 6
    have e : ((6 : Nat) : Int) = 6 := rfl
    rw [e] at h1 h2
    rw [h1, h2]
  rw [hp]
  by_cases c : q.items.l.length < 1 ∨ 6 < q.items.l.length ∨ 8 < q.preds.l.length
  · rw [if_pos c]
    rcases c with c | c | c
    · have : decide (q.items.l.length = 0) = true := decide_eq_true (by omega)
      rw [this]; simp
    · have : decide (6 < q.items.l.length) = true := by simpa using c
      rw [this]; simp
    · have : decide (8 < q.preds.l.length) = true := by simpa using c
      rw [this]; simp
  · rw [if_neg c]
    have e1 : decide (q.items.l.length = 0) = false := by rw [decide_eq_false_iff_not]; omega
    have e2 : decide (6 < q.items.l.length) = false := by rw [decide_eq_false_iff_not]; omega
    have e3 : decide (8 < q.preds.l.length) = false := by rw [decide_eq_false_iff_not]; omega
    rw [e1, e2, e3]
    have f1 : decide (0 ≤ q.within) = !decide (q.within < 0) := by rw [← decide_not]; congr 1; simp
    have f2 : decide (q.within ≤ maxNum) = !decide (maxNum < q.within) := by rw [← decide_not]; congr 1; simp
    have f3 : decide (1 ≤ q.pick) = !decide (q.pick < 1) := by rw [← decide_not]; congr 1; simp
    have f4 : decide (q.pick ≤ 3) = !decide (3 < q.pick) := by rw [← decide_not]; congr 1; simp
    rw [f1, f2, f3, f4]
    cases itemsOk [] q.items.l <;> cases q.preds.l.all predX <;> cases decide (q.within < 0) <;> cases decide (maxNum < q.within) <;> cases decide (q.pick < 1) <;> cases decide (3 < q.pick) <;> simp
end Go.Aug.Api
