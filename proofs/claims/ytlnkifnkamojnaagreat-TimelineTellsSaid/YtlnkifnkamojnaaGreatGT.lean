/-
The walks of names, of texts in quotes, of expressions that are right. Conditions: none.
-/
import Derived.Test.YtlnkifnkamojnaaGreatTW7
namespace Go.Proofs.YtlnkifnkamojnaaGreat.Tz
open Go.Aug Go.Aug.Api
set_option maxRecDepth 100000
theorem size_pos (s : ByteArray) : (s = ⟨#[]⟩) ↔ s.size = 0 := by
  constructor
  · rintro rfl; rfl
  · intro h
    obtain ⟨⟨l⟩⟩ := s
    have : l.length = 0 := h
    rw [List.length_eq_zero_iff.1 this]
theorem event_Word_run (s : ByteArray) (hs : s.size ≤ big) (H : Heap) : Run tab (.fn n_q79) [strD s] H (bD (wordS s)) H := by
  refine cK.run (cK_fn o_q79 t_q79 (Nat.le_of_ble_eq_true rfl) (by decide) ?_)
  simp
  refine LR_rule (WR_mono _) (fun j E H' => H' = low0 H ∧ ∃ pre suf, s.data.toList = pre ++ suf ∧ j = suf.length ∧ E 0 = strD s ∧ E 6 = i64D s.size ∧ E 7 = i64D pre.length ∧ wordL true pre = true) ?_ (j := s.data.toList.length) ⟨rfl, [], s.data.toList, by simp, rfl, by simp, by simp, by simp, rfl⟩
  rintro j E H' ⟨rfl, pre, suf, hl, rfl, e0, e6, e7, hp⟩
  have hsz := size_list s
  cases suf with
  | nil =>
    simp at hl
    have hlt' : ((pre.length : Int) < (s.size : Int)) = False := by rw [hsz, hl]; simp
    simp [e0, e6, e7, hlt']
    have hl2 : s.data.toList = pre := hl
    by_cases h : s = ⟨#[]⟩
    · have h0 := (size_pos s).1 h
      simp [h, wordS]
      simp [← h, h0]
    · have h1 : 1 ≤ s.size := by have := mt (size_pos s).2 h; omega
      by_cases h16 : s.size ≤ 16
      · have : (s.size : Int) ≤ 16 := by omega
        simp [h, e0, wordS, hl2, hp, h1, h16, this]
      · have : ¬ (s.size : Int) ≤ 16 := by omega
        simp [-Int.not_le, -Nat.not_le, h, e0, wordS, hl2, hp, h1, h16, this]
  | cons b suf =>
    have hlt : pre.length < s.size := by rw [hsz, hl]; simp
    have hlt' : ((pre.length : Int) < (s.size : Int)) = True := by simp; omega
    have hw := wrap_more hlt hs
    have hword : wordS s = (okB pre.isEmpty (b.toNat : Int) && (wordL false suf && decide (1 ≤ s.size) && decide (s.size ≤ 16))) := by
      simp only [wordS, hl, wordL_append, hp, wordL]
      cases pre <;> simp [Bool.and_assoc]
    have stop : okB pre.isEmpty (b.toNat : Int) = false → wordS s = false := fun h => by rw [hword, h]; rfl
    have go : okB pre.isEmpty (b.toNat : Int) = true → ∃ j', j' < suf.length + 1 ∧ ∃ pre_1 suf, s.data.toList = pre_1 ++ suf ∧ j' = suf.length ∧ (pre.length : Int) + 1 = (pre_1.length : Int) ∧ wordL true pre_1 = true := fun h =>
      ⟨suf.length, by omega, pre ++ [b], suf, by simp [hl], rfl, by simp, by simp [wordL_append, hp, wordL]; exact h⟩
    have hok : okB pre.isEmpty (b.toNat : Int) = ((decide (97 ≤ (b.toNat : Int)) && decide ((b.toNat : Int) ≤ 122)) || (decide (0 < (pre.length : Int)) && (decide ((b.toNat : Int) = 95) || (decide (48 ≤ (b.toNat : Int)) && decide ((b.toNat : Int) ≤ 57))))) := by
      unfold okB
      cases pre <;> simp
    rw [hok] at stop go
    simp [e0, e6, e7, hlt', idxS_zip s pre b suf hl]
    generalize (b.toNat : Int) = c at *
    by_cases c1 : 97 ≤ c
    · by_cases c2 : c ≤ 122
      · simp [c1, c2, e0, e6, e7, hw]
        exact go (by simp [c1, c2])
      · have c3 : ¬ c = 95 := by omega
        have c4 : ¬ c ≤ 57 := by omega
        have c5 : 48 ≤ c := by omega
        by_cases c6 : 0 < pre.length <;> simp [c1, c2, c3, c4, c5, c6, e0, e6, e7, hw]
        · exact stop (by simp [c1, c2, c3, c4, c5])
        · exact stop (by simp [c1, c2, c3, c4, c5])
    · by_cases c6 : 0 < pre.length
      · by_cases c3 : c = 95
        · simp [c3, c6, e0, e6, e7, hw]
          exact go (by simp [c3, c6])
        · by_cases c5 : 48 ≤ c
          · by_cases c4 : c ≤ 57
            · simp [c1, c3, c4, c5, c6, e0, e6, e7, hw]
              exact go (by simp [c1, c3, c4, c5, c6])
            · simp [c1, c3, c4, c5, c6, e0, e6, e7, hw]
              exact stop (by simp [c1, c3, c4, c5, c6])
          · simp [c1, c3, c5, c6, e0, e6, e7, hw]
            exact stop (by simp [c1, c3, c5, c6])
      · simp [c1, c6, e0, e6, e7, hw]
        exact stop (by simp [c1, c6])
theorem Contains_run (a b : ByteArray) (h : a.size < 4294967281) (H : Heap) : Run tab (.fn n_q159) [strD a, strD b] H (bD (Lib.contains a.data.toList b.data.toList)) H :=
  cK.run (cK_orc o_q159 ⟨_, by simp only [orcContains, if_pos h]; rfl, rfl, rfl⟩)
theorem bin_addS (a b : ByteArray) (h : a.size + b.size ≤ 1000000) : evBin .add (strD a) (strD b) = some (strD (a ++ b)) := by
  simp [evBin, binStr]
  omega
theorem lex_Key_run (w : ByteArray) (hw : w.size ≤ 16) (H : Heap) : Run tab (.fn n_q95) [strD w] H (bD (keyS w)) H := by
  refine cK.run (cK_fn o_q95 t_q95 (Nat.le_of_ble_eq_true rfl) (by decide) ?_)
  have hC := fun H => (Contains_run w ⟨#[32]⟩ (by omega) H).cK
  have hK := fun H => (Contains_run ⟨#[32, 115, 101, 113, 32, 116, 104, 101, 110, 32, 110, 111, 116, 32, 111, 114, 32, 119, 104, 101, 114, 101, 32, 97, 110, 100, 32, 119, 105, 116, 104, 105, 110, 32, 98, 121, 32, 112, 105, 99, 107, 32, 97, 110, 121, 32, 110, 101, 120, 116, 32, 115, 116, 114, 105, 99, 116, 32, 116, 114, 117, 101, 32, 102, 97, 108, 115, 101, 32, 99, 111, 117, 110, 116, 32, 115, 117, 109, 32, 109, 105, 110, 32, 109, 97, 120, 32]⟩ ((⟨#[32]⟩ ++ w) ++ ⟨#[32]⟩) (by decide) H).cK
  have hd : ((⟨#[32]⟩ ++ w) ++ ⟨#[32]⟩ : ByteArray).data.toList = 32 :: (w.data.toList ++ [32]) := by simp
  have hk : keyS w = (decide (w ≠ ⟨#[]⟩) && !(Lib.contains w.data.toList [32]) && Lib.contains keysK (32 :: (w.data.toList ++ [32]))) := by
    rw [Bool.eq_iff_iff, keyS_iff, ← keyB_iff w.data.toList (by rw [← size_list]; exact hw), ← occ_space]
    simp only [Lib.contains, Bool.and_eq_true, decide_eq_true_eq, Bool.not_eq_true', decide_eq_false_iff_not, and_assoc, ne_eq]
    have : w.data.toList = [] ↔ w = ⟨#[]⟩ := by rw [size_pos, size_list, List.length_eq_zero_iff]
    rw [this]
  simp only [hd] at hK
  rw [hk]
  by_cases h0 : w = ⟨#[]⟩
  · subst h0
    simp
  · cases h1 : Lib.contains w.data.toList [32] with
    | true => simp [h0, hC, h1]
    | false =>
      have s1 : (⟨#[32]⟩ : ByteArray).size = 1 := rfl
      have a1 := bin_addS ⟨#[32]⟩ w (by rw [s1]; omega)
      have a2 := bin_addS (⟨#[32]⟩ ++ w) ⟨#[32]⟩ (by rw [ByteArray.size_append, s1]; omega)
      simp [h0, hC, h1, a1, a2, hK]
      rfl
theorem tree_name_run (s : ByteArray) (hs : s.size ≤ big) (H : Heap) : Run tab (.fn n_q177) [strD s] H (bD (nameS s)) H := by
  refine cK.run (cK_fn o_q177 t_q177 (Nat.le_of_ble_eq_true rfl) (by decide) ?_)
  have hW := fun H => (event_Word_run s hs H).cK
  cases h : wordS s with
  | false => simp [hW, h, nameS]
  | true =>
    have h16 : s.size ≤ 16 := by
      unfold wordS at h
      simp only [Bool.and_eq_true, decide_eq_true_eq] at h
      exact h.2
    have hK := fun H => (lex_Key_run s h16 H).cK
    simp [hW, h, hK, nameS]
theorem tree_plain_run (s : ByteArray) (hs : s.size ≤ big) (H : Heap) : Run tab (.fn n_q178) [strD s] H (bD (plainL s.data.toList)) H := by
  refine cK.run (cK_fn o_q178 t_q178 (Nat.le_of_ble_eq_true rfl) (by decide) ?_)
  simp
  refine LR_rule (WR_mono _) (fun j E H' => H' = low0 H ∧ ∃ pre suf, s.data.toList = pre ++ suf ∧ j = suf.length ∧ E 0 = strD s ∧ E 5 = i64D s.size ∧ E 6 = i64D pre.length ∧ plainL s.data.toList = plainL suf) ?_ (j := s.data.toList.length) ⟨rfl, [], s.data.toList, by simp, rfl, by simp, by simp, by simp, rfl⟩
  rintro j E H' ⟨rfl, pre, suf, hl, rfl, e0, e5, e6, hp⟩
  have hsz := size_list s
  rw [hp]
  cases suf with
  | nil =>
    simp at hl
    have hlt' : ((pre.length : Int) < (s.size : Int)) = False := by rw [hsz, hl]; simp
    simp [e0, e5, e6, hlt', plainL]
  | cons b suf =>
    have hlt : pre.length < s.size := by rw [hsz, hl]; simp
    have hlt' : ((pre.length : Int) < (s.size : Int)) = True := by simp; omega
    have hw := wrap_more hlt hs
    have hx := fun k => idxS_zip s pre b suf hl k
    simp [e0, e5, e6, hlt', hx, plainL]
    have go : (!(decide ((b.toNat : Int) < 32) || decide (126 < (b.toNat : Int)) || decide ((b.toNat : Int) = 39))) = true → plainL s.data.toList = plainL suf := fun h => by rw [hp, plainL, h]; rfl
    by_cases c1 : (b.toNat : Int) < 32
    · simp [c1, e0, e5, e6, hx]
    · by_cases c2 : 126 < (b.toNat : Int)
      · simp [c1, c2, e0, e5, e6, hx]
      · by_cases c3 : (b.toNat : Int) = 39
        · simp [c1, c2, c3, e0, e5, e6, hx]
        · simp [c1, c2, c3, e0, e5, e6, hx, hw]
          exact ⟨suf.length, by omega, pre ++ [b], suf, by simp [hl], rfl, by simp, by first | exact go (by simp [c1, c2, c3]) | rfl⟩
theorem expr_head (k : Int) (v : TVal) (var f : ByteArray) (rep : Option (Option Nat)) (kids : List TExpr) (most : Int) (H : Heap) (c : AC) (Q : PostX)
    (h : ∀ E, E 1 = i64D most → E 2 = .rf H.next 0 → E 5 = bD (decide (var = emptyS) && decide (f = emptyS)) → E 6 = bD (decide (v = zVal) && kids.isEmpty) → WR 123 tab none c E ((low0 H).add (.cells (exprC (.mk k v var f rep kids)))) Q) :
    WR 123 tab none (.seq (.reg F_q175.r0) (.seq (.reg F_q175.r1) (.seq (.reg F_q175.r2) c))) (argX [.agg (exprC (.mk k v var f rep kids)), i64D most]) (low0 H) Q := by
  have hz : (decide (v.kind = 0) && decide (v.n = 0) && decide (v.s = ⟨#[]⟩)) = decide (v = zVal) := by
    cases v
    simp [zVal]
    grind
  have hk0 : kids.isEmpty = decide ((kids.length : Int) = 0) := by
    cases kids
    · rfl
    · simp; omega
  rw [exprC_mk] at *
  by_cases b1 : var = ⟨#[]⟩
  · subst b1
    have b1 : (⟨#[]⟩ : ByteArray) = ⟨#[]⟩ := rfl
    by_cases b3 : v = zVal
    · have hz' := hz
      rw [decide_eq_true b3] at hz'
      simp [b1, eq_val, hz']
      refine h _ ?_ ?_ ?_ ?_ <;> simp [b1, b3, hk0, emptyS] <;> exact decide_eq_decide.2 Iff.rfl
    · have hz' := hz
      rw [decide_eq_false b3] at hz'
      simp [b1, eq_val, hz']
      refine h _ ?_ ?_ ?_ ?_ <;> simp [b1, b3, hk0, emptyS] <;> exact decide_eq_decide.2 Iff.rfl
  · by_cases b3 : v = zVal
    · have hz' := hz
      rw [decide_eq_true b3] at hz'
      simp [b1, eq_val, hz']
      refine h _ ?_ ?_ ?_ ?_ <;> simp [b1, b3, hk0, emptyS] <;> exact decide_eq_decide.2 Iff.rfl
    · have hz' := hz
      rw [decide_eq_false b3] at hz'
      simp [b1, eq_val, hz']
      refine h _ ?_ ?_ ?_ ?_ <;> simp [b1, b3, hk0, emptyS] <;> exact decide_eq_decide.2 Iff.rfl
theorem tree_expression_run : ∀ (x : TExpr) (_hx : okE x) (most : Int) (_hm : 0 ≤ most ∧ most ≤ 1000) (H : Heap), Run tab (.fn n_q175) [.agg (exprC x), i64D most] H (bD (rightX most x)) H
  | .mk k v var f rep kids, hx, most, hm, H => by
    have ih : 1 ≤ most → ∀ x ∈ kids, ∀ (H : Heap), Run tab (.fn n_q175) [.agg (exprC x), i64D (most - 1)] H (bD (rightX (most - 1) x)) H := fun h1 x hmem H => tree_expression_run x (okEs_mem hx.2.1 hmem) (most - 1) (by omega) H
    have nV := fun H => (tree_name_run var hx.2.2.1 H).cK
    have nF := fun H => (tree_name_run f hx.2.2.2.1 H).cK
    have nP := fun H => (tree_plain_run v.s hx.2.2.2.2 H).cK
    have nR := fun H => (value_Right_run v.kind v.n v.s H).cK
    refine cK.run (cK_fn o_q175 t_q175 (Nat.le_of_ble_eq_true rfl) (by decide) ?_)
    have sub1 : IntKind.i64.wrap (most - 1) = most - 1 := wrap64 (by omega) (by omega)
    have hz : (decide (v.kind = 0) && decide (v.n = 0) && decide (v.s = ⟨#[]⟩)) = decide (v = zVal) := by
      cases v
      simp [zVal]
      grind
    have hk0 : kids.isEmpty = decide ((kids.length : Int) = 0) := by
      cases kids
      · rfl
      · simp; omega
    have hval : (⟨v.kind, v.n, v.s⟩ : TVal) = v := rfl
    refine expr_head k v var f rep kids most H _ _ fun E e1 e2 e5 e6 => ?_
    rw [exprC_mk]
    unfold rightX
    generalize hB : (decide (var = emptyS) && decide (f = emptyS)) = B at e5 ⊢
    generalize hS : (decide (v = zVal) && kids.isEmpty) = S at e6 ⊢
    clear hS hB
    by_cases m0 : most = 0
    · simp [e1, e2, e5, e6, m0]
    rw [if_neg m0]
    by_cases k1 : k = 1
    · rw [if_pos k1]
      cases B with
      | false => simp [e1, e2, e5, e6, m0, k1]
      | true =>
        by_cases b2 : kids = []
        · subst b2
          cases b3 : rightV v <;> simp [e1, e2, e5, e6, m0, k1, b3, nR, nP, hval]
        · simp [e1, e2, e5, e6, m0, k1, b2]
    rw [if_neg k1]
    by_cases k3 : k = 3
    · rw [if_pos k3]
      cases S with
      | false => simp [e1, e2, e5, e6, m0, k3]
      | true => cases b2 : nameS var <;> simp [e1, e2, e5, e6, m0, k3, b2, nV] <;> exact Iff.rfl
    rw [if_neg k3]
    by_cases k2 : 2 ≤ k ∧ k ≤ 6
    · rw [if_pos k2]
      cases S with
      | false => simp [e1, e2, e5, e6, m0, k1, k3, k2]
      | true => cases b2 : nameS var <;> simp [e1, e2, e5, e6, m0, k1, k3, k2, b2, nV, nF]
    rw [if_neg k2]
    have k2' : (decide (2 ≤ k) && decide (k ≤ 6)) = false := by rw [Bool.and_eq_false_iff]; simp; omega
    by_cases k7 : k = 7 ∨ k = 8
    · rw [if_pos k7]
      cases B with
      | false => rcases k7 with rfl | rfl <;> simp [e1, e2, e5, e6, m0]
      | true =>
        generalize hZ : decide (v = zVal) = Z at hz ⊢
        clear hZ
        cases Z with
        | true =>
          have two : ¬ kids.length = 2 → rightTwoX (most - 1) kids = false := fun h => by
            match kids, h with
            | [], _ => rfl
            | [_], _ => rfl
            | [_, _], h => exact absurd rfl h
            | _ :: _ :: _ :: _, _ => rfl
          by_cases b4 : kids.length = 2
          · obtain ⟨a, b, rfl⟩ : ∃ a b, kids = [a, b] := by
              match kids, b4 with
              | [a, b], _ => exact ⟨a, b, rfl⟩
            have hA := fun H => (ih (by omega) a (by simp) H).cK
            have hB := fun H => (ih (by omega) b (by simp) H).cK
            have e0 := elem_at exprC_len rep [a, b] .i64 0 a rfl
            have e1' := elem_at exprC_len rep [a, b] .i64 1 b rfl
            simp at e0 e1'
            cases b5 : rightX (most - 1) a <;> rcases k7 with rfl | rfl <;> simp [e1, e2, e5, e6, m0, eq_val, hz, sub1, e0, e1', load_elem _ _ _ _ (exprC_len a), load_elem _ _ _ _ (exprC_len b), hA, hB, b5, rightTwoX]
          · have b4' : ¬ (kids.length : Int) = 2 := by omega
            rcases k7 with rfl | rfl <;> simp [e1, e2, e5, e6, m0, eq_val, hz, b4', two b4]
        | false =>
          rcases k7 with rfl | rfl <;> simp [e1, e2, e5, e6, m0, eq_val, hz]
    rw [if_neg k7]
    have h7 : k ≠ 7 := fun h => k7 (.inl h)
    have h8 : k ≠ 8 := fun h => k7 (.inr h)
    by_cases k4 : 2 ≤ k
    · have k5 : ¬ k ≤ 6 := by omega
      simp [e1, e2, e5, e6, m0, k1, k3, k4, k5, h7, h8]
    · simp [e1, e2, e5, e6, m0, k1, k3, k4, h7, h8]
end Go.Proofs.YtlnkifnkamojnaaGreat.Tz
namespace Go.Proofs.YtlnkifnkamojnaaGreat.Tz
open Go.Aug Go.Aug.Api
set_option maxRecDepth 100000
theorem wrap_one : IntKind.i64.wrap 1 = 1 := by decide
theorem wrap_two : IntKind.i64.wrap 2 = 2 := by decide
theorem wrap_oneone : IntKind.i64.wrap (1 + 1) = 2 := by decide
theorem tree_item_run (x : TItem) (at_ : Int) (H : Heap) : Run tab (.fn n_q176) [.agg (itemC x), i64D at_] H (bD (rightItem x (decide (at_ = 0)))) H := by
  refine cK.run (cK_fn o_q176 t_q176 (Nat.le_of_ble_eq_true rfl) (by decide) ?_)
  have nV := fun H => (tree_name_run x.var x.okV H).cK
  simp [itemC, Sl.enc]
  refine LR_rule (WR_mono _) (fun j E H' => ∃ pre suf m, x.names.l = pre ++ suf ∧ j = suf.length ∧ E 1 = i64D at_ ∧ E 2 = .rf H.next 0 ∧ E 5 = .mp (H.next + 1) ∧ E 10 = slD x.names.rep x.names.l.length (x.names.l.flatMap strC) ∧ E 11 = i64D x.names.l.length ∧ E 12 = i64D pre.length ∧
    H'.get H.next = some (.cells [bD x.not, slD x.names.rep x.names.l.length (x.names.l.flatMap strC), strD x.var, i64D x.mode]) ∧ H'.get (H.next + 1) = some (.map (encT m)) ∧ (∀ v, countT m v = if (pre.any fun p => decide (p = v)) = true then 1 else 0) ∧ H'.low = H.next ∧ namesOk [] x.names.l = namesOk pre suf) ?_ (j := x.names.l.length)
    ⟨[], x.names.l, [], by simp, rfl, by simp, by simp, by simp, by simp, by simp, by simp, by simp, by simp [encT], by simp [countT], by simp, rfl⟩
  rintro j E H' ⟨pre, suf, m, hl, rfl, e1, e2, e5, e10, e11, e12, hg, hm, hc, hlow, hn⟩
  have hok := x.names.ok
  cases suf with
  | nil =>
    simp at hl
    have hlt' : ((pre.length : Int) < (x.names.l.length : Int)) = False := by simp [hl]
    have hN : namesOk [] x.names.l = true := by rw [hn]; rfl
    simp [e11, e12, hlt', e1, e2, hg]
    have bad : (nameS x.var = false ∨ x.names.l.length < 1 ∨ 3 < x.names.l.length ∨ x.mode < 1 ∨ 3 < x.mode) → rightItem x (decide (at_ = 0)) = false := fun h => by unfold rightItem; rw [if_pos h]
    cases c1 : nameS x.var with
    | false => rw [bad (.inl c1)]; simp [nV, c1, hlow]
    | true =>
    by_cases c2 : x.names.l.length = 0
    · have c2' : x.names.l = [] := List.length_eq_zero_iff.1 c2
      rw [bad (.inr (.inl (by omega)))]; simp [nV, c1, c2', e2, hg, hlow]
    have c2' : ¬ x.names.l = [] := fun h => c2 (by rw [h]; rfl)
    by_cases c3 : 3 < (x.names.l.length : Int)
    · rw [bad (.inr (.inr (.inl (by omega))))]; simp [nV, c1, c2', c3, e2, hg, hlow]
    by_cases c4 : x.mode < 1
    · rw [bad (.inr (.inr (.inr (.inl c4))))]; simp [nV, c1, c2', c3, c4, e2, hg, hlow]
    by_cases c5 : 3 < x.mode
    · rw [bad (.inr (.inr (.inr (.inr c5))))]; simp [nV, c1, c2', c3, c4, c5, e2, hg, hlow]
    have hbad : ¬ (nameS x.var = false ∨ x.names.l.length < 1 ∨ 3 < x.names.l.length ∨ x.mode < 1 ∨ 3 < x.mode) := fun h => by
      rcases h with h | h | h | h | h
      · rw [c1] at h; cases h
      all_goals omega
    have hr : rightItem x (decide (at_ = 0)) = (if decide (at_ = 0) = true ∧ (x.not = true ∨ x.mode = 3) then false else !x.not || decide (x.mode = 1)) := by
      unfold rightItem
      rw [if_neg hbad, if_neg (by rw [hN]; decide)]
    rw [hr]
    by_cases h0 : at_ = 0 <;> cases hx : x.not <;> by_cases h3 : x.mode = 3 <;> by_cases h1 : x.mode = 1 <;> simp [nV, c1, c2', c3, c4, c5, e1, e2, hg, hlow, h0, hx, h3, h1]
  | cons s suf =>
    have hlt : pre.length < x.names.l.length := by simp [hl]
    have hlt' : ((pre.length : Int) < (x.names.l.length : Int)) = True := by simp; omega
    have hw := wrap_more hlt hok
    have ea := elem_at strC_len x.names.rep x.names.l .i64 pre.length s (by rw [hl]; simp)
    have nS := fun H => (tree_name_run s (x.okN s (by rw [hl]; simp)) H).cK
    have stop : namesOk pre (s :: suf) = false → rightItem x (decide (at_ = 0)) = false := fun h => by
      unfold rightItem
      split
      · rfl
      · rw [if_pos (by rw [hn]; exact h)]
    have hlook1 : ∀ H1 k, H1.get (H.next + 1) = some (.map (encT m)) → evMlook H1 .text (.v (.int .i64 0)) false (.mp (H.next + 1)) (.v (.string k)) = some (i64D (countT m k)) := fun H1 k h => look_encT h k
    have hput : ∀ H1 k x, H1.get (H.next + 1) = some (.map (encT m)) → evMput H1 .text (.mp (H.next + 1)) (.v (.string k)) (.v (.int .i64 x)) = some (H1.set (H.next + 1) (.map (encT (putT m k x)))) := fun H1 k x h => put_encT h k x
    have hlook2 : ∀ H1 k n, H1.get (H.next + 1) = some (.map (encT (putT m s n))) → evMlook H1 .text (.v (.int .i64 0)) false (.mp (H.next + 1)) (.v (.string k)) = some (i64D (countT (putT m s n) k)) := fun H1 k n h => look_encT h k
    have hle : ¬ H.next + 1 < H.next := by omega
    cases ha : pre.any fun p => decide (p = s) with
    | true =>
      have hcs : countT m s = 1 := by rw [hc s, ha]; rfl
      have l2 := fun H1 => hlook2 H1 s 2
      simp only [count_putT, if_true] at l2
      simp [e5, e10, e11, e12, hlt', ea]
      simp [strC, hlook1, hput, hm, hcs, wrap_oneone, wrap_two, l2, get_set, e5]
      rw [stop (by simp only [namesOk, ha]; simp)]
      simp [hlow]
    | false =>
      have hcs : countT m s = 0 := by rw [hc s, ha]; rfl
      have l2 := fun H1 => hlook2 H1 s 1
      simp only [count_putT, if_true] at l2
      cases hb : nameS s with
      | false =>
        simp [e5, e10, e11, e12, hlt', ea]
        simp [strC, hlook1, hput, hm, hcs, wrap_one, l2, get_set, e5, nS, hb]
        rw [stop (by simp only [namesOk, hb]; simp)]
        simp [hlow]
      | true =>
        simp [e5, e10, e11, e12, hlt', ea]
        simp [strC, hlook1, hput, hm, hcs, wrap_one, l2, get_set, e1, e2, e5, e10, e11, e12, nS, hb, hw, hg, hlow]
        refine ⟨suf.length, by omega, pre ++ [s], suf, by simp [hl], rfl, by simp, putT m s 1, rfl, fun v => ?_, ?_⟩
        · rw [count_putT, hc v]
          by_cases hv : v = s
          · subst hv
            simp
          · have hv' : ¬ s = v := fun e => hv e.symm
            have e : ((pre ++ [s]).any fun p => decide (p = v)) = pre.any fun p => decide (p = v) := by rw [List.any_append]; simp only [List.any_cons, List.any_nil, decide_eq_false hv', Bool.or_false]
            rw [if_neg hv, e]
        · rw [hn]
          simp only [namesOk, hb, ha]
          simp
theorem setAll_item (z : List D) (x : TItem) (h : z.length = 4) : setAll z 0 (itemC x) = itemC x := setAll_full z _ (by rw [h]; rfl)
theorem tRight_items (q : TQuery) (H : Heap) (Q : PostX)
    (h1 : itemsOk [] q.items.l = true → ∀ E H', E 1 = .rf H.next 0 → H'.get H.next = some (.cells (queryC q)) → H'.low = H.next → H.next < H'.next → Q (.exit 0) E H')
    (h2 : itemsOk [] q.items.l = false → ∀ E H', E 2 = bD false → H'.low = H.next → Q .ret E H') (E : Fr) (H1 : Heap) (e1 : E 1 = .rf H.next 0) (e3 : E 3 = .mp (H.next + 1)) (e10 : E 10 = q.items.enc itemC) (e11 : E 11 = i64D q.items.l.length) (e12 : E 12 = i64D 0)
    (g0 : H1.get H.next = some (.cells (queryC q))) (g1 : H1.get (H.next + 1) = some (.map [])) (g2 : H1.low = H.next) (g3 : H1.next = H.next + 2) :
    LR (WR 96 tab none F_q174.l9) E H1 Q := by
  refine LR_rule (WR_mono _) (fun j E H' => ∃ pre suf m, q.items.l = pre ++ suf ∧ j = suf.length ∧ E 1 = .rf H.next 0 ∧ E 3 = .mp (H.next + 1) ∧ E 10 = q.items.enc itemC ∧ E 11 = i64D q.items.l.length ∧ E 12 = i64D pre.length ∧
    H'.get H.next = some (.cells (queryC q)) ∧ H'.get (H.next + 1) = some (.map (encT m)) ∧ (∀ v, countT m v = if (pre.any fun p => decide (p.var = v)) = true then 1 else 0) ∧ H'.low = H.next ∧ H.next + 2 ≤ H'.next ∧ itemsOk [] q.items.l = itemsOk pre suf) ?_ (j := q.items.l.length)
    ⟨[], q.items.l, [], by simp, rfl, e1, e3, e10, e11, e12, g0, by simpa [encT] using g1, by simp [countT], g2, by omega, rfl⟩
  rintro j E H' ⟨pre, suf, m, hl, rfl, e1, e3, e10, e11, e12, hg, hm, hc, hlow, hnx, hn⟩
  have hok := q.items.ok
  cases suf with
  | nil =>
    simp at hl
    have hlt' : ((pre.length : Int) < (q.items.l.length : Int)) = False := by simp [hl]
    simp [e11, e12, hlt']
    exact h1 (by rw [hn]; rfl) _ _ (by simp [e1]) hg hlow (by omega)
  | cons x suf =>
    have hlt : pre.length < q.items.l.length := by simp [hl]
    have hlt' : ((pre.length : Int) < (q.items.l.length : Int)) = True := by simp; omega
    have hw := wrap_more hlt hok
    have ea := elem_at itemC_len q.items.rep q.items.l .i64 pre.length x (by rw [hl]; simp)
    have nS := fun H => (tree_item_run x (pre.length : Nat) H).cK
    have hf : decide (((pre.length : Nat) : Int) = 0) = pre.isEmpty := by cases pre <;> simp; omega
    rw [hf] at nS
    have stop : itemsOk pre (x :: suf) = false → itemsOk [] q.items.l = false := fun h => by rw [hn]; exact h
    have hlook1 : ∀ H1 k, H1.get (H.next + 1) = some (.map (encT m)) → evMlook H1 .text (.v (.int .i64 0)) false (.mp (H.next + 1)) (.v (.string k)) = some (i64D (countT m k)) := fun H1 k h => look_encT h k
    have hput : ∀ H1 k x, H1.get (H.next + 1) = some (.map (encT m)) → evMput H1 .text (.mp (H.next + 1)) (.v (.string k)) (.v (.int .i64 x)) = some (H1.set (H.next + 1) (.map (encT (putT m k x)))) := fun H1 k x h => put_encT h k x
    have hlook2 : ∀ H1 k n, H1.get (H.next + 1) = some (.map (encT (putT m x.var n))) → evMlook H1 .text (.v (.int .i64 0)) false (.mp (H.next + 1)) (.v (.string k)) = some (i64D (countT (putT m x.var n) k)) := fun H1 k n h => look_encT h k
    have n0 : (H.next = H'.next) = False := by simp; omega
    have n1 : (H.next + 1 = H'.next) = False := by simp; omega
    have n2 : (H'.next = H.next + 1) = False := by simp; omega
    have hle : H'.low ≤ H'.next := by omega
    have hq1 : (H'.next < H.next) = False := by simp; omega
    have hx4 : (itemC x).take 4 = itemC x := List.take_of_length_le (by rw [itemC_len]; exact Nat.le_refl _)
    have hx2 : (itemC x)[2]? = some (strD x.var) := rfl
    cases ha : pre.any fun p => decide (p.var = x.var) with
    | true =>
      have hcs : countT m x.var = 1 := by rw [hc x.var, ha]; rfl
      have l2 := fun H1 => hlook2 H1 x.var 2
      simp only [count_putT, if_true] at l2
      simp [Sl.enc, e3, e10, e11, e12, hlt', ea, setAll_item, load_elem _ _ _ _ (itemC_len x), hle, n0, n1, n2, hx2, hm, hlook1, hput, hcs, wrap_oneone, wrap_two, l2, get_set]
      exact h2 (stop (by simp only [itemsOk, ha]; simp)) _ _ (by simp) (by simp [hlow])
    | false =>
      have hcs : countT m x.var = 0 := by rw [hc x.var, ha]; rfl
      have l2 := fun H1 => hlook2 H1 x.var 1
      simp only [count_putT, if_true] at l2
      cases hb : rightItem x pre.isEmpty with
      | false =>
        simp [Sl.enc, e3, e10, e11, e12, hlt', ea, setAll_item, load_elem _ _ _ _ (itemC_len x), hle, n0, n1, n2, hx2, hm, hlook1, hput, hcs, wrap_one, l2, get_set, hx4, nS, hb]
        exact h2 (stop (by simp only [itemsOk, hb]; simp)) _ _ (by simp) (by simp [hlow])
      | true =>
        simp [Sl.enc, e1, e3, e10, e11, e12, hlt', ea, setAll_item, load_elem _ _ _ _ (itemC_len x), hle, n0, n1, n2, hx2, hm, hlook1, hput, hcs, wrap_one, l2, get_set, hx4, nS, hb, hw, hg, hlow, hq1, -List.any_eq_true]
        refine ⟨suf.length, by omega, pre ++ [x], suf, by simp [hl], rfl, by simp, putT m x.var 1, rfl, fun v => ?_, by omega, ?_⟩
        · rw [count_putT, hc v]
          by_cases hv : v = x.var
          · subst hv
            simp
          · have hv' : ¬ x.var = v := fun e => hv e.symm
            have e : ((pre ++ [x]).any fun p => decide (p.var = v)) = pre.any fun p => decide (p.var = v) := by rw [List.any_append]; simp only [List.any_cons, List.any_nil, decide_eq_false hv', Bool.or_false]
            rw [if_neg hv, e]
        · rw [hn]
          simp only [itemsOk, hb, ha]
          simp
theorem tRight_preds (q : TQuery) (H : Heap) (Q : PostX)
    (h1 : q.preds.l.all predX = true → ∀ E H', E 1 = .rf H.next 0 → H'.get H.next = some (.cells (queryC q)) → H'.low = H.next → Q (.exit 2) E H')
    (h2 : q.preds.l.all predX = false → ∀ E H', E 2 = bD false → H'.low = H.next → Q .ret E H') (E : Fr) (H1 : Heap) (e1 : E 1 = .rf H.next 0) (e35 : E 35 = q.preds.enc predC) (e36 : E 36 = i64D q.preds.l.length) (e37 : E 37 = i64D 0)
    (g0 : H1.get H.next = some (.cells (queryC q))) (g2 : H1.low = H.next) (g3 : H.next < H1.next) :
    LR (WR 96 tab none F_q174.l16) E H1 Q := by
  refine LR_rule (WR_mono _) (fun j E H' => ∃ pre suf, q.preds.l = pre ++ suf ∧ j = suf.length ∧ E 1 = .rf H.next 0 ∧ E 35 = q.preds.enc predC ∧ E 36 = i64D q.preds.l.length ∧ E 37 = i64D pre.length ∧
    H'.get H.next = some (.cells (queryC q)) ∧ pre.all predX = true ∧ H'.low = H.next ∧ H.next < H'.next) ?_ (j := q.preds.l.length)
    ⟨[], q.preds.l, by simp, rfl, e1, e35, e36, e37, g0, rfl, g2, g3⟩
  rintro j E H' ⟨pre, suf, hl, rfl, e1, e35, e36, e37, hg, hn, hlow, hnx⟩
  have hok := q.preds.ok
  cases suf with
  | nil =>
    simp at hl
    have hlt' : ((pre.length : Int) < (q.preds.l.length : Int)) = False := by simp [hl]
    simp [e36, e37, hlt']
    exact h1 (by rw [hl]; exact hn) _ _ (by simp [e1]) hg hlow
  | cons x suf =>
    have hlt : pre.length < q.preds.l.length := by simp [hl]
    have hlt' : ((pre.length : Int) < (q.preds.l.length : Int)) = True := by simp; omega
    have hw := wrap_more hlt hok
    have ea := elem_at predC_len q.preds.rep q.preds.l .i64 pre.length x (by rw [hl]; simp)
    have nL := fun H => (tree_expression_run x.L x.okL 6 (by decide) H).cK
    have nR := fun H => (tree_expression_run x.R x.okR 6 (by decide) H).cK
    have n0 : (H.next = H'.next) = False := by simp; omega
    have hle : H'.low ≤ H'.next := by omega
    have bad : predX x = false → q.preds.l.all predX = false := fun h => by rw [hl]; simp [h]
    have stop : predX x = false → ∀ (E' : Fr) (o : O), E' 2 = bD false → Q .ret E' (H'.add o) := fun h E' o e2 => h2 (bad h) _ _ e2 (by simpa using hlow)
    simp [Sl.enc, e1, e35, e36, e37, hlt', ea, load_elem _ _ _ _ (predC_len x), setAll_full, hle]
    by_cases c1 : x.cmp < 1
    · simp [c1]
      exact stop (by simp [predX]; omega) _ _ (by simp)
    by_cases c2 : 6 < x.cmp
    · simp [c1, c2]
      exact stop (by simp [predX]; omega) _ _ (by simp)
    cases c3 : rightX 6 x.L
    · simp [c1, c2, nL, c3]
      exact stop (by simp [predX, c3]) _ _ (by simp)
    cases c4 : rightX 6 x.R
    · simp [c1, c2, nL, c3, nR, c4]
      exact stop (by simp [predX, c4]) _ _ (by simp)
    simp [c1, c2, nL, c3, nR, c4, e1, e35, e36, e37, hw]
    refine ⟨suf.length, by omega, pre ++ [x], suf, by simp [hl], rfl, rfl, by simp, by simp [n0, hg], ?_, hlow, by omega⟩
    have : predX x = true := by simp [predX, c3, c4]; omega
    intro y hy
    rcases List.mem_append.1 hy with hy | hy
    · exact List.all_eq_true.1 hn y hy
    · simp at hy; subst hy; exact this
theorem tree_Right_run (q : TQuery) (H : Heap) : Run tab (.fn n_q174) [.agg (queryC q)] H (bD (rightP q)) H := by
  refine cK.run (cK_fn o_q174 t_q174 (Nat.le_of_ble_eq_true rfl) (by decide) ?_)
  have nB := fun H => (tree_name_run q.by_ q.okBy H).cK
  have hI := tRight_items q
  have hP := tRight_preds q
  simp only [queryC, Sl.enc] at hI hP
  simp [queryC, Sl.enc]
  refine hI H _ (fun hi E H' e1 hg hlow hnx => ?_) (fun hi E H' e2 hlow => ?_) _ _ (by simp) (by simp) (by simp) (by simp) (by simp) (by simp) (by simp) (by simp) (by simp)
  · simp [e1, hg]
    refine hP H _ (fun hp E H' e1 hg hlow => ?_) (fun hp E H' e2 hlow => ?_) _ _ (by simp [e1]) (by simp) (by simp) (by simp) hg hlow hnx
    · have hr : rightP q = (!(decide (q.items.l.length = 0) || decide (6 < q.items.l.length) || decide (8 < q.preds.l.length)) && !(decide (q.within < 0) || decide (maxNum < q.within) || decide (q.pick < 1) || decide (3 < q.pick)) && (decide (q.by_ = emptyS) || nameS q.by_)) := by
        unfold rightP
        rw [hi, hp]
        rfl
      rw [hr]
      by_cases c1 : q.items.l.length = 0
      · have c1' : q.items.l = [] := List.length_eq_zero_iff.1 c1
        simp [e1, hg, hlow, c1']
      have c1' : ¬ q.items.l = [] := fun h => c1 (by rw [h]; rfl)
      by_cases c2 : 6 < q.items.l.length
      · have c2' : (6 : Int) < q.items.l.length := by omega
        simp [e1, hg, hlow, c1', c2, c2']
      have c2' : ¬ (6 : Int) < q.items.l.length := by omega
      by_cases c3 : 8 < q.preds.l.length
      · have c3' : (8 : Int) < q.preds.l.length := by omega
        simp [e1, hg, hlow, c1', c2, c2', c3, c3']
      have c3' : ¬ (8 : Int) < q.preds.l.length := by omega
      by_cases d1 : q.within < 0
      · simp [e1, hg, hlow, c1', c2, c2', c3, c3', d1]
      by_cases d2 : 1099511627776 < q.within
      · simp [e1, hg, hlow, c1', c2, c2', c3, c3', d1, d2, maxNum]
      by_cases d3 : q.pick < 1
      · simp [e1, hg, hlow, c1', c2, c2', c3, c3', d1, d2, d3, maxNum]
      by_cases d4 : 3 < q.pick
      · simp [e1, hg, hlow, c1', c2, c2', c3, c3', d1, d2, d3, d4, maxNum]
      by_cases d5 : q.by_ = ⟨#[]⟩
      · simp [e1, hg, hlow, c1', c2, c2', c3, c3', d1, d2, d3, d4, d5, maxNum, emptyS]
      · simp [e1, hg, hlow, c1', c2, c2', c3, c3', d1, d2, d3, d4, d5, maxNum, emptyS, nB]
    · have hr : rightP q = false := by unfold rightP; rw [hp]; simp
      simp [hr, e2, hlow]
  · have hr : rightP q = false := by unfold rightP; rw [hi]; simp
    simp [hr, e2, hlow]
end Go.Proofs.YtlnkifnkamojnaaGreat.Tz
