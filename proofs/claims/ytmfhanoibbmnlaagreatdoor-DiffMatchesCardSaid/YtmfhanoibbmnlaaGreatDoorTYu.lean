/-
The walks of some functions at the law's own table. Conditions: none.
-/
import Derived.Test.YtmfhanoibbmnlaaGreatDoorTWx
namespace Go.Proofs.YtmfhanoibbmnlaaGreatDoor.Tz.N
open Go.Aug Go.Aug.Api
set_option maxRecDepth 100000
noncomputable abbrev tab : Tab := tabN
theorem o_q44 : tab.orc n_q44 = none := by kernel_rfl
theorem o_q46 : tab.orc n_q46 = none := by kernel_rfl
theorem o_q53 : tab.orc n_q53 = none := by kernel_rfl
theorem o_q54 : tab.orc n_q54 = none := by kernel_rfl
theorem o_q55 : tab.orc n_q55 = none := by kernel_rfl
theorem o_q56 : tab.orc n_q56 = none := by kernel_rfl
theorem o_q57 : tab.orc n_q57 = none := by kernel_rfl
theorem o_q77 : tab.orc n_q77 = none := by kernel_rfl
theorem o_q92 : tab.orc n_q92 = none := by kernel_rfl
theorem o_q97 : tab.orc n_q97 = none := by kernel_rfl
theorem o_q101 : tab.orc n_q101 = none := by kernel_rfl
theorem t_q44 : tab.fn n_q44 = some F_q44 := by kernel_rfl
theorem t_q46 : tab.fn n_q46 = some F_q46 := by kernel_rfl
theorem t_q53 : tab.fn n_q53 = some F_q53 := by kernel_rfl
theorem t_q54 : tab.fn n_q54 = some F_q54 := by kernel_rfl
theorem t_q55 : tab.fn n_q55 = some F_q55 := by kernel_rfl
theorem t_q56 : tab.fn n_q56 = some F_q56 := by kernel_rfl
theorem t_q57 : tab.fn n_q57 = some F_q57 := by kernel_rfl
theorem t_q77 : tab.fn n_q77 = some F_q77 := by kernel_rfl
theorem t_q92 : tab.fn n_q92 = some F_q92 := by kernel_rfl
theorem t_q97 : tab.fn n_q97 = some F_q97 := by kernel_rfl
theorem t_q101 : tab.fn n_q101 = some F_q101 := by kernel_rfl
theorem isNaN_int_run (a : Int) (H : Heap) : Run tab (.fn n_q56) [i64D a] H (bD false) H := by
  refine cK.run (cK_fn o_q56 t_q56 (Nat.le_of_ble_eq_true rfl) (by decide) ?_)
  simp
theorem isNaN_string_run (a : ByteArray) (H : Heap) : Run tab (.fn n_q57) [strD a] H (bD false) H := by
  refine cK.run (cK_fn o_q57 t_q57 (Nat.le_of_ble_eq_true rfl) (by decide) ?_)
  simp
theorem Compare_int_run (a b : Int) (H : Heap) : Run tab (.fn n_q53) [i64D a, i64D b] H (i64D (cmpN a b)) H := by
  refine cK.run (cK_fn o_q53 t_q53 (Nat.le_of_ble_eq_true rfl) (by decide) ?_)
  have h := fun a H => (isNaN_int_run a H).cK
  simp [h]
  unfold cmpN
  by_cases c1 : a < b
  · simp [c1]
  · by_cases c2 : b < a <;> simp [c1, c2]
theorem Compare_string_run (a b : ByteArray) (H : Heap) : Run tab (.fn n_q54) [strD a, strD b] H (i64D (cmpT a b)) H := by
  refine cK.run (cK_fn o_q54 t_q54 (Nat.le_of_ble_eq_true rfl) (by decide) ?_)
  have h := fun a H => (isNaN_string_run a H).cK
  simp [h, bin_lssT, bin_gtrT]
  unfold cmpT
  cases c1 : Op.bytesLess a.toList b.toList with
  | true => simp
  | false => cases c2 : Op.bytesLess b.toList a.toList <;> simp [bin_gtrT, c2]
theorem Or_run (a b : Int) (H : Heap) {r : Nat} (h : H.get r = some (.cells [i64D a, i64D b])) (hr : r < H.next) : Run tab (.fn n_q55) [.rs r 0 2 (some 2) 1] H (i64D (if a = 0 then b else a)) H := by
  refine cK.run (cK_fn o_q55 t_q55 (Nat.le_of_ble_eq_true rfl) (by decide) ?_)
  simp
  refine LR_rule (WR_mono _) (fun j E H' => H' = low0 H ∧ E 3 = i64D 0 ∧ E 6 = .rs r 0 2 (some 2) 1 ∧ E 7 = i64D 2 ∧ ((j = 2 ∧ E 8 = i64D 0) ∨ (j = 1 ∧ a = 0 ∧ E 8 = i64D 1) ∨ (j = 0 ∧ a = 0 ∧ b = 0 ∧ E 8 = i64D 2))) ?_ (j := 2) ⟨rfl, by simp, by simp, by simp, .inl ⟨rfl, by simp⟩⟩
  rintro j E H' ⟨rfl, e3, e6, e7, hj⟩
  rcases hj with ⟨rfl, e8⟩ | ⟨rfl, ha, e8⟩ | ⟨rfl, ha, hb, e8⟩
  · by_cases c : a = 0
    · subst c
      simp [e3, e6, e7, e8, h, show IntKind.i64.wrap 1 = 1 by decide]
    · simp [e3, e6, e7, e8, h, c]
  · subst ha
    by_cases c : b = 0
    · subst c
      simp [e3, e6, e7, e8, h, show IntKind.i64.wrap (1 + 1) = 2 by decide, show IntKind.i64.wrap 2 = 2 by decide]
    · simp [e3, e6, e7, e8, h, c]
  · subst ha hb
    simp [e3, e6, e7, e8, h]
theorem Norm_1_run (a b : TKeyed) (H : Heap) : Run tab (.fn n_q77) [.agg (keyedC a), .agg (keyedC b)] H (i64D (cmpK a b)) H := by
  refine cK.run (cK_fn o_q77 t_q77 (Nat.le_of_ble_eq_true rfl) (by decide) ?_)
  have c1 := fun a b H => (Compare_int_run a b H).cK
  have c2 := fun a b H => (Compare_string_run a b H).cK
  simp [keyed_15, keyed_16, c1, c2]
  have c3 := (Or_run (cmpN a.place b.place) (cmpT a.text b.text) (layIn (bump (((low0 H).add (O.cells (keyedC a))).add (O.cells (keyedC b))) 1) (H.next + 2)
      (O.cells [D.v (Value.int IntKind.i64 (cmpN a.place b.place)), D.v (Value.int IntKind.i64 (cmpT a.text b.text))])) (r := H.next + 2) (by simp) (by simp)).cK
  rw [c3]
  simp
  rfl
theorem Insertion_run (rows : List TKeyed) (hl : rows.length ≤ 1000) (c : Option Nat) (H : Heap) {r : Nat} (hg : H.get r = some (.cells (rows.flatMap keyedC))) (hr : r < H.next) (h0 : rows ≠ []) :
    cK tab (.fn n_q97) [.rs r 0 rows.length c 17, i64D 0, i64D rows.length, .fn (.func n_q77) [] []] H (SortPost H r ((sortN rows).flatMap keyedC)) := by
  refine cK_fn o_q97 t_q97 (Nat.le_of_ble_eq_true rfl) (by decide) ?_
  have hpos : 0 < rows.length := List.length_pos_iff.2 h0
  simp
  refine LR_rule (WR_mono _) (fun j E H' => ∃ pre suf, rows = pre ++ suf ∧ pre ≠ [] ∧ j = suf.length ∧ E 0 = .rs r 0 rows.length c 17 ∧ E 1 = i64D 0 ∧ E 2 = i64D rows.length ∧ E 3 = .fn (.func n_q77) [] [] ∧ E 8 = i64D pre.length ∧ SortPost (low0 H) r (((fallN pre).reverse ++ suf).flatMap keyedC) uD H') ?_ (j := rows.tail.length) ?_
  · rintro j E H' ⟨pre, suf, hrw, hpre, rfl, e0, e1, e2, e3, e8, hp⟩
    cases suf with
    | nil =>
      simp at hrw
      subst hrw
      simp [e2, e8]
      refine SortPost.fin (d := uD) hr ?_
      simpa [sortN] using hp
    | cons x suf =>
      have hlt : pre.length < rows.length := by rw [hrw]; simp
      have hlt' : ((pre.length : Int) < (rows.length : Int)) = True := by simp; omega
      have hw : IntKind.i64.wrap ((pre.length : Int) + 1) = (pre.length : Int) + 1 := wrap64 (by omega) (by omega)
      simp [e2, e8, hlt']
      have hfl : (fallN pre).length = pre.length := (fallN_perm pre).length_eq
      refine LR_rule (WR_mono _) (fun j E H' => ∃ mv rest, fallN pre = mv ++ rest ∧ j = rest.length ∧ insN x (fallN pre) = mv ++ insN x rest ∧ E 0 = .rs r 0 rows.length c 17 ∧ E 1 = i64D 0 ∧ E 2 = i64D rows.length ∧ E 3 = .fn (.func n_q77) [] [] ∧ E 8 = i64D pre.length ∧ E 9 = i64D rest.length ∧ SortPost (low0 H) r ((rest.reverse ++ x :: (mv.reverse ++ suf)).flatMap keyedC) uD H') ?_ (j := pre.length) ?_
      · rintro j E H' ⟨mv, rest, hmv, rfl, hins, e0, e1, e2, e3, e8, e9, hp⟩
        obtain ⟨p1, p2, p3, p4⟩ := hp
        cases rest with
        | nil =>
          simp at hmv
          simp [e0, e1, e2, e3, e8, e9, hw]
          refine ⟨suf.length, by omega, pre ++ [x], suf, by simp [hrw], by simp, rfl, by simp, p1, ?_, p3, p4⟩
          have : fallN (pre ++ [x]) = insN x (fallN pre) := by simp [fallN]
          rw [this, hins, p2]
          simp [insN]
        | cons y rest =>
          have hj : ((0 : Int) < (rest.length : Int) + 1) = True := by simp
          have hlm : mv.length + (rest.length + 1) = pre.length := by rw [← hfl, hmv]; simp
          have hw2 : IntKind.i64.wrap (rest.length : Int) = (rest.length : Int) := wrap64 (by omega) (by omega)
          have g1 : (y :: rest).reverse ++ x :: (mv.reverse ++ suf) = (rest.reverse ++ [y]) ++ x :: (mv.reverse ++ suf) := by simp
          have g2 : (y :: rest).reverse ++ x :: (mv.reverse ++ suf) = rest.reverse ++ y :: x :: (mv.reverse ++ suf) := by simp
          obtain ⟨C0, hC0⟩ : ∃ C, C = ((y :: rest).reverse ++ x :: (mv.reverse ++ suf)).flatMap keyedC := ⟨_, rfl⟩
          obtain ⟨C1, hC1⟩ : ∃ C, C = ((rest.reverse ++ [y]) ++ y :: (mv.reverse ++ suf)).flatMap keyedC := ⟨_, rfl⟩
          obtain ⟨C2, hC2⟩ : ∃ C, C = (rest.reverse ++ x :: y :: (mv.reverse ++ suf)).flatMap keyedC := ⟨_, rfl⟩
          have l1 : ∀ H1 : Heap, H1.get r = some (.cells C0) → evLoad H1 (some 17) (.rf r ((rest.length + 1) * 17)) = some (.agg (keyedC x)) := fun H1 h => by
            have := rows_load g1 (hC0 ▸ h)
            simpa using this
          have l2 : ∀ H1 : Heap, H1.get r = some (.cells C0) → evLoad H1 (some 17) (.rf r (rest.length * 17)) = some (.agg (keyedC y)) := fun H1 h => by
            have := rows_load g2 (hC0 ▸ h)
            simpa using this
          have s1 : ∀ H1 : Heap, H1.get r = some (.cells C0) → evStore H1 17 (.rf r ((rest.length + 1) * 17)) (.agg (keyedC y)) = some (H1.set r (.cells C1)) := fun H1 h => by
            have := rows_store g1 y (hC0 ▸ h)
            rw [hC1]
            simpa using this
          have s2 : ∀ H1 : Heap, H1.get r = some (.cells C1) → evStore H1 17 (.rf r (rest.length * 17)) (.agg (keyedC x)) = some (H1.set r (.cells C2)) := fun H1 h => by
            have := rows_store (show (rest.reverse ++ [y]) ++ y :: (mv.reverse ++ suf) = rest.reverse ++ y :: y :: (mv.reverse ++ suf) by simp) x (hC1 ▸ h)
            rw [hC2]
            simpa using this
          rw [← hC0] at p2
          have hi1 : ((rest.length : Int) + 1 < (rows.length : Int)) = True := by simp; omega
          have hi2 : ((rest.length : Int) < (rows.length : Int)) = True := by simp; omega
          have hi3 : ((0 : Int) ≤ (rest.length : Int) + 1) = True := by simp; omega
          have hi4 : ((rest.length : Int) + 1).toNat = rest.length + 1 := by omega
          have hN := fun H => (Norm_1_run x y H).cK
          have hlowp : H'.low ≤ H'.next := by
            simp at p1 p4
            rcases p4 with p4 | p4
            · omega
            · rw [p4, p1]; split <;> omega
          simp [e0, e1, e2, e3, e8, e9, hj, hw2, hi1, hi2, hi3, hi4, l1, l2, p2, hN]
          rw [cmpK_lt]
          cases hlt : ltK x y with
          | true =>
            simp [-load_rf, -store_rf, s1, s2, l1, l2, p2, get_set, e0, e1, e2, e3, e8, e9, hi1, hi2, hi3, hi4, hw2]
            refine ⟨rest.length, by omega, mv ++ [y], rest, by simp [hmv], rfl, ?_, rfl, ?_, ?_, fun k hk => ?_, ?_⟩
            · rw [hins]
              simp [insN, hlt]
            · simpa using p1
            · simp [get_set, p2, hC2]
            · have := p3 k hk
              simp [get_set, hk, this]
            · simp at p4
              refine .inr ?_
              have hn : ¬ H.next < r := by omega
              simp [hn] at p4 ⊢
              rcases p4 with ⟨p4, -⟩ | p4
              · rw [p4]; simp [hr]; omega
              · rw [p4]; simp
          | false =>
            simp [e0, e1, e2, e3, e8, e9, hw]
            refine ⟨suf.length, by omega, pre ++ [x], suf, by simp [hrw], by simp, rfl, by simp, p1, ?_, p3, p4⟩
            have : fallN (pre ++ [x]) = insN x (fallN pre) := by simp [fallN]
            rw [this, hins, p2, hC0]
            simp [insN, hlt]
      · refine ⟨[], fallN pre, by simp, hfl.symm, by simp, by simp [e0], by simp [e1], by simp [e2], by simp [e3], by simp [e8], by simp [hfl], ?_⟩
        simpa using hp
  · obtain ⟨x, suf, rfl⟩ : ∃ x suf, rows = x :: suf := by
      cases rows with
      | nil => exact absurd rfl h0
      | cons x suf => exact ⟨x, suf, rfl⟩
    refine ⟨[x], suf, rfl, by simp, by simp, by simp, by simp, by simp, by simp, ?_, rfl, ?_, fun _ _ => rfl, .inl ⟨rfl, rfl⟩⟩
    · simp; decide
    · simpa [fallN, insN] using hg
theorem Insertion_nil (H : Heap) : Run tab (.fn n_q97) [.v (.slice none 0 0), i64D 0, i64D 0, .fn (.func n_q77) [] []] H (.tup []) H := by
  refine cK.run (cK_fn o_q97 t_q97 (Nat.le_of_ble_eq_true rfl) (by decide) ?_)
  simp
  refine LR_rule (WR_mono _) (fun j E H' => H' = low0 H ∧ E 2 = i64D 0 ∧ E 8 = i64D 1) ?_ (j := 0) ⟨rfl, by simp, by simp; decide⟩
  rintro j E H' ⟨rfl, e2, e8⟩
  simp [e2, e8]
theorem pdq_run (rows : List TKeyed) (hl : rows.length ≤ 12) (lim : Int) (c : Option Nat) (H : Heap) {r : Nat} (hg : H.get r = some (.cells (rows.flatMap keyedC))) (hr : r < H.next) (h0 : rows ≠ []) :
    cK tab (.fn n_q101) [.rs r 0 rows.length c 17, i64D 0, i64D rows.length, i64D lim, .fn (.func n_q77) [] []] H (SortPost H r ((sortN rows).flatMap keyedC)) := by
  refine cK_fn o_q101 t_q101 (Nat.le_of_ble_eq_true rfl) (by decide) ?_
  simp
  refine LR_rule (WR_mono _) (fun j E H' => H' = low0 H ∧ E 0 = .rs r 0 rows.length c 17 ∧ E 1 = i64D 0 ∧ E 2 = i64D rows.length ∧ E 4 = .fn (.func n_q77) [] []) ?_ (j := 0) ⟨rfl, by simp, by simp, by simp, by simp⟩
  rintro j E H' ⟨rfl, e0, e1, e2, e4⟩
  have hw : IntKind.i64.wrap (rows.length : Int) = (rows.length : Int) := wrap64 (by omega) (by omega)
  have h12 : ((rows.length : Int) ≤ 12) = True := by simp; omega
  simp [e0, e1, e2, e4, hw, h12]
  refine cK.mono (Insertion_run rows (by omega) c (low0 H) (by simpa using hg) (by simpa using hr) h0) fun d H' p => ?_
  exact SortPost.fin (d := d) hr p
theorem pdq_nil (lim : Int) (H : Heap) : Run tab (.fn n_q101) [.v (.slice none 0 0), i64D 0, i64D 0, i64D lim, .fn (.func n_q77) [] []] H (.tup []) H := by
  refine cK.run (cK_fn o_q101 t_q101 (Nat.le_of_ble_eq_true rfl) (by decide) ?_)
  simp
  refine LR_rule (WR_mono _) (fun j E H' => H' = low0 H ∧ E 0 = .v (.slice none 0 0) ∧ E 1 = i64D 0 ∧ E 2 = i64D 0 ∧ E 4 = .fn (.func n_q77) [] []) ?_ (j := 0) ⟨rfl, by simp, by simp, by simp, by simp⟩
  rintro j E H' ⟨rfl, e0, e1, e2, e4⟩
  have hw : IntKind.i64.wrap 0 = 0 := by decide
  have hI := fun H => (Insertion_nil H).cK
  simp [e0, e1, e2, e4, hw, hI]
theorem bits_Len64_run (n : Nat) (hn : n ≤ 12) (H : Heap) : ∃ k : Int, Run tab (.fn n_q46) [.v (.int .u64 n)] H (i64D k) H := by
  have key : cK tab (.fn n_q46) [.v (.int .u64 n)] H fun d H' => (∃ k, d = i64D k) ∧ H' = H := by
    refine cK_fn o_q46 t_q46 (Nat.le_of_ble_eq_true rfl) (by decide) ?_
    have h1 : ¬ (4294967296 : Int) ≤ (n : Int) := by omega
    have h2 : ¬ (65536 : Int) ≤ (n : Int) := by omega
    have h3 : ¬ (256 : Int) ≤ (n : Int) := by omega
    simp [h1, h2, h3]
    have : n = 0 ∨ n = 1 ∨ n = 2 ∨ n = 3 ∨ n = 4 ∨ n = 5 ∨ n = 6 ∨ n = 7 ∨ n = 8 ∨ n = 9 ∨ n = 10 ∨ n = 11 ∨ n = 12 := by omega
    rcases this with rfl | rfl | rfl | rfl | rfl | rfl | rfl | rfl | rfl | rfl | rfl | rfl | rfl
    · exact ⟨.v (.int .u8 0), by kernel_rfl, by simp⟩
    · exact ⟨.v (.int .u8 1), by kernel_rfl, by simp⟩
    · exact ⟨.v (.int .u8 2), by kernel_rfl, by simp⟩
    · exact ⟨.v (.int .u8 2), by kernel_rfl, by simp⟩
    · exact ⟨.v (.int .u8 3), by kernel_rfl, by simp⟩
    · exact ⟨.v (.int .u8 3), by kernel_rfl, by simp⟩
    · exact ⟨.v (.int .u8 3), by kernel_rfl, by simp⟩
    · exact ⟨.v (.int .u8 3), by kernel_rfl, by simp⟩
    · exact ⟨.v (.int .u8 4), by kernel_rfl, by simp⟩
    · exact ⟨.v (.int .u8 4), by kernel_rfl, by simp⟩
    · exact ⟨.v (.int .u8 4), by kernel_rfl, by simp⟩
    · exact ⟨.v (.int .u8 4), by kernel_rfl, by simp⟩
    · exact ⟨.v (.int .u8 4), by kernel_rfl, by simp⟩
  obtain ⟨d, H', hr, ⟨k, rfl⟩, rfl⟩ := key
  exact ⟨k, hr⟩
theorem bits_Len_run (n : Nat) (hn : n ≤ 12) (H : Heap) : ∃ k : Int, Run tab (.fn n_q44) [.v (.int .u64 n)] H (i64D k) H := by
  obtain ⟨k, hk⟩ := bits_Len64_run n hn (low0 H)
  refine ⟨k, cK.run (cK_fn o_q44 t_q44 (Nat.le_of_ble_eq_true rfl) (by decide) ?_)⟩
  simp [hk.cK]
theorem SortFunc_run (rows : List TKeyed) (hl : rows.length ≤ 12) (c : Option Nat) (H : Heap) {r : Nat} (hg : H.get r = some (.cells (rows.flatMap keyedC))) (hr : r < H.next) (h0 : rows ≠ []) :
    cK tab (.fn n_q92) [.rs r 0 rows.length c 17, .fn (.func n_q77) [] []] H (SortPost H r ((sortN rows).flatMap keyedC)) := by
  refine cK_fn o_q92 t_q92 (Nat.le_of_ble_eq_true rfl) (by decide) ?_
  obtain ⟨k, hk⟩ := bits_Len_run rows.length hl (low0 H)
  simp [wrap_u64 hl, hk.cK]
  refine cK.mono (pdq_run rows hl k c (low0 H) (by simpa using hg) (by simpa using hr) h0) fun d H' p => ?_
  exact SortPost.fin (d := d) hr p
theorem SortFunc_nil (H : Heap) : Run tab (.fn n_q92) [.v (.slice none 0 0), .fn (.func n_q77) [] []] H (.tup []) H := by
  refine cK.run (cK_fn o_q92 t_q92 (Nat.le_of_ble_eq_true rfl) (by decide) ?_)
  obtain ⟨k, hk⟩ := bits_Len_run 0 (by decide) (low0 H)
  have hw : IntKind.u64.wrap 0 = 0 := by decide
  have hp := fun H => (pdq_nil k H).cK
  have hk' := hk.cK
  simp at hk'
  simp [hw, hk', hp]
end Go.Proofs.YtmfhanoibbmnlaaGreatDoor.Tz.N
