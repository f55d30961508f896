/-
The walk of NormFolds. Conditions: none.
-/
import Derived.Test.YthdkeggdipogoaaGreatDoorTX2
import Derived.Test.YthdkeggdipogoaaGreatDoorTWp
namespace Go.Proofs.YthdkeggdipogoaaGreatDoor.Tz
open Go.Aug Go.Aug.Api
set_option maxRecDepth 100000

theorem oL_NormFolds : tabL.orc n_augurylaw10_NormFolds = none := by kernel_rfl
theorem oL_head10 : tabL.orc n_augurylaw10_head = some orcHead := by kernel_rfl
theorem oL_Fold : tabL.orc n_norm_Fold = some (pureOrc2 (runSpec tab n_norm_Fold)) := by kernel_rfl
theorem tL {f : Nat} {fi : FI} (h : tab.fn f = some fi) : tabL.fn f = some fi := h
theorem head10_run (H : Heap) : Run tabL (.fn n_augurylaw10_head) [] H (bD true) H :=
  cK.run (cK_orc oL_head10 ⟨_, rfl, rfl, rfl⟩)

/-- The cells of an expression that lies in memory, but in no block x0. -/
def LiesX (H : Heap) (x0 : Nat) (d : Nat) (L : List D) (e : TExpr) : Prop :=
  ∀ H2 : Heap, (∀ r, r ≠ x0 → r < H.next → H2.get r = H.get r) → ∀ m, d ≤ m → frzL (frz2 H2 0 m) L = some (exprC e)

theorem frzL_append {f : D → Option D} : ∀ {a b a' b' : List D}, frzL f a = some a' → frzL f b = some b' → frzL f (a ++ b) = some (a' ++ b')
  | [], b, a', b', h, h2 => by cases h; exact h2
  | d :: a, b, a', b', h, h2 => by
    simp only [frzL_cons] at h
    split at h
    · rename_i x r hx hr
      cases h
      exact frzL_two _ _ _ _ _ hx (frzL_append hr h2)
    · cases h

set_option maxHeartbeats 2000000 in
theorem norm_walk (rep : Option (Option Nat)) (l : List Int) (hl : l.length ≤ big) (H : Heap) : cK tabL (.fn n_augurylaw10_NormFolds) [slD rep l.length (l.flatMap intC)] H fun d H' => d = bD true ∧ H' = H := by
  refine cK_fn oL_NormFolds (tL t_augurylaw10_NormFolds) (Nat.le_of_ble_eq_true rfl) (by decide) ?_
  simp [(head10_run _).cK]
  by_cases k2 : l = []
  · simp [k2]
  obtain ⟨n0, rest, hcons⟩ : ∃ n0 rest, l = n0 :: rest := by
    cases l with
    | nil => exact absurd rfl k2
    | cons a b => exact ⟨a, b, rfl⟩
  have hn0 : l[0]? = some n0 := by rw [hcons]; rfl
  simp [k2]
  refine gK_of (fun k1 => ?_) (fun k1 => ?_)
  · have k1' : decide ((30 : Int) < l.length) = true := by simpa using k1
    simp [k1']
  · have k1' : decide ((30 : Int) < l.length) = false := by simpa using k1
    have e0 := elem_at intC_len rep l .i64 0 n0 hn0
    simp [intC] at e0
    simp [e0]
    simp at k1
    refine LR_rule (WR_mono _) (fun j E H' => ∃ pre suf, l = pre ++ suf ∧ j = suf.length ∧ E 0 = slD rep l.length (l.flatMap intC) ∧ E 3 = bD true ∧ E 4 = i64D n0 ∧ E 5 = .rf H.next 0 ∧ E 6 = i64D pre.length ∧ H' = (low0 H).add (.cells (exprC (valE (numV n0)))) ∧ (∀ n ∈ pre, -1000000 ≤ n ∧ n ≤ 1000000)) ?_ (j := l.length) ?_
    · rintro j E H' ⟨pre, suf, hl0, rfl, f0, f3, f4, f5, f6, rfl, hb0⟩
      cases suf with
      | nil =>
        simp at hl0
        subst hl0
        have hlt' : ((l.length : Int) < (l.length : Int)) = False := by simp
        simp [f0, f3, f4, f5, f6]
        have hrest : rest.length + 1 = l.length := by rw [hcons]; rfl
        refine LR_rule (WR_mono _) (fun j E2 H2 => ∃ pre suf L, rest = pre ++ suf ∧ j = suf.length ∧ E2 0 = slD rep l.length (l.flatMap intC) ∧ E2 3 = bD true ∧ E2 4 = i64D (sumI n0 1 pre) ∧ E2 5 = .rf H.next 0 ∧ E2 7 = i64D (pre.length + 1) ∧
          H2.get H.next = some (.cells L) ∧ L.length = 7 ∧ LiesX H2 H.next (pre.length + 1) L (chainE (valE (numV n0)) 1 pre) ∧ H.next < H2.next ∧ H.next ≤ H2.low ∧ H2.low ≤ H2.next) ?_ (j := rest.length) ?_
        · rintro j E2 H2 ⟨pre, suf, L, hr0, rfl, g0, g3, g4, g5, g7, gL, hL, hlies, hn1, hn2, hn3⟩
          cases suf with
          | nil =>
            simp at hr0
            subst hr0
            have hlt2 : ((rest.length : Int) + 1 < (l.length : Int)) = False := by simp; omega
            simp [g0, g3, g4, g5, g7, hlt2, gL, hL]
            have hlen : rest.length ≤ 29 := by omega
            have hb1 := hb0 n0 (by rw [hcons]; exact List.mem_cons_self ..)
            have hfold : foldX (chainE (valE (numV n0)) 1 rest) = valE (numV (sumI n0 1 rest)) := fold_chain rest _ n0 1 (foldX_val _) (fun m hm => hb0 m (by rw [hcons]; exact List.mem_cons_of_mem _ hm)) (by omega) (by omega) (by omega)
            have htk : L.take 7 = L := List.take_of_length_le (by omega)
            rw [htk]
            have hfz := hlies H2 (fun _ _ _ => rfl)
            have ha : frzL (frz2 H2 0 64) [.agg L] = some [.agg (exprC (chainE (valE (numV n0)) 1 rest))] := by
              refine frzL_two _ _ _ _ _ ?_ (frzL_none _)
              show frz H2 0 64 _ = _
              rw [frz_agg]
              split
              · rename_i hp
                have h1 := frzL2_pure H2 62 L (by simpa using hp)
                rw [hfz 63 (by omega)] at h1
                rw [Option.some.inj h1]
              · rw [hfz 63 (by omega)]
                rfl
            have hrun := norm_Fold_run (chainE (valE (numV n0)) 1 rest) (okE_chain rest _ 1 (okE_val n0)) H0
            rw [hfold] at hrun
            refine cK_asked oL_Fold ha hrun (by simp [valE, exprC_mk, flat, flat.flatL]) ?_
            simp [valE, exprC_mk, numV, g3, g4, hn3, hn2]
          | cons x suf =>
            have hx : l[pre.length + 1]? = some x := by rw [hcons, hr0]; simp
            have he := elem_at intC_len rep l .i64 (pre.length + 1) x hx
            simp only [intC] at he
            have hlt : pre.length + 1 < l.length := by rw [hcons, hr0]; simp
            have hlt' : ((pre.length : Int) + 1 < (l.length : Int)) = True := by simp; omega
            have hw2 := wrap_len hlt hl
            simp at he hw2
            have hrem : evBin .rem (i64D ((pre.length : Int) + 1)) (.v (.int .i64 2)) = some (i64D (((pre.length + 1) % 2 : Nat) : Int)) := by
              rw [bin_rem _ _ _ (by decide)]
              rw [Int.tmod_eq_emod_of_nonneg (by omega)]
              simp
            have hbx := hb0 x (by rw [hcons, hr0]; simp)
            have hb1 := hb0 n0 (by rw [hcons]; exact List.mem_cons_self ..)
            have hsb := sumI_bound pre n0 1 (fun m hm => hb0 m (by rw [hcons, hr0]; simp [hm]))
            have hpl : pre.length ≤ 29 := by omega
            have hw3 : IntKind.i64.wrap (sumI n0 1 pre - x) = sumI n0 1 pre - x := wrap64 (by omega) (by omega)
            have hw4 : IntKind.i64.wrap (sumI n0 1 pre + x) = sumI n0 1 pre + x := wrap64 (by omega) (by omega)
            have hx0 : (H.next = H2.next) = False := by simp; omega
            have hx1 : (H2.next = H.next) = False := by simp; omega
            have htk : L.take 7 = L := List.take_of_length_le (by omega)
            have next : ∀ (k : Int) (H3' : Heap), k = (if (pre.length + 1) % 2 = 0 then 8 else 7) → H3'.next = H2.next + 1 → H3'.get H2.next = some (.cells (L ++ exprC (valE (numV x)))) → (∀ r, r ≠ H.next → r < H2.next → H3'.get r = H2.get r) → LiesX H3' H.next (pre.length + 2) [i64D k, i64D 0, i64D 0, strD ⟨#[]⟩, strD ⟨#[]⟩, strD ⟨#[]⟩, .rs H2.next 0 2 (some 2) 7] (chainE (valE (numV n0)) 1 (pre ++ [x])) := by
              rintro k H3' hk hnx hg0 hsame H3 h3 m hm
              obtain ⟨m, rfl⟩ : ∃ k, m = k + 1 := ⟨m - 1, by omega⟩
              have hg : H3.get H2.next = some (.cells (L ++ exprC (valE (numV x)))) := by
                rw [h3 H2.next (by omega) (by omega), hg0]
              have ho := hlies H3 (fun r h4 h5 => by rw [h3 r h4 (by omega), hsame r h4 h5]) m (by omega)
              obtain ⟨m, rfl⟩ : ∃ k, m = k + 1 := ⟨m - 1, by omega⟩
              have hv := frzL2_pure H3 m (exprC (valE (numV x))) (exprC_pure _)
              have hlen : (L ++ exprC (valE (numV x))).length = 14 := by simp [hL]
              have hrs : frz2 H3 0 (m + 2) (.rs H2.next 0 2 (some 2) 7) = some (.sl 2 (exprC (chainE (valE (numV n0)) 1 pre) ++ exprC (valE (numV x))) (some 2)) := by
                rw [frz2_rs H3 (m + 1) _ _ _ _ _ _ hg, hlen, if_pos (by decide), List.drop_zero, List.take_of_length_le (by omega), frzL_append ho hv]
                rfl
              rw [chainE_append]
              unfold addE
              rw [exprC_mk, Nat.add_comm 1, ← hk]
              simp only [frzL_cons, frzL_nil, hrs, frz2_under _ _ _ _ (rfl : (i64D _).under 0 = true), frz2_under _ _ _ _ (rfl : (strD _).under 0 = true)]
              simp [zVal]
              rfl
            obtain ⟨a0, a1, a2, a3, a4, a5, a6, rfl⟩ : ∃ a0 a1 a2 a3 a4 a5 a6, L = [a0, a1, a2, a3, a4, a5, a6] := by
              match L, hL with
              | [a0, a1, a2, a3, a4, a5, a6], _ => exact ⟨_, _, _, _, _, _, _, rfl⟩
            by_cases hp : (pre.length + 1) % 2 = 0
            · simp [g0, g3, g4, g5, g7, hlt', he, hrem, hp, hw3, gL, hL, hx0, hn3, hw2]
              refine ⟨suf.length, by omega, pre ++ [x], suf, by simp [hr0], rfl, ?_, by simp; omega, _, by rw [get_set, if_pos ⟨rfl, by rw [gL]; rfl⟩], rfl, ?_, by omega, by split <;> omega, by split <;> omega⟩
              · rw [sumI_append, stepI, Nat.add_comm 1]
                simp [hp]
              · have := next 8 (layIn (bump (H2.set H.next (.cells [i64D 8, i64D 0, i64D 0, strD ⟨#[]⟩, strD ⟨#[]⟩, strD ⟨#[]⟩, .rs H2.next 0 2 (some 2) 7])) 1) H2.next (.cells ([a0, a1, a2, a3, a4, a5, a6] ++ exprC (valE (numV x))))) (by simp [hp]) (by simp) (by simp) (fun r h4 h5 => by
                  have h6 : (r = H2.next) = False := by simp; omega
                  simp [h6, get_set, h4])
                rw [List.length_append]
                exact this
            · have hp' : (((pre.length : Int) + 1) % 2 = 0) = False := by simp; omega
              simp [g0, g3, g4, g5, g7, hlt', he, hrem, hp', hw4, gL, hL, hx0, hn3, hw2]
              refine ⟨suf.length, by omega, pre ++ [x], suf, by simp [hr0], rfl, ?_, by simp; omega, _, by rw [get_set, if_pos ⟨rfl, by rw [gL]; rfl⟩], rfl, ?_, by omega, by split <;> omega, by split <;> omega⟩
              · rw [sumI_append, stepI, Nat.add_comm 1]
                simp [hp]
              · have := next 7 (layIn (bump (H2.set H.next (.cells [i64D 7, i64D 0, i64D 0, strD ⟨#[]⟩, strD ⟨#[]⟩, strD ⟨#[]⟩, .rs H2.next 0 2 (some 2) 7])) 1) H2.next (.cells ([a0, a1, a2, a3, a4, a5, a6] ++ exprC (valE (numV x))))) (by simp [hp]) (by simp) (by simp) (fun r h4 h5 => by
                  have h6 : (r = H2.next) = False := by simp; omega
                  simp [h6, get_set, h4])
                rw [List.length_append]
                exact this
        · refine ⟨[], rest, exprC (valE (numV n0)), by simp, by simp, by simp [f0], by simp [f3], by simp [f4, sumI], by simp [f5], by simp, by simp, by simp, ?_, by simp, by simp, by simp⟩
          intro H2 _ m hm
          obtain ⟨m, rfl⟩ : ∃ k, m = k + 1 := ⟨m - 1, by simp at hm; omega⟩
          exact frzL2_pure H2 m _ (exprC_pure _)
      | cons x suf =>
        have hx : l[pre.length]? = some x := by rw [hl0]; simp
        have he := elem_at intC_len rep l .i64 pre.length x hx
        simp only [intC] at he
        have hlt : pre.length < l.length := by rw [hl0]; simp
        have hlt' : ((pre.length : Int) < (l.length : Int)) = True := by simp; omega
        have hw2 := wrap_len hlt hl
        simp [f0, f6, hlt', he]
        by_cases b1 : x < -1000000
        · simp [b1, f3]
        · simp [b1, f0, f6, he]
          by_cases b2 : 1000000 < x
          · simp [b2, f3]
          · simp [b2, f0, f3, f4, f5, f6, hw2]
            refine ⟨suf.length, by omega, pre ++ [x], suf, by simp [hl0], rfl, by simp, fun n hn => ?_⟩
            rcases List.mem_append.1 hn with h' | h'
            · exact hb0 n h'
            · simp at h'; subst h'; omega
    · refine ⟨[], l, by simp, by simp, by simp, by simp, by simp, by simp, by simp, by simp [valE, exprC_mk, numV]; rfl, by simp⟩

theorem norms_walk (l : Sl Int) (H : Heap) : cK tabL (.fn n_augurylaw10_NormFolds) [l.enc intC] H fun d H' => d = bD true ∧ H' = H := norm_walk l.rep l.l l.ok H

end Go.Proofs.YthdkeggdipogoaaGreatDoor.Tz
