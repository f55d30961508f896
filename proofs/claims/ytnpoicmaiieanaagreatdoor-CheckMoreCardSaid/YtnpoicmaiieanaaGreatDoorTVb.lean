/-
The walk of CheckMore. Conditions: none.
-/
import Derived.Test.YtnpoicmaiieanaaGreatDoorTV9
namespace Go.Proofs.YtnpoicmaiieanaaGreatDoor.Tz
open Go.Aug Go.Aug.Api
set_option maxRecDepth 100000

theorem oL_CheckMore : tabL.orc n_augurylaw09_CheckMore = none := by kernel_rfl

set_option maxHeartbeats 4000000 in
theorem more_walk (l : Sl TSchema) (more : Sl TSchema) (q : TQuery) (H : Heap) :
    cK tabL (.fn n_augurylaw09_CheckMore) [l.enc schemaC, more.enc schemaC, .agg (queryC q)] H fun d H' => d = bD true ∧ H' = H := by
  refine cK_fn oL_CheckMore (tL t_augurylaw09_CheckMore) (Nat.le_of_ble_eq_true rfl) (by decide) ?_
  obtain ⟨g1, hg1, b1⟩ := GreatSchemas_len l H0
  obtain ⟨g2, hg2, b2⟩ := GreatSchemas_len more H0
  obtain ⟨g3, hg3⟩ := (Great_run q H0).run
  have c1 := fun H => (runL oL_GreatSchemas (by simp) hg1 H).cK
  have c2 := fun H => (runL oL_GreatSchemas (by simp) hg2 H).cK
  have c3 := fun H => (runL oL_Great (by simp) hg3 H).cK
  have hq5 : ∀ q : TQuery, (queryC q).take 5 = queryC q := fun q => List.take_of_length_le (by rw [queryC_len]; exact Nat.le_refl _)
  have kl := fun H => (runL oL_Check (by simp) (check_Check_run l q H0) H).cK
  cases g1 with
  | true => simp [(head_run _).cK, c1]
  | false =>
  cases g2 with
  | true => simp [(head_run _).cK, c1, c2]
  | false =>
  cases g3 with
  | true => simp [(head_run _).cK, c1, c2, c3, hq5]
  | false =>
    have hb1 := b1 rfl
    have hb2 := b2 rfl
    let HH : Heap := low0 (layIn (bump ((low0 H).add (.cells (queryC q))) 1) (H.next + 1) (.cells []))
    have hA1 := app_own HH (H.next + 1) 0 l (by simp [HH]) hb1
    have hmore := checkR_more l.l more.l q
    -- Check of the law's own row
    have k0 : ∀ (H1 : Heap) (r : Nat) (_hr : H1.get r = some (.cells [])) (k : D → Heap → Prop), cK tabL (.fn n_check_Check) [.rs r 0 0 (some 0) 2, .agg (queryC q)] H1 k = k (pairD (checkR [] q)) H1 := fun H1 r hr k => check_own ⟨some (some 0), [], Nat.zero_le _⟩ q H1 r (some 0) rfl hr k
    have kN : ∀ (L : List TSchema) (_hL : L.length ≤ big) (H1 : Heap) (r : Nat) (_hr : H1.get r = some (.cells (L.flatMap schemaC))) (k : D → Heap → Prop), cK tabL (.fn n_check_Check) [.rs r 0 L.length none 2, .agg (queryC q)] H1 k = k (pairD (checkR L q)) H1 := fun L hL H1 r hr k => check_own ⟨some none, L, hL⟩ q H1 r none rfl hr k
    have kl' := kN l.l l.ok
    have km' := kN more.l more.ok
    have kb' := kN (l.l ++ more.l) (by rw [List.length_append]; show _ ≤ 9223372036854775807; omega)
    rw [List.length_append, List.flatMap_append] at kb'
    by_cases hl : l.l = []
    · rw [if_pos hl] at hA1
      have hA2 := app_own HH (H.next + 1) 0 more (by simp [HH]) hb2
      rw [hl, List.nil_append] at hmore
      by_cases hm : more.l = []
      · rw [if_pos hm] at hA2
        rw [hm] at hmore
        simp only [HH] at hA1 hA2
        by_cases he : (checkR l.l q).1 = 0
        · have hf := hmore (hl ▸ he)
          simp [(head_run _).cK, c1, c2, c3, hq5, kl, pairD, hA1, hA2, k0, he, hf]
        · simp [(head_run _).cK, c1, c2, c3, hq5, kl, pairD, hA1, hA2, k0, he]
      · rw [if_neg hm] at hA2
        simp only [HH] at hA1 hA2
        simp at hA2
        by_cases he : (checkR l.l q).1 = 0
        · have hf := hmore (hl ▸ he)
          simp [(head_run _).cK, c1, c2, c3, hq5, kl, pairD, hA1, hA2, km', he, hf]
        · simp [(head_run _).cK, c1, c2, c3, hq5, kl, pairD, hA1, hA2, km', he]
    · rw [if_neg hl] at hA1
      simp only [HH] at hA1
      simp at hA1
      let HJ : Heap := low0 (relow ((low0 (layIn (bump ((low0 H).add (.cells (queryC q))) 1) (H.next + 1) (.cells []))).add (.cells (l.l.flatMap schemaC))) H.next)
      have hA2 := app_more HJ (H.next + 2) l.l more (by simp [HJ]) hb1 hb2
      by_cases hm : more.l = []
      · rw [if_pos hm] at hA2
        rw [hm, List.append_nil] at hmore
        simp only [HJ] at hA2
        by_cases he : (checkR l.l q).1 = 0
        · simp [(head_run _).cK, c1, c2, c3, hq5, kl, pairD, hA1, hA2, kl', he]
        · simp [(head_run _).cK, c1, c2, c3, hq5, kl, pairD, hA1, hA2, kl', he]
      · rw [if_neg hm] at hA2
        simp only [HJ] at hA2
        simp [next_del] at hA2
        by_cases he : (checkR l.l q).1 = 0
        · have hf := hmore he
          simp [(head_run _).cK, c1, c2, c3, hq5, kl, pairD, hA1, hA2, kb', he, hf]
        · simp [(head_run _).cK, c1, c2, c3, hq5, kl, pairD, hA1, hA2, kb', he]

end Go.Proofs.YtnpoicmaiieanaaGreatDoor.Tz
