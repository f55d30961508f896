/-
What CheckMore calls: schemas that are not too great, rows of schemas in the law's own memory. Conditions: none.
-/
import Derived.Test.YtnpoicmaiieanaaGreatDoorTV7
import Derived.Test.YtnpoicmaiieanaaGreatDoorGT
namespace Go.Proofs.YtnpoicmaiieanaaGreatDoor.Tz
open Go.Aug Go.Aug.Api
set_option maxRecDepth 100000

theorem GreatSchemas_len (l : Sl TSchema) (H : Heap) : ∃ b, Run tab (.fn n_augurylaw05_GreatSchemas) [l.enc schemaC] H (bD b) H ∧ (b = false → l.l.length < 9000) := by
  have key : cK tab (.fn n_augurylaw05_GreatSchemas) [l.enc schemaC] H fun d H' => (∃ b, d = bD b ∧ (b = false → l.l.length < 9000)) ∧ H' = H := by
    refine cK_fn o_augurylaw05_GreatSchemas t_augurylaw05_GreatSchemas (Nat.le_of_ble_eq_true rfl) (by decide) ?_
    simp [Sl.enc]
    refine LR_rule (WR_mono _) (fun j E H' => H' = low0 H ∧ ∃ pre suf n, l.l = pre ++ suf ∧ j = suf.length ∧ E 0 = slD l.rep l.l.length (l.l.flatMap schemaC) ∧ E 3 = i64D n ∧ E 4 = i64D pre.length ∧ (l.l.length < 9000 ∨ n = l.l.length)) ?_ (j := l.l.length) ⟨rfl, [], l.l, l.l.length, by simp, rfl, by simp, by simp, by simp, .inr rfl⟩
    rintro j E H' ⟨rfl, pre, suf, n, hl, rfl, e0, e3, e4, hb⟩
    cases suf with
    | nil =>
      simp at hl
      have hlt' : ((pre.length : Int) < (l.l.length : Int)) = False := by simp [hl]
      simp [e0, e3, e4, hlt']
      rcases hb with hb | hb <;> omega
    | cons a suf =>
      have hlt : pre.length < l.l.length := by rw [hl]; simp
      have hlt' : ((pre.length : Int) < (l.l.length : Int)) = True := by simp; omega
      have hw := wrap_more hlt l.ok
      have ea := elem_at schemaC_len l.rep l.l .i64 pre.length a (by rw [hl]; simp)
      simp only [schemaC] at ea
      simp at ea
      simp [e0, e3, e4, hlt']
      refine gK_of (fun h1 => ?_) (fun h1 => ?_)
      · have hsm : l.l.length < 9000 := by
          have := of_decide_eq_true h1
          rcases hb with hb | hb <;> omega
        simp [h1, e0, e3, e4, ea, Sl.enc]
        refine LR_rule (WR_mono _) (fun j E H' => H' = low0 H ∧ ∃ pre2 suf2 n, a.fields.l = pre2 ++ suf2 ∧ j = suf2.length ∧ E 0 = slD l.rep l.l.length (l.l.flatMap schemaC) ∧ E 3 = i64D n ∧ E 4 = i64D pre.length ∧ E 5 = i64D pre2.length) ?_ (j := a.fields.l.length) ⟨rfl, [], a.fields.l, _, by simp, rfl, by simp [e0], by simp; rfl, by simp [e4], by simp⟩
        rintro j2 E2 H2 ⟨rfl, pre2, suf2, n2, hl2, rfl, f0, f3, f4, f5⟩
        cases suf2 with
        | nil =>
          simp at hl2
          simp [f0, f3, f4, f5, ea, Sl.enc, hl2, hw]
          exact ⟨suf.length, by omega, pre ++ [a], suf, by simp [hl], rfl, by simp, .inl hsm⟩
        | cons b suf2 =>
          have hlt2 : pre2.length < a.fields.l.length := by rw [hl2]; simp
          have hlt2' : ((pre2.length : Int) < (a.fields.l.length : Int)) = True := by simp; omega
          have hw2 := wrap_more hlt2 a.fields.ok
          have eb := elem_at fieldC_len a.fields.rep a.fields.l .i64 pre2.length b (by rw [hl2]; simp)
          simp only [fieldC] at eb
          simp at eb
          simp [f0, f3, f4, f5, ea, Sl.enc, hlt2']
          refine gK_of (fun h2 => ?_) (fun h2 => ?_)
          · simp [h2, f0, f3, f4, f5, ea, eb, Sl.enc, hw2]
            exact ⟨suf2.length, by omega, pre2 ++ [b], suf2, by simp [hl2], rfl, by simp⟩
          · simp [h2, f0, f3, f4, hw]
            exact ⟨suf.length, by omega, pre ++ [a], suf, by simp [hl], rfl, by simp, .inl hsm⟩
      · simp [h1, e3]
        have := of_decide_eq_false h1
        omega
  obtain ⟨d, H', hr, ⟨b, rfl, h⟩, rfl⟩ := key
  exact ⟨b, hr, h⟩

theorem app_own (H : Heap) (r c : Nat) (m : Sl TSchema) (hg : H.get r = some (.cells [])) (hm : m.l.length < 9000) : evApp H false 2 40 (.rs r 0 0 (some 0) 2) (m.enc schemaC) = if m.l = [] then some (.rs r 0 0 (some 0) 2, H) else some (.rs H.next 0 m.l.length none 2, H.add (.cells (m.l.flatMap schemaC))) := by
  have hf := sl_first H 2 m.rep m.l.length (m.l.flatMap schemaC) (flatMap_length schemaC_len m.l)
  unfold evApp Sl.enc
  rw [hf]
  by_cases h : m.l = []
  · simp [h]
  · have h0 : ¬ m.l.length = 0 := fun e => h (List.length_eq_zero_iff.1 e)
    have hr : roomOk 40 m.l.length = true := by simp [roomOk]; omega
    simp [h, h0, hg, hr]

theorem app_more (H : Heap) (r : Nat) (l : List TSchema) (m : Sl TSchema) (hg : H.get r = some (.cells (l.flatMap schemaC))) (hl : l.length < 9000) (hm : m.l.length < 9000) : evApp H false 2 40 (.rs r 0 l.length none 2) (m.enc schemaC) = if m.l = [] then some (.rs r 0 l.length none 2, H) else some (.rs H.next 0 (l.length + m.l.length) none 2, (H.del r).add (.cells (l.flatMap schemaC ++ m.l.flatMap schemaC))) := by
  have hf := sl_first H 2 m.rep m.l.length (m.l.flatMap schemaC) (flatMap_length schemaC_len m.l)
  have hl2 := flatMap_length schemaC_len l
  unfold evApp Sl.enc
  rw [hf]
  by_cases h : m.l = []
  · simp [h]
  · have h0 : ¬ m.l.length = 0 := fun e => h (List.length_eq_zero_iff.1 e)
    have hr : roomOk 40 (l.length + m.l.length) = true := by simp [roomOk]; omega
    simp only [hg, hl2, hr]
    simp [h, h0]

/-- Check of schemas that lie in the law's own memory. -/
theorem check_own (l : Sl TSchema) (q : TQuery) (H1 : Heap) (r : Nat) (c : Option Nat) (hl : l.rep = some c) (hr : H1.get r = some (.cells (l.l.flatMap schemaC))) (k : D → Heap → Prop) :
    cK tabL (.fn n_check_Check) [.rs r 0 l.l.length c 2, .agg (queryC q)] H1 k = k (pairD (checkR l.l q)) H1 := by
  have hd := check_Check_run l q H0
  refine (cK.run (cK_frozen oL_Check (by simp [under_agg, under_cons]; rfl) ?_ hd rfl ⟨rfl, rfl⟩)).cK k
  have h1 := frz2_row H1 61 r l.l.length c 2 _ hr (flatMap_length schemaC_len l.l) (by simp)
  simp only [frz2] at h1
  refine frzL_two _ _ _ _ _ ?_ (frzL_two _ _ _ _ _ (frz2_under _ _ _ _ (by simp)) (frzL_none _))
  rw [Sl.enc, hl, slD_some]
  exact frz2_row H1 62 r l.l.length c 2 _ hr (flatMap_length schemaC_len l.l) (by simp)

end Go.Proofs.YtnpoicmaiieanaaGreatDoor.Tz
