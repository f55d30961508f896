/-
The walks of names and right values, of the references. Conditions: none.
-/
import Derived.Test.YtlnkifnkamojnaaGreatTW7
namespace Go.Proofs.YtlnkifnkamojnaaGreat.Tz
open Go.Aug Go.Aug.Api
set_option maxRecDepth 100000
theorem ref04_Right_run (k n : Int) (s : ByteArray) (H : Heap) : Run tab (.fn n_q6) [.agg [i64D k, i64D n, strD s]] H (bD (rightV ⟨k, n, s⟩)) H := by
  refine cK.run (cK_fn o_q6 t_q6 (Nat.le_of_ble_eq_true rfl) (by decide) ?_)
  simp
  repeat' (refine gK_of (fun h => ?_) (fun h => ?_) <;> (try simp [h]))
  all_goals grind [rightV, maxNum, emptyS]
theorem ref05_Word_run (s : ByteArray) (hs : s.size ≤ big) (H : Heap) : Run tab (.fn n_q7) [strD s] H (bD (wordS s)) H := by
  refine cK.run (cK_fn o_q7 t_q7 (Nat.le_of_ble_eq_true rfl) (by decide) ?_)
  simp
  refine LR_rule (WR_mono _) (fun j E H' => H' = low0 H ∧ ∃ pre suf, s.data.toList = pre ++ suf ∧ j = suf.length ∧ E 0 = strD s ∧ E 3 = i64D pre.length ∧ wordL true pre = true) ?_ (j := s.data.toList.length) ⟨rfl, [], s.data.toList, by simp, rfl, by simp, by simp, rfl⟩
  rintro j E H' ⟨rfl, pre, suf, hl, rfl, e0, e3, hp⟩
  have hsz := size_list s
  cases suf with
  | nil =>
    simp at hl
    have hlt' : ((pre.length : Int) < (s.size : Int)) = False := by rw [hsz, hl]; simp
    simp [e0, e3, hlt']
    have hl2 : s.data.toList = pre := hl
    refine gK_of (fun h => ?_) (fun h => ?_)
    · simp [h, e0]
      have h1 : 1 ≤ s.size := by have := of_decide_eq_true h; omega
      by_cases h16 : s.size ≤ 16
      · have : (s.size : Int) ≤ 16 := by omega
        simp [wordS, hl2, hp, h1, h16, this]
      · have : ¬ (s.size : Int) ≤ 16 := by omega
        simp [-Int.not_le, -Nat.not_le, wordS, hl2, hp, h1, h16, this]
    · simp [h]
      have h' := of_decide_eq_false h
      have : ¬ (1 ≤ s.size) := by omega
      simp [wordS, this]
  | cons b suf =>
    have hlt : pre.length < s.size := by rw [hsz, hl]; simp
    have hlt' : ((pre.length : Int) < (s.size : Int)) = True := by simp; omega
    have hw := wrap_more hlt hs
    simp [e0, e3, hlt', idxS_zip s pre b suf hl]
    have hword : wordS s = (okB pre.isEmpty (b.toNat : Int) && (wordL false suf && decide (1 ≤ s.size) && decide (s.size ≤ 16))) := by
      simp only [wordS, hl, wordL_append, hp, wordL]
      cases pre <;> simp [Bool.and_assoc]
    have stop : okB pre.isEmpty (b.toNat : Int) = false → wordS s = false := fun h => by rw [hword, h]; rfl
    have go : okB pre.isEmpty (b.toNat : Int) = true → ∃ j', j' < suf.length + 1 ∧ ∃ pre_1 suf, s.data.toList = pre_1 ++ suf ∧ j' = suf.length ∧ (pre.length : Int) + 1 = (pre_1.length : Int) ∧ wordL true pre_1 = true := fun h =>
      ⟨suf.length, by omega, pre ++ [b], suf, by simp [hl], rfl, by simp, by simp [wordL_append, hp, wordL]; exact h⟩
    have hemp : decide (pre = []) = pre.isEmpty := by cases pre <;> rfl
    repeat' (refine gK_of (fun h => ?_) (fun h => ?_) <;> (try simp [h, e0, e3, hw, gK_not]))
    all_goals first | exact stop (by simp_all [okB] <;> omega) | exact go (by simp_all [okB] <;> omega) | exact stop (by simp_all [okB]) | exact go (by simp_all [okB])
theorem ref07_Key_run (s : ByteArray) (H : Heap) : Run tab (.fn n_q8) [strD s] H (bD (keyS s)) H := by
  refine cK.run (cK_fn o_q8 t_q8 (Nat.le_of_ble_eq_true rfl) (by decide) ?_)
  simp
  refine LR_rule (WR_mono _) (fun j E H' => H' = (low0 H).add (.cells (keysL.flatMap strC)) ∧ ∃ pre suf, keysL = pre ++ suf ∧ j = suf.length ∧ E 0 = strD s ∧ E 3 = .rs H.next 0 18 (some 18) 1 ∧ E 4 = i64D pre.length ∧ (∀ k ∈ pre, k ≠ s)) ?_ (j := 18)
    ⟨by simp [keysL, strC], [], keysL, by simp, rfl, by simp, by simp, by simp, by simp⟩
  rintro j E H' ⟨rfl, pre, suf, hl, rfl, e0, e3, e4, hp⟩
  have hlen : pre.length + suf.length = 18 := by
    have := congrArg List.length hl
    simp [keysL] at this
    omega
  cases suf with
  | nil =>
    simp at hl hlen
    simp [e3, e4, hlen]
    have : keyS s = false := by
      simp only [keyS, List.any_eq_false, decide_eq_true_eq]
      intro k hk
      exact hp k (hl ▸ hk)
    simp [this]
  | cons k suf =>
    simp at hlen
    have hlt' : ((pre.length : Int) < 18) = True := by simp; omega
    have hw : IntKind.i64.wrap ((pre.length : Int) + 1) = (pre.length : Int) + 1 := wrap64 (by omega) (by omega)
    have hd : (keysL.flatMap strC).drop pre.length = strD k :: suf.flatMap strC := by
      have := drop_zip strC_len pre (k :: suf)
      rw [← hl, Nat.mul_one] at this
      rw [this]
      rfl
    simp [e0, e3, e4, hlt', hd]
    refine gK_of (fun h => ?_) (fun h => ?_)
    · simp
      simp only [keyS]
      have hk : k ∈ keysL := by rw [hl]; simp
      have hany : (keysL.any fun k => decide (k = s)) = true := by rw [List.any_eq_true]; exact ⟨k, hk, h⟩
      rw [hany]
    · simp [e0, e3, e4, hw]
      refine ⟨suf.length, by omega, pre ++ [k], suf, by simp [hl], rfl, by simp, fun x hx => ?_⟩
      rcases List.mem_append.1 hx with hx | hx
      · exact hp x hx
      · simp at hx; subst hx; exact of_decide_eq_false h
theorem ref08_Name_run (s : ByteArray) (hs : s.size ≤ big) (H : Heap) : Run tab (.fn n_q16) [strD s] H (bD (nameS s)) H := by
  refine cK.run (cK_fn o_q16 t_q16 (Nat.le_of_ble_eq_true rfl) (by decide) ?_)
  simp [(ref05_Word_run s hs _).cK]
  refine gK_of (fun h => ?_) (fun h => ?_)
  · simp [h, (ref07_Key_run s _).cK, nameS]
  · simp [h, nameS]
end Go.Proofs.YtlnkifnkamojnaaGreat.Tz
namespace Go.Proofs.YtlnkifnkamojnaaGreat.Tz
open Go.Aug Go.Aug.Api
set_option maxRecDepth 100000
theorem RightExpr_bytes (x : TExpr) (hs : x.val.s.size ≤ big) (H : Heap) (Q : PostX) (h1 : plainL x.val.s.data.toList = true → ∀ E, E 2 = .rf H.next 0 → Q (.exit 0) E ((low0 H).add (.cells (exprC x))))
    (h2 : plainL x.val.s.data.toList = false → ∀ E, E 4 = bD false → Q .ret E ((low0 H).add (.cells (exprC x)))) (E : Fr) (e2 : E 2 = .rf H.next 0) (e7 : E 7 = i64D 0) :
    LR (WR 146 tab none F_q19.l18) E ((low0 H).add (.cells (exprC x))) Q := by
  have hpl : ∀ a b, plainL (a ++ b) = (plainL a && plainL b) := by
    intro a b
    induction a with
    | nil => simp [plainL]
    | cons c a ih => simp [plainL, ih, Bool.and_assoc]
  refine LR_rule (WR_mono _) (fun j E H' => H' = (low0 H).add (.cells (exprC x)) ∧ ∃ pre suf, x.val.s.data.toList = pre ++ suf ∧ j = suf.length ∧ E 2 = .rf H.next 0 ∧ E 7 = i64D pre.length ∧ plainL pre = true) ?_ (j := x.val.s.data.toList.length) ⟨rfl, [], x.val.s.data.toList, by simp, rfl, e2, by simp [e7], rfl⟩
  rintro j E H' ⟨rfl, pre, suf, hl, rfl, e2, e7, hp⟩
  have hsz := size_list x.val.s
  have hE : exprC x = [i64D x.kind, i64D x.val.kind, i64D x.val.n, strD x.val.s, strD x.var, strD x.field, slD x.rep x.kids.length (x.kids.flatMap exprC)] := exprC_eq x
  rw [hE] at h1 h2 ⊢
  cases suf with
  | nil =>
    simp at hl
    have hlt' : ((pre.length : Int) < (x.val.s.size : Int)) = False := by rw [hsz, hl]; simp
    simp [e2, e7, hlt']
    exact h1 (by rw [hl]; exact hp) _ (by simp [e2])
  | cons b suf =>
    have hlt : pre.length < x.val.s.size := by rw [hsz, hl]; simp
    have hlt' : ((pre.length : Int) < (x.val.s.size : Int)) = True := by simp; omega
    have hw := wrap_more hlt hs
    have hb : plainL x.val.s.data.toList = (!(decide ((b.toNat : Int) < 32) || decide (126 < (b.toNat : Int)) || decide ((b.toNat : Int) = 39)) && plainL suf) := by rw [hl, hpl, hp]; simp [plainL]
    simp [e2, e7, hlt', idxS_zip x.val.s pre b suf hl]
    refine gK_of (fun c1 => ?_) (fun c1 => ?_)
    · have c1' : decide ((b.toNat : Int) < 32) = false := by simpa using c1
      simp [c1', e2, e7, idxS_zip x.val.s pre b suf hl]
      refine gK_of (fun c2 => ?_) (fun c2 => ?_)
      · have c2' : decide (126 < (b.toNat : Int)) = false := by simpa using c2
        simp [c2', e2, e7, idxS_zip x.val.s pre b suf hl]
        refine gK_of (fun c3 => ?_) (fun c3 => ?_)
        · simp
          exact h2 (by rw [hb, c1', c2', c3]; rfl) _ (by simp)
        · simp [e2, e7, hw]
          exact ⟨suf.length, by omega, pre ++ [b], suf, by simp [hl], rfl, by simp, by rw [hpl, hp]; simp only [plainL, c1', c2', c3]; rfl⟩
      · have c2' : decide (126 < (b.toNat : Int)) = true := by simpa using c2
        simp [c2']
        exact h2 (by rw [hb, c1', c2']; rfl) _ (by simp)
    · have c1' : decide ((b.toNat : Int) < 32) = true := by simpa using c1
      simp [c1']
      exact h2 (by rw [hb, c1']; rfl) _ (by simp)
theorem RightExpr_leaf (k : Int) (v : TVal) (rep : Option (Option Nat)) (hs : v.s.size ≤ big) (most : Int) (hm1 : ¬ most < 1) (h2 : ¬ k = 2) (h3 : ¬ k = 3) (h4 : ¬ k = 4) (h5 : ¬ k = 5) (h6 : ¬ k = 6) (h7 : ¬ k = 7) (h8 : ¬ k = 8) (H : Heap) :
    Run tab (.fn n_q19) [.agg (exprC (.mk k v ⟨#[]⟩ ⟨#[]⟩ rep [])), i64D most] H (bD (rightE most (.mk k v ⟨#[]⟩ ⟨#[]⟩ rep []))) H := by
  refine cK.run (cK_fn o_q19 t_q19 (Nat.le_of_ble_eq_true rfl) (by decide) ?_)
  have hV := fun H1 => (ref04_Right_run v.kind v.n v.s H1).cK
  have e0 : rightE most (.mk k v ⟨#[]⟩ ⟨#[]⟩ rep []) = (if k = 1 then plainL v.s.data.toList && rightV v else false) := by
    by_cases h1 : k = 1
    · subst h1; simp [rightE, hm1, emptyS]
    · by_cases hz : v = zVal <;> simp [rightE, hm1, emptyS, h1, h2, h3, h4, h5, h6, h7, h8, hz]
  have hB := fun Q => RightExpr_bytes (.mk k v ⟨#[]⟩ ⟨#[]⟩ rep []) hs H Q
  simp only [exprC_mk, TExpr.val] at hB
  by_cases h1 : k = 1
  · subst h1
    simp [exprC_mk, hm1]
    simp at hB
    refine hB _ (fun hp E e2 => ?_) (fun hp E e4 => ?_) _ (by simp) (by simp)
    · simp [e2, hV, e0, hp]
    · simp [e4, e0, hp]
  · by_cases hz : v = zVal
    · subst hz
      simp [exprC_mk, gK_not, hm1, eq_val, h1, h2, h3, h4, h5, h6, h7, h8, zVal]
      simp [zVal] at hB
      refine hB _ (fun hp E e2 => ?_) (fun hp E e4 => ?_) _ (by simp) (by simp)
      · rw [zVal] at e0
        simp [e2, e0, h1]
      · rw [zVal] at e0
        simp [e4, e0, h1]
    · have hzb : (decide (v.kind = 0) && decide (v.n = 0) && decide (v.s = ⟨#[]⟩)) = false := by
        cases v
        simp [zVal] at hz ⊢
        grind
      simp [exprC_mk, gK_not, hm1, eq_val, h1, h2, h4, h5, h6, h7, h8, hzb]
      rw [e0]; simp [h1]
end Go.Proofs.YtlnkifnkamojnaaGreat.Tz
namespace Go.Proofs.YtlnkifnkamojnaaGreat.Tz
open Go.Aug Go.Aug.Api
set_option maxRecDepth 100000
set_option maxHeartbeats 4000000 in
theorem ref08_RightExpr_run : ∀ (x : TExpr) (_hx : okE x) (most : Int) (_hm : -1000 ≤ most ∧ most ≤ 1000) (H : Heap), Run tab (.fn n_q19) [.agg (exprC x), i64D most] H (bD (rightE most x)) H
  | .mk k v var f rep kids, hx, most, hm, H => by
    have ih : 1 ≤ most → ∀ x ∈ kids, ∀ (H : Heap), Run tab (.fn n_q19) [.agg (exprC x), i64D (most - 1)] H (bD (rightE (most - 1) x)) H := fun h x hmem H => ref08_RightExpr_run x (okEs_mem hx.2.1 hmem) (most - 1) (by omega) H
    have hvar : var.size ≤ big := hx.2.2.1
    have hf : f.size ≤ big := hx.2.2.2.1
    have hs : v.s.size ≤ big := hx.2.2.2.2
    have nV := fun H => (ref08_Name_run var hvar H).cK
    have nF := fun H => (ref08_Name_run f hf H).cK
    by_cases hleaf : ¬ most < 1 ∧ (¬ k = 2 ∧ ¬ k = 3 ∧ ¬ k = 4 ∧ ¬ k = 5 ∧ ¬ k = 6 ∧ ¬ k = 7 ∧ ¬ k = 8) ∧ kids = [] ∧ var = ⟨#[]⟩ ∧ f = ⟨#[]⟩
    · obtain ⟨a1, ⟨a2, a3, a4, a5, a6, a7, a8⟩, rfl, rfl, rfl⟩ := hleaf
      exact RightExpr_leaf k v rep hs most a1 a2 a3 a4 a5 a6 a7 a8 H
    refine cK.run (cK_fn o_q19 t_q19 (Nat.le_of_ble_eq_true rfl) (by decide) ?_)
    have sub1 : 1 ≤ most → IntKind.i64.wrap (most - 1) = most - 1 := fun h => wrap64 (by omega) (by omega)
    by_cases hf4 : k = 2 ∨ k = 4 ∨ k = 5 ∨ k = 6
    · have hn7 : ¬ k = 7 := by omega
      have hn8 : ¬ k = 8 := by omega
      have hn1 : ¬ k = 1 := by omega
      by_cases hm1 : most < 1
      · rcases hf4 with rfl | rfl | rfl | rfl <;> simp [exprC_mk, hm1, rightE]
      · by_cases hkids : kids = []
        · subst hkids
          by_cases hz : v = zVal
          · subst hz
            rcases hf4 with rfl | rfl | rfl | rfl <;> simp [exprC_mk, gK_not, hm1, rightE, eq_val, zVal, nV] <;> (refine gK_of (fun h => ?_) (fun h => ?_) <;> simp [h, nF])
          · have hzb : (decide (v.kind = 0) && decide (v.n = 0) && decide (v.s = ⟨#[]⟩)) = false := by
              cases v
              simp [zVal] at hz ⊢
              grind
            rcases hf4 with rfl | rfl | rfl | rfl <;> simp [exprC_mk, gK_not, hm1, rightE, eq_val, hzb, hz]
        · have hk0 : (0 < kids.length) = True := by simp; exact List.length_pos_iff.2 hkids
          rcases hf4 with rfl | rfl | rfl | rfl <;> simp [exprC_mk, hm1, rightE, hk0, hkids]
    · by_cases hm1 : most < 1
      · by_cases h7 : k = 7
        · subst h7; simp [exprC_mk, hm1, rightE]
        · by_cases h8 : k = 8
          · subst h8; simp [exprC_mk, hm1, rightE]
          · have h2 : ¬ k = 2 := by omega
            have h4 : ¬ k = 4 := by omega
            have h5 : ¬ k = 5 := by omega
            have h6 : ¬ k = 6 := by omega
            simp [exprC_mk, hm1, rightE, h7, h8, h2, h4, h5, h6]
      · by_cases h3 : k = 3
        · subst h3
          by_cases hkids : kids = []
          · subst hkids
            by_cases hz : v = zVal
            · subst hz
              by_cases hfe : f = emptyS
              · subst hfe
                simp [exprC_mk, gK_not, hm1, rightE, eq_val, zVal, emptyS, nV] <;> (refine gK_of (fun h => ?_) (fun h => ?_) <;> simp [h])
              · have hfe' : ¬ f = ⟨#[]⟩ := hfe
                simp [exprC_mk, gK_not, hm1, rightE, eq_val, zVal, emptyS, nV, hfe'] <;> (refine gK_of (fun h => ?_) (fun h => ?_) <;> simp [h, hfe'])
            · have hzb : (decide (v.kind = 0) && decide (v.n = 0) && decide (v.s = ⟨#[]⟩)) = false := by
                cases v
                simp [zVal] at hz ⊢
                grind
              simp [exprC_mk, gK_not, hm1, rightE, eq_val, hzb, hz]
          · have hk0 : (0 < kids.length) = True := by simp; exact List.length_pos_iff.2 hkids
            simp [exprC_mk, hm1, rightE, hk0, hkids]
        · by_cases h78 : k = 7 ∨ k = 8
          · by_cases hz : v = zVal
            · subst hz
              by_cases hve : var = emptyS
              · subst hve
                by_cases hfe : f = emptyS
                · subst hfe
                  match kids with
                  | [] => rcases h78 with rfl | rfl <;> simp [exprC_mk, gK_not, hm1, rightE, rightTwo, eq_val, zVal, emptyS]
                  | [a] => rcases h78 with rfl | rfl <;> simp [exprC_mk, gK_not, hm1, rightE, rightTwo, eq_val, zVal, emptyS]
                  | a :: b :: c :: l =>
                    have hl3 : decide ((l.length : Int) + 3 = 2) = false := by simp; omega
                    rcases h78 with rfl | rfl <;> simp [exprC_mk, gK_not, hm1, rightE, rightTwo, eq_val, zVal, emptyS, hl3]
                  | [a, b] =>
                    have nA := fun H => (ih (by omega) a (by simp) H).cK
                    have nB := fun H => (ih (by omega) b (by simp) H).cK
                    have hs1 := sub1 (by omega)
                    have e0 := elem_at exprC_len rep [a, b] .i64 0 a rfl
                    have e1 := elem_at exprC_len rep [a, b] .i64 1 b rfl
                    simp at e0 e1
                    rcases h78 with rfl | rfl <;> simp [exprC_mk, gK_not, hm1, rightE, rightTwo, eq_val, zVal, emptyS, hs1, nA, e0, load_elem _ _ _ _ (exprC_len _)] <;> (refine gK_of (fun h => ?_) (fun h => ?_) <;> simp [h, hs1, nB, e1])
                · have hfe' : ¬ f = ⟨#[]⟩ := hfe
                  rcases h78 with rfl | rfl <;> simp [exprC_mk, gK_not, hm1, rightE, eq_val, zVal, emptyS, hfe']
              · have hve' : ¬ var = ⟨#[]⟩ := hve
                rcases h78 with rfl | rfl <;> simp [exprC_mk, gK_not, hm1, rightE, eq_val, zVal, emptyS, hve']
            · have hzb : (decide (v.kind = 0) && decide (v.n = 0) && decide (v.s = ⟨#[]⟩)) = false := by
                cases v
                simp [zVal] at hz ⊢
                grind
              rcases h78 with rfl | rfl <;> simp [exprC_mk, gK_not, hm1, rightE, eq_val, hzb, hz]
          · have h2 : ¬ k = 2 := by omega
            have h4 : ¬ k = 4 := by omega
            have h5 : ¬ k = 5 := by omega
            have h6 : ¬ k = 6 := by omega
            have h7 : ¬ k = 7 := by omega
            have h8 : ¬ k = 8 := by omega
            by_cases hkids : kids = []
            · subst hkids
              by_cases hve : var = ⟨#[]⟩
              · subst hve
                have hfe : ¬ f = ⟨#[]⟩ := fun hfe => hleaf ⟨hm1, ⟨h2, h3, h4, h5, h6, h7, h8⟩, rfl, rfl, hfe⟩
                by_cases hz : v = zVal
                · subst hz
                  by_cases h1 : k = 1
                  · subst h1; simp [exprC_mk, hm1, rightE, emptyS, zVal, hfe]
                  · simp [exprC_mk, gK_not, hm1, rightE, eq_val, emptyS, hfe, h1, h2, h3, h4, h5, h6, h7, h8, zVal]
                · have hzb : (decide (v.kind = 0) && decide (v.n = 0) && decide (v.s = ⟨#[]⟩)) = false := by
                    cases v
                    simp [zVal] at hz ⊢
                    grind
                  by_cases h1 : k = 1
                  · subst h1; simp [exprC_mk, hm1, rightE, emptyS, hfe]
                  · simp [exprC_mk, gK_not, hm1, rightE, eq_val, h1, h2, h4, h5, h6, h7, h8, hz, hzb]
              · by_cases hz : v = zVal
                · subst hz
                  by_cases h1 : k = 1
                  · subst h1; simp [exprC_mk, hm1, rightE, emptyS, zVal, hve]
                  · simp [exprC_mk, gK_not, hm1, rightE, eq_val, emptyS, hve, h1, h2, h3, h4, h5, h6, h7, h8, zVal]
                · have hzb : (decide (v.kind = 0) && decide (v.n = 0) && decide (v.s = ⟨#[]⟩)) = false := by
                    cases v
                    simp [zVal] at hz ⊢
                    grind
                  by_cases h1 : k = 1
                  · subst h1; simp [exprC_mk, hm1, rightE, emptyS, hve]
                  · simp [exprC_mk, gK_not, hm1, rightE, eq_val, h1, h2, h4, h5, h6, h7, h8, hz, hzb]
            · have hk0 : (0 < kids.length) = True := by simp; exact List.length_pos_iff.2 hkids
              simp [exprC_mk, hm1, rightE, hk0, hkids, h7, h8, h2, h4, h5, h6]
end Go.Proofs.YtlnkifnkamojnaaGreat.Tz
namespace Go.Proofs.YtlnkifnkamojnaaGreat.Tz
open Go.Aug Go.Aug.Api
set_option maxRecDepth 100000
theorem rightItem_in (x : TItem) (first : Bool) (pre : List ByteArray) (s : ByteArray) (suf : List ByteArray) (hl : x.names.l = pre ++ s :: suf) (H : Heap) (Q : PostX)
    (h1 : (pre.any fun p => decide (p = s)) = false → ∀ E, E 1 = bD first → E 2 = .rf H.next 0 → E 5 = i64D pre.length → Q (.exit 2) E ((low0 H).add (.cells (itemC x))))
    (h2 : (pre.any fun p => decide (p = s)) = true → ∀ E, E 4 = bD false → Q .ret E ((low0 H).add (.cells (itemC x)))) (E : Fr) (e1 : E 1 = bD first) (e2 : E 2 = .rf H.next 0) (e5 : E 5 = i64D pre.length) (e6 : E 6 = i64D 0) :
    LR (WR 81 tab none F_q39.l12) E ((low0 H).add (.cells (itemC x))) Q := by
  refine LR_rule (WR_mono _) (fun j E H' => H' = (low0 H).add (.cells (itemC x)) ∧ ∃ p1 p2, pre = p1 ++ p2 ∧ j = p2.length ∧ E 1 = bD first ∧ E 2 = .rf H.next 0 ∧ E 5 = i64D pre.length ∧ E 6 = i64D p1.length ∧ (p1.any fun p => decide (p = s)) = false) ?_ (j := pre.length) ⟨rfl, [], pre, rfl, rfl, e1, e2, e5, e6, rfl⟩
  rintro j E H' ⟨rfl, p1, p2, hp, rfl, e1, e2, e5, e6, hn⟩
  have hok := x.names.ok
  cases p2 with
  | nil =>
    simp at hp
    subst hp
    simp [itemC, Sl.enc, e5, e6]
    simp [itemC, Sl.enc] at h1
    exact h1 (by simpa using hn) _ (by simp [e1]) (by simp [e2]) (by simp [e5])
  | cons p p2 =>
    have hlt : p1.length < pre.length := by rw [hp]; simp
    have hlt' : ((p1.length : Int) < (pre.length : Int)) = True := by simp; omega
    have hw := wrap_more (a := p1.length) (n := x.names.l.length) (by rw [hl, hp]; simp) hok
    have ea := elem_at strC_len x.names.rep x.names.l .i64 p1.length p (by rw [hl, hp]; simp)
    have eb := elem_at strC_len x.names.rep x.names.l .i64 pre.length s (by rw [hl]; simp)
    simp [itemC, Sl.enc, e2, e5, e6, hlt', ea, eb]
    simp [strC]
    refine gK_of (fun h => ?_) (fun h => ?_)
    · simp
      simp [-List.any_eq_true, itemC, Sl.enc] at h2
      simp at h
      exact h2 (by rw [List.any_eq_true]; exact ⟨p, by rw [hp]; simp, by simp [h]⟩) _ (by simp)
    · simp [e1, e2, e5, e6, hw]
      exact ⟨p2.length, by omega, p1 ++ [p], p2, by simp [hp], rfl, by simp, fun y hy => by
        rcases List.mem_append.1 hy with hy | hy
        · have := List.any_eq_false.1 hn y hy; simpa using this
        · simp at hy; subst hy; simpa using h⟩
theorem ref08_rightItem_run (x : TItem) (first : Bool) (H : Heap) : Run tab (.fn n_q39) [.agg (itemC x), bD first] H (bD (rightItem x first)) H := by
  refine cK.run (cK_fn o_q39 t_q39 (Nat.le_of_ble_eq_true rfl) (by decide) ?_)
  have nV := fun H => (ref08_Name_run x.var x.okV H).cK
  have bad : (nameS x.var = false ∨ x.names.l.length < 1 ∨ 3 < x.names.l.length ∨ x.mode < 1 ∨ 3 < x.mode) → rightItem x first = false := fun h => by unfold rightItem; rw [if_pos h]
  by_cases c1 : nameS x.var = false
  · rw [bad (.inl c1)]; simp [itemC, Sl.enc, nV, c1]
  simp at c1
  by_cases c2 : (x.names.l.length : Int) < 1
  · rw [bad (.inr (.inl (by omega)))]; simp [itemC, Sl.enc, nV, c1, c2]
  by_cases c3 : 3 < (x.names.l.length : Int)
  · rw [bad (.inr (.inr (.inl (by omega))))]; simp [itemC, Sl.enc, nV, c1, c2, c3]
  by_cases c4 : x.mode < 1
  · rw [bad (.inr (.inr (.inr (.inl c4))))]; simp [itemC, Sl.enc, nV, c1, c2, c3, c4]
  by_cases c5 : 3 < x.mode
  · rw [bad (.inr (.inr (.inr (.inr c5))))]; simp [itemC, Sl.enc, nV, c1, c2, c3, c4, c5]
  have hbad : ¬ (nameS x.var = false ∨ x.names.l.length < 1 ∨ 3 < x.names.l.length ∨ x.mode < 1 ∨ 3 < x.mode) := fun h => by
    rcases h with h | h | h | h | h
    · rw [c1] at h; cases h
    all_goals omega
  have stop : namesOk [] x.names.l = false → rightItem x first = false := fun h => by unfold rightItem; rw [if_neg hbad, if_pos h]
  simp [itemC, Sl.enc, nV, c1, c2, c3, c4, c5]
  have hin := rightItem_in x first
  simp only [itemC, Sl.enc] at hin
  refine LR_rule (WR_mono _) (fun j E H' => H' = (low0 H).add (.cells (itemC x)) ∧ ∃ p1 p2, x.names.l = p1 ++ p2 ∧ j = p2.length ∧ E 1 = bD first ∧ E 2 = .rf H.next 0 ∧ E 5 = i64D p1.length ∧ namesOk [] x.names.l = namesOk p1 p2) ?_ (j := x.names.l.length) ⟨by simp [itemC, Sl.enc], [], x.names.l, rfl, rfl, by simp, by simp, by simp, rfl⟩
  rintro j E H' ⟨rfl, p1, p2, hp, rfl, e1, e2, e5, hn⟩
  have hok := x.names.ok
  cases p2 with
  | nil =>
    simp at hp
    have hr : rightItem x first = (if first = true ∧ (x.not = true ∨ x.mode = 3) then false else !x.not || decide (x.mode = 1)) := by
      unfold rightItem
      rw [if_neg hbad, if_neg (by rw [hn]; simp [namesOk])]
    rw [hr]
    cases hx : x.not <;> cases first <;> simp [itemC, Sl.enc, e1, e2, e5, hx, hp]
    by_cases h3 : x.mode = 3 <;> simp [h3, e2]
  | cons s p2 =>
    have hlt : p1.length < x.names.l.length := by rw [hp]; simp
    have hlt' : ((p1.length : Int) < (x.names.l.length : Int)) = True := by simp; omega
    have hw := wrap_more hlt hok
    have ea := elem_at strC_len x.names.rep x.names.l .i64 p1.length s (by rw [hp]; simp)
    have nS := fun H => (ref08_Name_run s (x.okN s (by rw [hp]; simp)) H).cK
    simp [itemC, Sl.enc, e2, e5, hlt', ea]
    simp [strC, nS]
    refine gK_of (fun h => ?_) (fun h => ?_)
    · simp
      exact stop (by rw [hn]; simp at h; simp [namesOk, h])
    · simp at h
      simp [e5]
      refine hin p1 s p2 hp H _ (fun ha E e1 e2 e5 => ?_) (fun ha E e4 => ?_) _ (by simp [e1]) (by simp [e2]) (by simp [e5]) (by simp)
      · simp [e1, e2, e5, hw]
        refine ⟨p2.length, by omega, p1 ++ [s], p2, by simp [hp], rfl, by simp, ?_⟩
        rw [hn]
        simp only [namesOk, h, ha]
        simp
      · simp [e4]
        exact stop (by rw [hn]; simp only [namesOk, ha]; simp)
end Go.Proofs.YtlnkifnkamojnaaGreat.Tz
namespace Go.Proofs.YtlnkifnkamojnaaGreat.Tz
open Go.Aug Go.Aug.Api
set_option maxRecDepth 100000
theorem Right_in (q : TQuery) (pre : List TItem) (x : TItem) (suf : List TItem) (hl : q.items.l = pre ++ x :: suf) (H : Heap) (Q : PostX)
    (h1 : (pre.any fun p => decide (p.var = x.var)) = false → ∀ E, E 1 = .rf H.next 0 → E 3 = i64D pre.length → Q (.exit 2) E ((low0 H).add (.cells (queryC q))))
    (h2 : (pre.any fun p => decide (p.var = x.var)) = true → ∀ E, E 2 = bD false → Q .ret E ((low0 H).add (.cells (queryC q)))) (E : Fr) (e1 : E 1 = .rf H.next 0) (e3 : E 3 = i64D pre.length) (e4 : E 4 = i64D 0) :
    LR (WR 117 tab none F_q18.l12) E ((low0 H).add (.cells (queryC q))) Q := by
  refine LR_rule (WR_mono _) (fun j E H' => H' = (low0 H).add (.cells (queryC q)) ∧ ∃ p1 p2, pre = p1 ++ p2 ∧ j = p2.length ∧ E 1 = .rf H.next 0 ∧ E 3 = i64D pre.length ∧ E 4 = i64D p1.length ∧ (p1.any fun p => decide (p.var = x.var)) = false) ?_ (j := pre.length) ⟨rfl, [], pre, rfl, rfl, e1, e3, e4, rfl⟩
  rintro j E H' ⟨rfl, p1, p2, hp, rfl, e1, e3, e4, hn⟩
  have hok := q.items.ok
  cases p2 with
  | nil =>
    simp at hp
    subst hp
    simp [queryC, Sl.enc, e3, e4]
    simp [queryC, Sl.enc] at h1
    exact h1 (by simpa using hn) _ (by simp [e1]) (by simp [e3])
  | cons p p2 =>
    have hlt : p1.length < pre.length := by rw [hp]; simp
    have hlt' : ((p1.length : Int) < (pre.length : Int)) = True := by simp; omega
    have hw := wrap_more (a := p1.length) (n := q.items.l.length) (by rw [hl, hp]; simp) hok
    have ea := elem_at itemC_len q.items.rep q.items.l .i64 p1.length p (by rw [hl, hp]; simp)
    have eb := elem_at itemC_len q.items.rep q.items.l .i64 pre.length x (by rw [hl]; simp)
    simp [queryC, Sl.enc, e1, e3, e4, hlt', ea, eb]
    simp [itemC]
    refine gK_of (fun h => ?_) (fun h => ?_)
    · simp
      simp [-List.any_eq_true, queryC, Sl.enc] at h2
      simp at h
      exact h2 (by rw [List.any_eq_true]; exact ⟨p, by rw [hp]; simp, by simp [h]⟩) _ (by simp)
    · simp [e1, e3, e4, hw]
      exact ⟨p2.length, by omega, p1 ++ [p], p2, by simp [hp], rfl, by simp, fun y hy => by
        rcases List.mem_append.1 hy with hy | hy
        · have := List.any_eq_false.1 hn y hy; simpa using this
        · simp at hy; subst hy; simpa using h⟩
theorem Right_items (q : TQuery) (H : Heap) (Q : PostX)
    (h1 : itemsOk [] q.items.l = true → ∀ E, E 1 = .rf H.next 0 → Q (.exit 0) E ((low0 H).add (.cells (queryC q))))
    (h2 : itemsOk [] q.items.l = false → ∀ E, E 2 = bD false → Q .ret E ((low0 H).add (.cells (queryC q)))) (E : Fr) (e1 : E 1 = .rf H.next 0) (e3 : E 3 = i64D 0) :
    LR (WR 117 tab none F_q18.l14) E ((low0 H).add (.cells (queryC q))) Q := by
  have hin := Right_in q
  simp only [queryC, Sl.enc] at hin h1 h2 ⊢
  refine LR_rule (WR_mono _) (fun j E H' => H' = (low0 H).add (.cells (queryC q)) ∧ ∃ p1 p2, q.items.l = p1 ++ p2 ∧ j = p2.length ∧ E 1 = .rf H.next 0 ∧ E 3 = i64D p1.length ∧ itemsOk [] q.items.l = itemsOk p1 p2) ?_ (j := q.items.l.length) ⟨by simp [queryC, Sl.enc], [], q.items.l, rfl, rfl, e1, e3, rfl⟩
  rintro j E H' ⟨rfl, p1, p2, hp, rfl, e1, e3, hn⟩
  have hok := q.items.ok
  cases p2 with
  | nil =>
    simp at hp
    simp [queryC, Sl.enc, e1, e3, hp]
    rw [hp] at h1
    exact h1 (by rw [← hp, hn]; rfl) _ (by simp [e1])
  | cons x p2 =>
    have hlt : p1.length < q.items.l.length := by rw [hp]; simp
    have hlt' : ((p1.length : Int) < (q.items.l.length : Int)) = True := by simp; omega
    have hw := wrap_more hlt hok
    have ea := elem_at itemC_len q.items.rep q.items.l .i64 p1.length x (by rw [hp]; simp)
    have nS := fun b H => (ref08_rightItem_run x b H).cK
    have hemp : decide (p1 = []) = p1.isEmpty := by cases p1 <;> rfl
    simp [queryC, Sl.enc, e1, e3, hlt', ea, nS, load_elem _ _ _ _ (itemC_len x)]
    refine gK_of (fun h => ?_) (fun h => ?_)
    · simp at h
      rw [hemp] at h
      simp
      exact h2 (by rw [hn]; simp [itemsOk, h]) _ (by simp)
    · simp at h
      rw [hemp] at h
      simp [e3]
      refine hin p1 x p2 hp H _ (fun ha E e1 e3 => ?_) (fun ha E e2 => ?_) _ (by simp [e1]) (by simp [e3]) (by simp)
      · simp [e1, e3, hw]
        refine ⟨p2.length, by omega, p1 ++ [x], p2, by simp [hp], rfl, by simp, ?_⟩
        rw [hn]
        simp only [itemsOk, h, ha]
        simp
      · simp
        exact h2 (by rw [hn]; simp only [itemsOk, ha]; simp) _ e2
theorem Right_preds (q : TQuery) (H : Heap) (Q : PostX)
    (h1 : q.preds.l.all predOk = true → ∀ E H', E 1 = .rf H.next 0 → H'.get H.next = some (.cells (queryC q)) → H.next ≤ H'.low → H.next < H'.next → Q (.exit 4) E H')
    (h2 : q.preds.l.all predOk = false → ∀ E H', E 2 = bD false → H.next ≤ H'.low → H.next < H'.next → Q .ret E H') (E : Fr) (e1 : E 1 = .rf H.next 0) (e5 : E 5 = i64D 0) :
    LR (WR 117 tab none F_q18.l21) E ((low0 H).add (.cells (queryC q))) Q := by
  refine LR_rule (WR_mono _) (fun j E H' => ∃ p1 p2, q.preds.l = p1 ++ p2 ∧ j = p2.length ∧ E 1 = .rf H.next 0 ∧ E 5 = i64D p1.length ∧ p1.all predOk = true ∧ H'.get H.next = some (.cells (queryC q)) ∧ H.next ≤ H'.low ∧ H'.low ≤ H'.next ∧ H.next < H'.next) ?_ (j := q.preds.l.length) ⟨[], q.preds.l, rfl, rfl, e1, e5, rfl, by simp, by simp, by simp, by simp⟩
  rintro j E H' ⟨p1, p2, hp, rfl, e1, e5, hn, hg, hlo, hlw, hnx⟩
  have hok := q.preds.ok
  cases p2 with
  | nil =>
    simp at hp
    simp [hg, queryC, Sl.enc, e1, e5, hp]
    exact h1 (by rw [hp]; exact hn) _ _ (by simp [e1]) hg hlo hnx
  | cons x p2 =>
    have hlt : p1.length < q.preds.l.length := by rw [hp]; simp
    have hlt' : ((p1.length : Int) < (q.preds.l.length : Int)) = True := by simp; omega
    have hw := wrap_more hlt hok
    have ea := elem_at predC_len q.preds.rep q.preds.l .i64 p1.length x (by rw [hp]; simp)
    have nL := fun H => (ref08_RightExpr_run x.L x.okL 6 (by decide) H).cK
    have nR := fun H => (ref08_RightExpr_run x.R x.okR 6 (by decide) H).cK
    have hne : (H.next = H'.next) = False := by simp; omega
    have bad : predOk x = false → q.preds.l.all predOk = false := fun h => by rw [hp]; simp [h]
    simp [hg, queryC, Sl.enc, e1, e5, hlt', ea, load_elem _ _ _ _ (predC_len x), setAll_full, hlw]
    have stop : predOk x = false → ∀ (E' : Fr) (o : O), E' 2 = bD false → Q .ret E' (H'.add o) := fun h E' o e2 => h2 (bad h) _ _ e2 (by simpa using hlo) (by simp; omega)
    by_cases c1 : x.cmp < 1
    · simp [c1]
      exact stop (by simp [predOk]; omega) _ _ (by simp)
    by_cases c2 : 6 < x.cmp
    · simp [c1, c2]
      exact stop (by simp [predOk]; omega) _ _ (by simp)
    cases c3 : rightE 6 x.L
    · simp [c1, c2, nL, c3]
      exact stop (by simp [predOk, c3]) _ _ (by simp)
    cases c4 : rightE 6 x.R
    · simp [c1, c2, nL, c3, nR, c4]
      exact stop (by simp [predOk, c4]) _ _ (by simp)
    simp [c1, c2, nL, c3, nR, c4, e1, e5, hw]
    refine ⟨p2.length, by omega, p1 ++ [x], p2, by simp [hp], rfl, by simp, ?_, ?_, hlo, by omega, by omega⟩
    · have : predOk x = true := by simp [predOk, c3, c4]; omega
      intro y hy
      rcases List.mem_append.1 hy with hy | hy
      · exact List.all_eq_true.1 hn y hy
      · simp at hy; subst hy; exact this
    · simp [hne, hg]
      rfl
theorem ref08_Right_run (q : TQuery) (H : Heap) : Run tab (.fn n_q18) [.agg (queryC q)] H (bD (rightQ q)) H := by
  refine cK.run (cK_fn o_q18 t_q18 (Nat.le_of_ble_eq_true rfl) (by decide) ?_)
  have nB := fun H => (ref08_Name_run q.by_ q.okBy H).cK
  have bad : (q.items.l.length < 1 ∨ 6 < q.items.l.length ∨ 8 < q.preds.l.length) → rightQ q = false := fun h => by unfold rightQ; rw [if_pos h]
  by_cases c1 : (q.items.l.length : Int) < 1
  · rw [bad (.inl (by omega))]; simp [queryC, Sl.enc, c1]
  by_cases c2 : 6 < (q.items.l.length : Int)
  · rw [bad (.inr (.inl (by omega)))]; simp [queryC, Sl.enc, c1, c2]
  by_cases c3 : 8 < (q.preds.l.length : Int)
  · rw [bad (.inr (.inr (by omega)))]; simp [queryC, Sl.enc, c1, c2, c3]
  have hr : rightQ q = (itemsOk [] q.items.l && q.preds.l.all predOk && (decide (0 ≤ q.within) && decide (q.within ≤ maxNum) && (decide (q.by_ = emptyS) || nameS q.by_) && decide (1 ≤ q.pick) && decide (q.pick ≤ 3))) := by
    unfold rightQ
    rw [if_neg (by omega)]
  have hI := Right_items q
  have hP := Right_preds q
  simp only [queryC, Sl.enc] at hI hP
  simp [queryC, Sl.enc, c1, c2, c3]
  refine hI H _ (fun hi E e1 => ?_) (fun hi E e2 => ?_) _ (by simp) (by simp)
  · simp
    refine hP H _ (fun hp E H' e1 hg hlo hnx => ?_) (fun hp E H' e2 hlo hnx => ?_) _ (by simp [e1]) (by simp)
    · rw [hr, hi, hp]
      by_cases d1 : 0 ≤ q.within
      · by_cases d2 : q.within ≤ 1099511627776
        · by_cases d3 : q.by_ = ⟨#[]⟩
          · by_cases d4 : 1 ≤ q.pick <;> simp [hlo, e1, hg, emptyS, maxNum, d1, d2, d3, d4]
          · by_cases d5 : nameS q.by_ = true
            · by_cases d4 : 1 ≤ q.pick <;> simp [hlo, e1, hg, nB, emptyS, maxNum, d1, d2, d3, d4, d5]
            · simp at d5
              simp [hlo, e1, hg, nB, emptyS, maxNum, d1, d2, d3, d5]
        · simp [hlo, e1, hg, emptyS, maxNum, d1, d2]
      · simp [hlo, e1, hg, emptyS, maxNum, d1]
    · simp [-Bool.and_eq_true, hlo, e2, hr, hp]
  · simp [e2, hr, hi]
end Go.Proofs.YtlnkifnkamojnaaGreat.Tz
