/-
The walk of norm.Fold. Conditions: none.
-/
import Derived.Test.YthdkeggdipogoaaGreatDoorTPu
import Derived.Test.YthdkeggdipogoaaGreatDoorTWv
import Derived.Test.YthdkeggdipogoaaGreatDoorTWr
namespace Go.Proofs.YthdkeggdipogoaaGreatDoor.Tz
open Go.Aug Go.Aug.Api
set_option maxRecDepth 100000
theorem VE.enc_eq (v : TVal) (e : Int) : VE.enc (v, e) = .tup [.agg (valC v), i64D e] := rfl
theorem fold_fin {H H' : Heap} {r : Nat} {fz : Bool} (hz : fz = true) (hl : H.next ≤ H'.low) (hr : H.next ≤ r) (k : Int) (v : TVal) (var f : ByteArray) (a b : TExpr) (hg : H'.get r = some (.cells (exprC a ++ exprC b))) {R : D → Heap → Prop} (h : R (.agg (exprC (.mk k v var f (some (some 2)) [a, b]))) H) :
    finX fz H (.agg [i64D k, i64D v.kind, i64D v.n, strD v.s, strD var, strD f, .rs r 0 2 (some 2) 7]) H' R := by
  subst hz
  have hp : ∀ L : List D, D.under.underAll 0 L = true → frzL (frz H' H.next 62) L = some L := by
    intro L
    induction L with
    | nil => intro _; rfl
    | cons d L ih =>
      intro h
      simp only [under_cons, Bool.and_eq_true] at h
      exact frzL_two _ _ _ _ _ (frz_under0 H' H.next 61 d (under_zero _ _ h.1)) (ih h.2)
  have hpp : D.under.underAll 0 (exprC a ++ exprC b) = true := by simp [under_append]
  rw [finX_frozen (d' := .agg (exprC (.mk k v var f (some (some 2)) [a, b]))) hl ?_]
  · exact h
  · have h1 : ¬ r < H.next := by omega
    have hlen : (exprC a ++ exprC b).length = 14 := by simp
    have hrs : frz H' H.next 63 (.rs r 0 2 (some 2) 7) = some (.sl 2 (exprC a ++ exprC b) (some 2)) := by
      rw [frz_rs, if_neg h1, hg]
      simp only [hlen]
      rw [if_pos (by omega), List.drop_zero, List.take_of_length_le (by omega), hp _ hpp]
      rfl
    rw [frz_agg, if_neg (by simp [under_cons, D.under, h1]), exprC_mk]
    simp only [frzL_cons, frzL_nil, frz_v, hrs]
    simp
theorem norm_Fold_run : ∀ (x : TExpr) (_hx : okE x) (H : Heap), Run tab (.fn n_q75) [.agg (exprC x)] H (.agg (exprC (foldX x))) H
  | .mk k v var f rep kids, hx, H => by
    have ih : ∀ x ∈ kids, ∀ (H : Heap), Run tab (.fn n_q75) [.agg (exprC x)] H (.agg (exprC (foldX x))) H := fun x hmem H => norm_Fold_run x (okEs_mem hx.2.1 hmem) H
    refine cK.run (cK_fn o_q75 t_q75 (Nat.le_of_ble_eq_true rfl) (by decide) ?_)
    by_cases k7 : k = 7 ∨ k = 8
    · by_cases b4 : kids.length = 2
      · obtain ⟨a, b, rfl⟩ : ∃ a b, kids = [a, b] := by
          match kids, b4 with
          | [a, b], _ => exact ⟨a, b, rfl⟩
        have hA := fun H => (ih a (by simp) H).cK
        have hB := fun H => (ih b (by simp) H).cK
        have e0 := elem_at exprC_len rep [a, b] .i64 0 a rfl
        have e1' := elem_at exprC_len rep [a, b] .i64 1 b rfl
        simp at e0 e1'
        have nAdd := fun k n s k' n' s' H => (value_Add_run k n s k' n' s' H).cK
        have nSub := fun k n s k' n' s' H => (value_Sub_run k n s k' n' s' H).cK
        rw [foldX_two k7, exprC_mk]
        generalize foldX a = a' at *
        generalize foldX b = b' at *
        obtain ⟨ka, ⟨va, na, sa⟩, xa, fa, ra, da⟩ := a'
        obtain ⟨kb, ⟨vb, nb, sb⟩, xb, fb, rb, db⟩ := b'
        simp only [exprC_mk] at hA hB
        unfold foldedTwo
        simp only [TExpr.kind, TExpr.val]
        rcases k7 with rfl | rfl
        · simp [e0, e1', load_elem _ _ _ _ (exprC_len a), load_elem _ _ _ _ (exprC_len b), hA, hB]
          by_cases c1 : ka = 1
          · by_cases c2 : kb = 1
            · simp [c1, c2, nAdd, reckV]
              generalize addV ⟨va, na, sa⟩ ⟨vb, nb, sb⟩ = r
              obtain ⟨r, e⟩ := r
              by_cases c3 : e = 0
              · simp [c3, VE.enc_eq, valE, exprC_mk, valC]
                rfl
              · simp [c3, VE.enc_eq]
                refine fold_fin z_q75 ?_ (by omega) 7 v var f _ _ ?_ ⟨rfl, rfl⟩ <;> simp [exprC_mk]
            · simp [c1, c2]
              refine fold_fin z_q75 ?_ (by omega) 7 v var f _ _ ?_ ⟨rfl, rfl⟩ <;> simp [exprC_mk]
          · simp [c1]
            refine fold_fin z_q75 ?_ (by omega) 7 v var f _ _ ?_ ⟨rfl, rfl⟩ <;> simp [exprC_mk]
        · simp [e0, e1', load_elem _ _ _ _ (exprC_len a), load_elem _ _ _ _ (exprC_len b), hA, hB]
          by_cases c1 : ka = 1
          · by_cases c2 : kb = 1
            · simp [c1, c2, nSub, reckV]
              generalize subV ⟨va, na, sa⟩ ⟨vb, nb, sb⟩ = r
              obtain ⟨r, e⟩ := r
              by_cases c3 : e = 0
              · simp [c3, VE.enc_eq, valE, exprC_mk, valC]
                rfl
              · simp [c3, VE.enc_eq]
                refine fold_fin z_q75 ?_ (by omega) 8 v var f _ _ ?_ ⟨rfl, rfl⟩ <;> simp [exprC_mk]
            · simp [c1, c2]
              refine fold_fin z_q75 ?_ (by omega) 8 v var f _ _ ?_ ⟨rfl, rfl⟩ <;> simp [exprC_mk]
          · simp [c1]
            refine fold_fin z_q75 ?_ (by omega) 8 v var f _ _ ?_ ⟨rfl, rfl⟩ <;> simp [exprC_mk]
      · have b4' : ¬ (kids.length : Int) = 2 := by omega
        rw [foldX_not b4, exprC_mk]
        rcases k7 with rfl | rfl <;> simp [b4']
    · rw [foldX_other k7, exprC_mk]
      have h7 : k ≠ 7 := fun h => k7 (.inl h)
      have h8 : k ≠ 8 := fun h => k7 (.inr h)
      simp [h7, h8]
end Go.Proofs.YthdkeggdipogoaaGreatDoor.Tz

namespace Go.Proofs.YthdkeggdipogoaaGreatDoor.Tz
open Go.Aug Go.Aug.Api
set_option maxRecDepth 100000
def normFns : List Nat := [n_q102, n_q75, n_q78, n_q0, n_q23]
noncomputable def orcsN (f : Nat) : Option (List D → Heap → Option (D × Heap)) := cond (Nat.beq f n_q99) (some orcPrintN) (cond (isLaw f normFns) (some (pureOrc2 (runSpec tab f))) (orcs f))
noncomputable def tabN : Tab := ⟨findF rows, frozen, orcsN⟩
theorem orcsN_ok (f : Nat) (g : List D → Heap → Option (D × Heap)) (h : orcsN f = some g) : OrcOk Tryz.prog f g := by
  unfold orcsN at h
  cases hk : Nat.beq f n_q99 with
  | true =>
    rw [hk] at h
    simp only [cond_true, Option.some.injEq] at h
    rw [← h, Nat.eq_of_beq_eq_true hk]
    exact printN
  | false =>
    rw [hk] at h
    simp only [cond_false] at h
    cases hk : isLaw f normFns with
    | true =>
      rw [hk] at h
      simp only [cond_true, Option.some.injEq] at h
      rw [← h]
      exact runSpec_orc tab_ok _
    | false => rw [hk] at h; exact orcs_ok f g h
theorem tabN_ok : TabOk Tryz.prog tabN := tab_ok' _ _ orcsN_ok
theorem oN_Right : tabN.orc n_q102 = some (pureOrc2 (runSpec tab n_q102)) := by kernel_rfl
theorem oN_Fold : tabN.orc n_q75 = some (pureOrc2 (runSpec tab n_q75)) := by kernel_rfl
theorem oN_Place : tabN.orc n_q78 = some (pureOrc2 (runSpec tab n_q78)) := by kernel_rfl
theorem oN_Print : tabN.orc n_q99 = some orcPrintN := by kernel_rfl
theorem tN {f : Nat} {fi : FI} (h : tab.fn f = some fi) : tabN.fn f = some fi := h
theorem runN {f : FuncId} {args : List D} {d : D} (ho : tabN.orc f = some (pureOrc2 (runSpec tab f))) (hu : D.under.underAll 0 args = true) (hd : Run tab (.fn f) args H0 d H0) (H : Heap) : Run tabN (.fn f) args H d H := cK.run (cK_pure ho hu hd ⟨rfl, rfl⟩)
def joinI (q : TQuery) : ByteArray := ⟨(joinB (q.items.l.map itemW) thenB).toArray⟩
def textS (q : TQuery) (p : TPred) : ByteArray := textP (joinI q) (predS p) q.within q.by_ q.pick
def oneQ (q : TQuery) (p : TPred) : TQuery := { q with preds := ⟨some (some 1), [p], Nat.le_of_ble_eq_true rfl⟩ }
theorem items_right {l pre : List TItem} (h : itemsOk pre l = true) : ∀ x ∈ l, ∃ b, rightItem x b = true := by
  induction l generalizing pre with
  | nil => intro x hx; simp at hx
  | cons a l ih =>
    simp only [itemsOk, Bool.and_eq_true] at h
    intro x hx
    rcases List.mem_cons.1 hx with rfl | hx
    · exact ⟨_, h.1.1⟩
    · exact ih h.2 x hx
theorem right_parts {q : TQuery} (h : rightP q = true) : itemsOk [] q.items.l = true ∧ q.preds.l.all predX = true ∧ q.items.l.length ≠ 0 ∧ q.items.l.length ≤ 6 ∧ q.preds.l.length ≤ 8 ∧ 0 ≤ q.within ∧ q.within ≤ maxNum ∧ 1 ≤ q.pick ∧ q.pick ≤ 3 ∧ (q.by_ = emptyS ∨ nameS q.by_ = true) := by
  unfold rightP at h
  simp only [Bool.and_eq_true, Bool.not_eq_true', Bool.or_eq_false_iff, Bool.or_eq_true, decide_eq_true_eq, decide_eq_false_iff_not] at h
  obtain ⟨⟨⟨⟨h1, h2⟩, ⟨h3, h4⟩, h5⟩, ⟨⟨h6, h7⟩, h8⟩, h9⟩, h10⟩ := h
  exact ⟨h1, h2, h3, by omega, by omega, by omega, by omega, by omega, by omega, h10⟩
theorem right_of {q q' : TQuery} (h : rightP q = true) (h1 : q'.items = q.items) (h2 : q'.within = q.within) (h3 : q'.by_ = q.by_) (h4 : q'.pick = q.pick) (h5 : q'.preds.l.all predX = true) (h6 : q'.preds.l.length ≤ 8) : rightP q' = true := by
  obtain ⟨a1, a2, a3, a4, a5, a6, a7, a8, a9, a10⟩ := right_parts h
  unfold rightP
  rw [h1, h2, h3, h4, a1, h5]
  have e : decide (8 < q'.preds.l.length) = false := by simp; omega
  have e1 : decide (q.items.l.length = 0) = false := by simpa using a3
  have e2 : decide (6 < q.items.l.length) = false := by simp; omega
  have e3 : decide (q.within < 0) = false := by simp; omega
  have e4 : decide (maxNum < q.within) = false := by simp; omega
  have e5 : decide (q.pick < 1) = false := by simp; omega
  have e6 : decide (3 < q.pick) = false := by simp; omega
  rw [e, e1, e2, e3, e4, e5, e6]
  rcases a10 with h | h
  · simp [h]
  · simp [h]
theorem right_one {q : TQuery} {p : TPred} (h : rightP q = true) (hp : predX p = true) : rightP (oneQ q p) = true :=
  right_of h rfl rfl rfl rfl (by simp [oneQ, hp]) (by simp [oneQ])
theorem printSpec_eq {q : TQuery} {p : TPred} (h : rightP q = true) (hp : predX p = true) : printSpec (.agg (queryC (oneQ q p))) = some (textS q p) := by
  obtain ⟨a1, a2, a3, a4, a5, a6, a7, a8, a9, a10⟩ := right_parts h
  have r1 : Run tab (.fn n_q102) [.agg (queryC (oneQ q p))] H0 (bD true) H0 := by
    have := tree_Right_run (oneQ q p) H0
    rw [right_one h hp] at this
    exact this
  have r2 := joined_Item_run q.items a4 (items_right a1) H0
  have r3 := joined_Pred_run p hp H0
  have e1 := runSpec_eq r1
  have e2 := runSpec_eq r2
  have e3 := runSpec_eq r3
  have hq : queryC (oneQ q p) = [q.items.enc itemC, .sl 1 (predC p) (some 1), .v (.int .i64 q.within), .v (.string q.by_), .v (.int .i64 q.pick)] := by
    simp [queryC, oneQ, Sl.enc]
  rw [hq] at e1 ⊢
  unfold printSpec
  have hm : maxNum = 1099511627776 := rfl
  have hs1 : (joinI q).size ≤ 1000000 := by
    have hsz : ∀ x ∈ q.items.l.map itemW, x.size ≤ 82 := fun x hx => by
      obtain ⟨y, hy, rfl⟩ := List.mem_map.1 hx
      obtain ⟨b, hb⟩ := items_right a1 y hy
      exact (item_sizes hb).2.2
    have hj := join_size (q.items.l.map itemW) thenB 82 hsz
    have h6 : thenB.size = 6 := rfl
    rw [h6, List.length_map] at hj
    show (joinB (q.items.l.map itemW) thenB).toArray.size ≤ _
    simp
    omega
  have hs2 := pred_size hp
  have hs3 : q.by_.size ≤ 1000000 := by
    rcases a10 with h | h
    · rw [h]; exact Nat.zero_le _
    · have := name_size h; omega
  have e1' : runSpec tab n_q102 [.agg [q.items.enc itemC, .sl 1 (predC p) (some 1), .v (.int .i64 q.within), .v (.string q.by_), .v (.int .i64 q.pick)]] = some (.v (.bool true)) := e1
  have e2' : runSpec tab n_q106 [q.items.enc itemC, sB thenB, .fn (.func n_q100) [] []] = some (.v (.string (joinI q))) := e2
  have e3' : runSpec tab n_q107 [.sl 1 (predC p) (some 1), sB andB, .fn (.func n_q101) [] []] = some (.v (.string (predS p))) := e3
  simp only [e1', e2', e3']
  rw [if_pos ⟨hs1, by omega, hs3, by omega, by omega, a8, a9⟩]
  rfl
theorem cK_print {q : TQuery} {p : TPred} (h : rightP q = true) (hp : predX p = true) {args : List D} {H : Heap} {R : D → Heap → Prop} (ha : frzL (frz2 H 0 64) args = some [.agg (queryC (oneQ q p))]) (hR : R (strD (textS q p)) H) : cK tabN (.fn n_q99) args H R := by
  refine cK_orc oN_Print ⟨(strD (textS q p), H), ?_, hR⟩
  unfold orcPrintN
  rw [ha]
  simp only [printSpec_eq h hp, Option.map_some]
theorem eachV_len : ∀ (x : TExpr) (n : Nat), rightX n x = true → (eachV x).length ≤ 2 ^ n
  | .mk k v var f rep kids, n, h => by
    have ih : ∀ x ∈ kids, ∀ n : Nat, rightX n x = true → (eachV x).length ≤ 2 ^ n := fun x hm n h => eachV_len x n h
    have hp : 1 ≤ 2 ^ n := Nat.one_le_two_pow
    unfold eachV
    by_cases k2 : 2 ≤ k ∧ k ≤ 6
    · rw [if_pos k2]; simpa using hp
    · rw [if_neg k2]
      by_cases k7 : k = 7 ∨ k = 8
      · rw [if_pos k7]
        unfold rightX at h
        by_cases m0 : (n : Int) = 0
        · rw [if_pos m0] at h; cases h
        obtain ⟨m, rfl⟩ : ∃ m, n = m + 1 := ⟨n - 1, by omega⟩
        have k1 : ¬ k = 1 := by omega
        have k3 : ¬ k = 3 := by omega
        rw [if_neg m0, if_neg k1, if_neg k3, if_neg k2, if_pos k7] at h
        simp only [Bool.and_eq_true] at h
        have h := h.2
        match kids, ih, h with
        | [a, b], ih, h =>
          simp only [rightTwoX, Bool.and_eq_true] at h
          have hm : ((m + 1 : Nat) : Int) - 1 = (m : Nat) := by omega
          rw [hm] at h
          have ha := ih a (by simp) m h.1
          have hb := ih b (by simp) m h.2
          simp only [eachVs, List.append_nil, List.length_append]
          rw [Nat.pow_succ]
          omega
        | [], _, h => cases h
        | [_], _, h => cases h
        | _ :: _ :: _ :: _, _, h => cases h
      · rw [if_neg k7]; simp
theorem place_run {q : TQuery} {p : TPred} (hp : predX p = true) (H : Heap) : Run tab (.fn n_q78) [.agg (queryC q), .agg (predC p)] H (i64D (placeN q.items.l p)) H := by
  unfold predX at hp
  simp only [Bool.and_eq_true] at hp
  have h1 := eachV_len p.L 6 hp.1.2
  have h2 := eachV_len p.R 6 hp.2
  exact norm_Place_run q p H (by omega) (by omega)
end Go.Proofs.YthdkeggdipogoaaGreatDoor.Tz

namespace Go.Proofs.YthdkeggdipogoaaGreatDoor.Tz
open Go.Aug Go.Aug.Api
set_option maxRecDepth 100000
theorem oN_key : tabN.orc n_q79 = none := by kernel_rfl
def predR (c : Int) (a b : TExpr) : List D := i64D c :: (exprC a ++ exprC b)
theorem predC_R (p : TPred) : predC p = predR p.cmp p.L p.R := rfl
@[simp] theorem predR_len (c : Int) (a b : TExpr) : (predR c a b).length = 15 := by simp [predR]
@[simp] theorem predR_take (c : Int) (a b : TExpr) : (predR c a b).take 15 = predR c a b := List.take_of_length_le (by simp)
@[simp] theorem predR_0 (c : Int) (a b : TExpr) : (predR c a b)[0]? = some (i64D c) := rfl
@[simp] theorem predR_0' (c : Int) (a b : TExpr) (h : 0 < (predR c a b).length) : (predR c a b)[0] = i64D c := rfl
@[simp] theorem predR_L (c : Int) (a b : TExpr) : ((predR c a b).drop 1).take 7 = exprC a := by
  show (exprC a ++ exprC b).take 7 = _
  exact List.take_left' (exprC_len a)
@[simp] theorem predR_L' (c : Int) (a b : TExpr) : (predR c a b).tail.take 7 = exprC a := predR_L c a b
@[simp] theorem predR_R (c : Int) (a b : TExpr) : ((predR c a b).drop 8).take 7 = exprC b := by
  show ((exprC a ++ exprC b).drop 7).take 7 = _
  rw [List.drop_left' (exprC_len a)]
  exact List.take_of_length_le (by rw [exprC_len]; exact Nat.le_refl _)
theorem setAll_mid' : ∀ (c z pre suf : List D), c.length = z.length → setAll (pre ++ (z ++ suf)) pre.length c = pre ++ (c ++ suf)
  | [], [], pre, suf, _ => by simp [setAll]
  | d :: c, y :: z, pre, suf, h => by
    have e : (pre ++ (y :: z ++ suf)).set pre.length d = (pre ++ [d]) ++ (z ++ suf) := by simp
    have e2 : pre.length + 1 = (pre ++ [d]).length := by simp
    rw [setAll, e, e2, setAll_mid' c z (pre ++ [d]) suf (by simpa using h)]
    simp
@[simp] theorem predR_setL (c : Int) (a b x : TExpr) : setAll (predR c a b) 1 (exprC x) = predR c x b := setAll_mid' (exprC x) (exprC a) [i64D c] (exprC b) (by simp)
@[simp] theorem predR_setR (c : Int) (a b x : TExpr) : setAll (predR c a b) 8 (exprC x) = predR c a x := by
  have := setAll_mid' (exprC x) (exprC b) (i64D c :: exprC a) [] (by simp)
  simpa [predR] using this
@[simp] theorem predR_pure (c : Int) (a b : TExpr) : D.under.underAll 0 (predR c a b) = true := by simp [predR, under_cons, under_append, under_v]
theorem predR_full (z : List D) (c : Int) (a b : TExpr) (h : z.length = 15) : setAll z 0 (predR c a b) = predR c a b := setAll_full z _ (by simp [h])
theorem predR_build (z : List D) (c : Int) (a b : TExpr) (h : z.length = 15) : setAll (setAll (setAll z 0 [i64D c]) 1 (exprC a)) 8 (exprC b) = predR c a b := by
  obtain ⟨z0, z, rfl⟩ : ∃ z0 t, z = z0 :: t := by
    cases z with
    | nil => simp at h
    | cons x t => exact ⟨x, t, rfl⟩
  have hz : z = z.take 7 ++ z.drop 7 := (List.take_append_drop 7 z).symm
  simp at h
  have e0 : setAll (z0 :: z) 0 [i64D c] = i64D c :: (z.take 7 ++ (z.drop 7 ++ [])) := by simp [setAll]
  rw [e0]
  have e1 := setAll_mid' (exprC a) (z.take 7) [i64D c] (z.drop 7 ++ []) (by simp; omega)
  simp only [List.length_cons, List.length_nil, Nat.zero_add, List.singleton_append] at e1
  rw [e1]
  have e2 := setAll_mid' (exprC b) (z.drop 7) (i64D c :: exprC a) [] (by simp; omega)
  simpa [predR] using e2
theorem predR_build2 (z : List D) (c : Int) (a b : TExpr) (h : z.length = 14) : setAll (setAll (i64D c :: z) 1 (exprC a)) 8 (exprC b) = predR c a b := by
  have := predR_build (i64D c :: z) c a b (by simp [h])
  simpa [setAll] using this
theorem setAll_len : ∀ (c z : List D) (off : Nat), (setAll z off c).length = z.length
  | [], z, off => rfl
  | d :: c, z, off => by rw [setAll, setAll_len c]; simp
theorem keyed_build (z : List D) (k : TKeyed) (h : z.length = 17) : setAll (setAll (setAll z 0 (predR k.pred.cmp k.pred.L k.pred.R)) 15 [i64D k.place]) 16 [strD k.text] = keyedC k := by
  have hz : z = [] ++ (z.take 15 ++ z.drop 15) := by simp
  have e0 := setAll_mid' (predR k.pred.cmp k.pred.L k.pred.R) (z.take 15) [] (z.drop 15) (by simp; omega)
  rw [← hz] at e0
  simp only [List.length_nil, List.nil_append] at e0
  rw [e0]
  obtain ⟨x, y, hxy⟩ : ∃ x y, z.drop 15 = [x, y] := by
    have hl : (z.drop 15).length = 2 := by simp; omega
    match z.drop 15, hl with
    | [x, y], _ => exact ⟨x, y, rfl⟩
  rw [hxy]
  have e1 := setAll_mid' [i64D k.place] [x] (predR k.pred.cmp k.pred.L k.pred.R) [y] rfl
  rw [predR_len] at e1
  have e2 := setAll_mid' [strD k.text] [y] (predR k.pred.cmp k.pred.L k.pred.R ++ [i64D k.place]) [] rfl
  rw [List.length_append, predR_len] at e2
  simp only [List.singleton_append] at e1
  rw [e1]
  simp [keyedC, predC_R]
theorem frz_one (q : TQuery) (p : TPred) {H : Heap} {r : Nat} (h : H.get r = some (.cells (predC p))) : frz2 H 0 64 (.agg [slD q.items.rep q.items.l.length (q.items.l.flatMap itemC), .rs r 0 1 (some 1) 15, i64D q.within, strD q.by_, i64D q.pick]) = some (.agg (queryC (oneQ q p))) := by
  have hq : queryC (oneQ q p) = [slD q.items.rep q.items.l.length (q.items.l.flatMap itemC), .sl 1 (predC p) (some 1), i64D q.within, strD q.by_, i64D q.pick] := by
    simp [queryC, oneQ, Sl.enc]
  rw [hq, frz2_agg _ _ _ (by simp [D.under])]
  have e0 := frz2_under H 0 62 (slD q.items.rep q.items.l.length (q.items.l.flatMap itemC)) (by simp)
  have e1 := frz2_row H 61 r 1 (some 1) 15 _ h (by simp) (by simp)
  simp only [frzL_cons, frzL_nil, e0, e1, frz2_under _ _ _ _ (rfl : (i64D _).under 0 = true), frz2_under _ _ _ _ (rfl : (strD _).under 0 = true)]
  rfl
theorem key_place {q : TQuery} {p : TPred} (hp : predX p = true) {H : Heap} {r : Nat} (h : H.get r = some (.cells (predC p))) (R : D → Heap → Prop) :
    cK tabN (.fn n_q78) [.agg [slD q.items.rep q.items.l.length (q.items.l.flatMap itemC), .rs r 0 1 (some 1) 15, i64D q.within, strD q.by_, i64D q.pick], .agg (predC p)] H R = R (i64D (placeN q.items.l p)) H := by
  refine (cK.run (cK_frozen (args' := [.agg (queryC (oneQ q p)), .agg (predC p)]) oN_Place (by simp [D.under]) ?_ (place_run (q := oneQ q p) hp H0) rfl ⟨rfl, rfl⟩)).cK R
  exact frzL_two _ _ _ _ _ (frz_one q p h) (frzL_two _ _ _ _ _ (frz2_under _ _ _ _ (by simp)) (frzL_none _))
theorem key_print {q : TQuery} {p : TPred} (hq : rightP q = true) (hp : predX p = true) {H : Heap} {r : Nat} (h : H.get r = some (.cells (predC p))) (R : D → Heap → Prop) :
    cK tabN (.fn n_q99) [.agg [slD q.items.rep q.items.l.length (q.items.l.flatMap itemC), .rs r 0 1 (some 1) 15, i64D q.within, strD q.by_, i64D q.pick]] H R = R (strD (textS q p)) H := by
  refine (cK.run (cK_print hq hp ?_ ⟨rfl, rfl⟩)).cK R
  exact frzL_two _ _ _ _ _ (frz_one q p h) (frzL_none _)
theorem keyed_build2 (z : List D) (k : TKeyed) (h : z.length = 17) : setAll (setAll (setAll z 0 (predR k.pred.cmp k.pred.L k.pred.R)) 15 [i64D k.place]) 16 [strD k.text] = keyedC k := keyed_build z k h
theorem keyed_set (z : List D) (k : TKeyed) (h : z.length = 17) : setAll z 0 (keyedC k) = keyedC k := setAll_full z _ (by rw [keyedC_len, h])
def qC (q : TQuery) (d : D) : List D := [q.items.enc itemC, d, i64D q.within, strD q.by_, i64D q.pick]
theorem norm_key_run (q : TQuery) (d : D) (p : TPred) (hq : rightP q = true) (hp : predX p = true) (H : Heap) : Run tabN (.fn n_q79) [.agg (qC q d), .agg (predC p)] H (.agg (keyedC (keyN q.items.l (textS q) p))) H := by
  refine cK.run (cK_fn oN_key (tN t_q79) (Nat.le_of_ble_eq_true rfl) (by decide) ?_)
  have hF := fun x hx H => (runN oN_Fold (by simp) (norm_Fold_run x hx H0) H).cK
  have hL := fun H => hF p.L p.okL H
  have hR := fun H => hF p.R p.okR H
  have hn := (predX_norm hp).1
  have hK := fun (H1 : Heap) (r : Nat) h R => key_place (q := q) hn (H := H1) (r := r) h R
  have hT := fun (H1 : Heap) (r : Nat) h R => key_print hq hn (H := H1) (r := r) h R
  have hB := fun z h => keyed_build2 z (keyN q.items.l (textS q) p) h
  generalize hk : keyN q.items.l (textS q) p = k at hB ⊢
  have k1 : k.place = placeN q.items.l (normP p) := by rw [← hk]; rfl
  have k2 : k.text = textS q (normP p) := by rw [← hk]; rfl
  have k3 : k.pred = normP p := by rw [← hk]; rfl
  rw [k1, k2, k3] at hB
  simp only [predC_R] at hK hT
  have hset := fun z h => keyed_set z k h
  have htk : (keyedC k).take 17 = keyedC k := List.take_of_length_le (by rw [keyedC_len]; exact Nat.le_refl _)
  have hpu : D.under.underAll 0 (keyedC k) = true := keyedC_pure k
  have hB : ∀ z : List D, z.length = 17 → ((setAll z 0 (predR (normP p).cmp (normP p).L (normP p).R)).set 15 (i64D (placeN q.items.l (normP p)))).set 16 (strD (textS q (normP p))) = keyedC k := fun z h => by simpa [setAll] using hB z h
  rw [predC_R]
  simp [qC, Sl.enc, hL, hR]
  by_cases h5 : 5 ≤ p.cmp
  · have hw : IntKind.i64.wrap (p.cmp - 2) = p.cmp - 2 := by
      unfold predX at hp
      simp only [Bool.and_eq_true, decide_eq_true_eq] at hp
      exact wrap64 (by omega) (by omega)
    have n1 : (normP p).cmp = p.cmp - 2 := by unfold normP; rw [if_pos h5]
    have n2 : (normP p).L = foldX p.R := by unfold normP; rw [if_pos h5]
    have n3 : (normP p).R = foldX p.L := by unfold normP; rw [if_pos h5]
    rw [n1, n2, n3] at hK hT hB
    simp [h5, hw, setAll_len, predR_build2, predR_full, hK, hT, keyedC_len, hB, hset, htk, hpu]
  · have n1 : (normP p).cmp = p.cmp := by unfold normP; rw [if_neg h5]
    have n2 : (normP p).L = foldX p.L := by unfold normP; rw [if_neg h5]
    have n3 : (normP p).R = foldX p.R := by unfold normP; rw [if_neg h5]
    rw [n1, n2, n3] at hK hT hB
    simp [h5, setAll_len, predR_full, hK, hT, keyedC_len, hB, hset, htk, hpu]
end Go.Proofs.YthdkeggdipogoaaGreatDoor.Tz

namespace Go.Proofs.YthdkeggdipogoaaGreatDoor.Tz
open Go.Aug Go.Aug.Api
set_option maxRecDepth 100000
def cmpN (a b : Int) : Int := if a < b then -1 else if b < a then 1 else 0
def cmpT (a b : ByteArray) : Int := if Op.bytesLess a.toList b.toList = true then -1 else if Op.bytesLess b.toList a.toList = true then 1 else 0
theorem bin_lssT (a b : ByteArray) : evBin .lss (strD a) (strD b) = some (bD (Op.bytesLess a.toList b.toList)) := rfl
theorem toList_beq (a b : ByteArray) : (a.toList == b.toList) = decide (a = b) := by
  by_cases h : a = b
  · simp [h]
  · have : ¬ a.toList = b.toList := fun e => h ((toList_inj a b).1 e)
    simp [h, this]
theorem less_self : ∀ a : List UInt8, Op.bytesLess a a = false
  | [] => rfl
  | x :: a => by simp [Op.bytesLess, less_self a]
theorem bin_gtrT (a b : ByteArray) : evBin .gtr (strD a) (strD b) = some (bD (Op.bytesLess b.toList a.toList)) := by
  have : (!(Op.bytesLess a.toList b.toList || a.toList == b.toList)) = Op.bytesLess b.toList a.toList := by
    cases h : Op.bytesLess a.toList b.toList with
    | true => simp [less_asym _ _ h]
    | false =>
      rw [toList_beq]
      by_cases e : a = b
      · subst e; simp [less_self]
      · simp [e]
        cases h2 : Op.bytesLess b.toList a.toList with
        | true => rfl
        | false => exact absurd ((toList_inj a b).1 (less_eq _ _ h h2)) e
  simp only [evBin, binStr, Option.map_some, this]
def cmpK (a b : TKeyed) : Int := if cmpN a.place b.place = 0 then cmpT a.text b.text else cmpN a.place b.place
theorem cmpK_lt (a b : TKeyed) : decide (cmpK a b < 0) = ltK a b := by
  unfold cmpK cmpN cmpT ltK
  rcases Int.lt_trichotomy a.place b.place with h | h | h
  · simp [h]
  · simp [h]
    cases c1 : Op.bytesLess a.text.toList b.text.toList <;> simp
    cases c2 : Op.bytesLess b.text.toList a.text.toList <;> simp
  · have h1 : ¬ a.place < b.place := by omega
    have h2 : ¬ a.place = b.place := by omega
    simp [h, h1, h2]
theorem keyed_15 (k : TKeyed) : (keyedC k)[15]? = some (i64D k.place) := by
  unfold keyedC
  rw [List.getElem?_append_right (by simp)]
  simp
theorem keyed_16 (k : TKeyed) : (keyedC k)[16]? = some (strD k.text) := by
  unfold keyedC
  rw [List.getElem?_append_right (by simp)]
  simp
def SortPost (H : Heap) (r : Nat) (L : List D) (_d : D) (H' : Heap) : Prop :=
  H'.next = H.next ∧ H'.get r = some (.cells L) ∧ (∀ k, k ≠ r → H'.get k = H.get k) ∧ ((H'.low = H.low ∧ H'.get r = H.get r) ∨ H'.low = if H.low < r then H.low else r)
theorem SortPost.fin {H H' : Heap} {r : Nat} {L : List D} {d : D} {fz : Bool} (hr : r < H.next) (p : SortPost (low0 H) r L d H') : finX fz H (.tup []) H' (SortPost H r L) := by
  obtain ⟨p1, p2, p3, p4⟩ := p
  simp at p1 p3 p4
  rcases p4 with ⟨p4, p5⟩ | p4
  · rw [finX_data (by omega) rfl]
    exact ⟨rfl, by rw [← p5]; exact p2, fun _ _ => rfl, .inl ⟨rfl, rfl⟩⟩
  · have hn : ¬ H.next < r := by omega
    simp [hn] at p4
    rw [finX_loud (by omega)]
    exact ⟨by simpa using p1, by simpa using p2, fun k hk => by simpa using p3 k hk, .inr (by simp [p4])⟩
theorem setAll_mid : ∀ (c z pre suf : List D), c.length = z.length → setAll (pre ++ (z ++ suf)) pre.length c = pre ++ (c ++ suf)
  | [], [], pre, suf, _ => by simp [setAll]
  | d :: c, y :: z, pre, suf, h => by
    have e : (pre ++ (y :: z ++ suf)).set pre.length d = (pre ++ [d]) ++ (z ++ suf) := by simp
    have e2 : pre.length + 1 = (pre ++ [d]).length := by simp
    rw [setAll, e, e2, setAll_mid c z (pre ++ [d]) suf (by simpa using h)]
    simp
theorem rows_load {rows pre suf : List TKeyed} {x : TKeyed} (h : rows = pre ++ x :: suf) {H : Heap} {r : Nat} (hg : H.get r = some (.cells (rows.flatMap keyedC))) : evLoad H (some 17) (.rf r (pre.length * 17)) = some (.agg (keyedC x)) := by
  subst h
  have hd := drop_zip keyedC_len pre (x :: suf)
  simp only [evLoad, cellsAt, hg, hd, pickL]
  simp [keyedC_len]
theorem rows_store {rows pre suf : List TKeyed} {x : TKeyed} (h : rows = pre ++ x :: suf) (y : TKeyed) {H : Heap} {r : Nat} (hg : H.get r = some (.cells (rows.flatMap keyedC))) : evStore H 17 (.rf r (pre.length * 17)) (.agg (keyedC y)) = some (H.set r (.cells ((pre ++ y :: suf).flatMap keyedC))) := by
  subst h
  have hl := flatMap_length keyedC_len pre
  have := setAll_mid (keyedC y) (keyedC x) (pre.flatMap keyedC) (suf.flatMap keyedC) (by rw [keyedC_len, keyedC_len])
  rw [hl] at this
  have hle : pre.length * 17 + 17 ≤ (pre ++ x :: suf).length * 17 := by simp; omega
  have hlen := flatMap_length keyedC_len (pre ++ x :: suf)
  simp only [evStore, hg, cellsOf, keyedC_len, hlen]
  rw [if_pos (by simp; omega)]
  simp only [List.flatMap_append, List.flatMap_cons, this]
theorem wrap_u64 {n : Nat} (h : n ≤ 12) : IntKind.u64.wrap (n : Int) = (n : Int) := by
  have : n = 0 ∨ n = 1 ∨ n = 2 ∨ n = 3 ∨ n = 4 ∨ n = 5 ∨ n = 6 ∨ n = 7 ∨ n = 8 ∨ n = 9 ∨ n = 10 ∨ n = 11 ∨ n = 12 := by omega
  rcases this with rfl | rfl | rfl | rfl | rfl | rfl | rfl | rfl | rfl | rfl | rfl | rfl | rfl <;> decide
end Go.Proofs.YthdkeggdipogoaaGreatDoor.Tz
