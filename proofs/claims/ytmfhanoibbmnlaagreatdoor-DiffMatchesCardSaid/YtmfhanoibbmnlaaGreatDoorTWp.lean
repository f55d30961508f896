/-
The walk of norm.Fold. Conditions: none.
-/
import Derived.Test.YtmfhanoibbmnlaaGreatDoorTPw
import Derived.Test.YtmfhanoibbmnlaaGreatDoorTWv
import Derived.Test.YtmfhanoibbmnlaaGreatDoorTWr
namespace Go.Proofs.YtmfhanoibbmnlaaGreatDoor.Tz
open Go.Aug Go.Aug.Api
set_option maxRecDepth 100000
theorem VE.enc_eq (v : TVal) (e : Int) : VE.enc (v, e) = .tup [.agg (valC v), i64D e] := rfl
theorem fold_fin {H H' : Heap} {r : Nat} {fz : Bool} (hz : fz = true) (hl : H.next ≤ H'.low) (hr : H.next ≤ r) (k : Int) (v : TVal) (var f : ByteArray) (a b : TExpr) (hg : H'.get r = some (.cells (exprC a ++ exprC b))) {R : D → Heap → Prop} (h : R (.agg (exprC (.mk k v var f (some (some 2)) [a, b]))) H) :
    finX fz H (.agg [i64D k, i64D v.kind, i64D v.n, strD v.s, strD var, strD f, .rs r 0 2 (some 2) 7]) H' R := by
  subst hz
  have hp : ∀ L : List D, D.under.underAll 0 L = true → frzL (frz H' H.next 62) L = some L := by
    intro L
    induction L with
    | nil => intro _; rfl
    | cons d L ih =>
      intro h
      simp only [under_cons, Bool.and_eq_true] at h
      exact frzL_two _ _ _ _ _ (frz_under0 H' H.next 61 d (under_zero _ _ h.1)) (ih h.2)
  have hpp : D.under.underAll 0 (exprC a ++ exprC b) = true := by simp [under_append]
  rw [finX_frozen (d' := .agg (exprC (.mk k v var f (some (some 2)) [a, b]))) hl ?_]
  · exact h
  · have h1 : ¬ r < H.next := by omega
    have hlen : (exprC a ++ exprC b).length = 14 := by simp
    have hrs : frz H' H.next 63 (.rs r 0 2 (some 2) 7) = some (.sl 2 (exprC a ++ exprC b) (some 2)) := by
      rw [frz_rs, if_neg h1, hg]
      simp only [hlen]
      rw [if_pos (by omega), List.drop_zero, List.take_of_length_le (by omega), hp _ hpp]
      rfl
    rw [frz_agg, if_neg (by simp [under_cons, D.under, h1]), exprC_mk]
    simp only [frzL_cons, frzL_nil, frz_v, hrs]
    simp
theorem norm_Fold_run : ∀ (x : TExpr) (_hx : okE x) (H : Heap), Run tab (.fn n_q75) [.agg (exprC x)] H (.agg (exprC (foldX x))) H
  | .mk k v var f rep kids, hx, H => by
    have ih : ∀ x ∈ kids, ∀ (H : Heap), Run tab (.fn n_q75) [.agg (exprC x)] H (.agg (exprC (foldX x))) H := fun x hmem H => norm_Fold_run x (okEs_mem hx.2.1 hmem) H
    refine cK.run (cK_fn o_q75 t_q75 (Nat.le_of_ble_eq_true rfl) (by decide) ?_)
    by_cases k7 : k = 7 ∨ k = 8
    · by_cases b4 : kids.length = 2
      · obtain ⟨a, b, rfl⟩ : ∃ a b, kids = [a, b] := by
          match kids, b4 with
          | [a, b], _ => exact ⟨a, b, rfl⟩
        have hA := fun H => (ih a (by simp) H).cK
        have hB := fun H => (ih b (by simp) H).cK
        have e0 := elem_at exprC_len rep [a, b] .i64 0 a rfl
        have e1' := elem_at exprC_len rep [a, b] .i64 1 b rfl
        simp at e0 e1'
        have nAdd := fun k n s k' n' s' H => (value_Add_run k n s k' n' s' H).cK
        have nSub := fun k n s k' n' s' H => (value_Sub_run k n s k' n' s' H).cK
        rw [foldX_two k7, exprC_mk]
        generalize foldX a = a' at *
        generalize foldX b = b' at *
        obtain ⟨ka, ⟨va, na, sa⟩, xa, fa, ra, da⟩ := a'
        obtain ⟨kb, ⟨vb, nb, sb⟩, xb, fb, rb, db⟩ := b'
        simp only [exprC_mk] at hA hB
        unfold foldedTwo
        simp only [TExpr.kind, TExpr.val]
        rcases k7 with rfl | rfl
        · simp [e0, e1', load_elem _ _ _ _ (exprC_len a), load_elem _ _ _ _ (exprC_len b), hA, hB]
          by_cases c1 : ka = 1
          · by_cases c2 : kb = 1
            · simp [c1, c2, nAdd, reckV]
              generalize addV ⟨va, na, sa⟩ ⟨vb, nb, sb⟩ = r
              obtain ⟨r, e⟩ := r
              by_cases c3 : e = 0
              · simp [c3, VE.enc_eq, valE, exprC_mk, valC]
                rfl
              · simp [c3, VE.enc_eq]
                refine fold_fin z_q75 ?_ (by omega) 7 v var f _ _ ?_ ⟨rfl, rfl⟩ <;> simp [exprC_mk]
            · simp [c1, c2]
              refine fold_fin z_q75 ?_ (by omega) 7 v var f _ _ ?_ ⟨rfl, rfl⟩ <;> simp [exprC_mk]
          · simp [c1]
            refine fold_fin z_q75 ?_ (by omega) 7 v var f _ _ ?_ ⟨rfl, rfl⟩ <;> simp [exprC_mk]
        · simp [e0, e1', load_elem _ _ _ _ (exprC_len a), load_elem _ _ _ _ (exprC_len b), hA, hB]
          by_cases c1 : ka = 1
          · by_cases c2 : kb = 1
            · simp [c1, c2, nSub, reckV]
              generalize subV ⟨va, na, sa⟩ ⟨vb, nb, sb⟩ = r
              obtain ⟨r, e⟩ := r
              by_cases c3 : e = 0
              · simp [c3, VE.enc_eq, valE, exprC_mk, valC]
                rfl
              · simp [c3, VE.enc_eq]
                refine fold_fin z_q75 ?_ (by omega) 8 v var f _ _ ?_ ⟨rfl, rfl⟩ <;> simp [exprC_mk]
            · simp [c1, c2]
              refine fold_fin z_q75 ?_ (by omega) 8 v var f _ _ ?_ ⟨rfl, rfl⟩ <;> simp [exprC_mk]
          · simp [c1]
            refine fold_fin z_q75 ?_ (by omega) 8 v var f _ _ ?_ ⟨rfl, rfl⟩ <;> simp [exprC_mk]
      · have b4' : ¬ (kids.length : Int) = 2 := by omega
        rw [foldX_not b4, exprC_mk]
        rcases k7 with rfl | rfl <;> simp [b4']
    · rw [foldX_other k7, exprC_mk]
      have h7 : k ≠ 7 := fun h => k7 (.inl h)
      have h8 : k ≠ 8 := fun h => k7 (.inr h)
      simp [h7, h8]
end Go.Proofs.YtmfhanoibbmnlaaGreatDoor.Tz

namespace Go.Proofs.YtmfhanoibbmnlaaGreatDoor.Tz
open Go.Aug Go.Aug.Api
set_option maxRecDepth 100000
def normFns : List Nat := [n_q111, n_q75, n_q78, n_q1, n_q24]
noncomputable def orcsN (f : Nat) : Option (List D → Heap → Option (D × Heap)) := cond (Nat.beq f n_q108) (some orcPrintN) (cond (isLaw f normFns) (some (pureOrc2 (runSpec tab f))) (orcs f))
noncomputable def tabN : Tab := ⟨findF rows, frozen, orcsN⟩
theorem orcsN_ok (f : Nat) (g : List D → Heap → Option (D × Heap)) (h : orcsN f = some g) : OrcOk Tryz.prog f g := by
  unfold orcsN at h
  cases hk : Nat.beq f n_q108 with
  | true =>
    rw [hk] at h
    simp only [cond_true, Option.some.injEq] at h
    rw [← h, Nat.eq_of_beq_eq_true hk]
    exact printN
  | false =>
    rw [hk] at h
    simp only [cond_false] at h
    cases hk : isLaw f normFns with
    | true =>
      rw [hk] at h
      simp only [cond_true, Option.some.injEq] at h
      rw [← h]
      exact runSpec_orc tab_ok _
    | false => rw [hk] at h; exact orcs_ok f g h
theorem tabN_ok : TabOk Tryz.prog tabN := tab_ok' _ _ orcsN_ok
theorem oN_Right : tabN.orc n_q111 = some (pureOrc2 (runSpec tab n_q111)) := by kernel_rfl
theorem oN_Fold : tabN.orc n_q75 = some (pureOrc2 (runSpec tab n_q75)) := by kernel_rfl
theorem oN_Place : tabN.orc n_q78 = some (pureOrc2 (runSpec tab n_q78)) := by kernel_rfl
theorem oN_Print : tabN.orc n_q108 = some orcPrintN := by kernel_rfl
theorem tN {f : Nat} {fi : FI} (h : tab.fn f = some fi) : tabN.fn f = some fi := h
theorem runN {f : FuncId} {args : List D} {d : D} (ho : tabN.orc f = some (pureOrc2 (runSpec tab f))) (hu : D.under.underAll 0 args = true) (hd : Run tab (.fn f) args H0 d H0) (H : Heap) : Run tabN (.fn f) args H d H := cK.run (cK_pure ho hu hd ⟨rfl, rfl⟩)
def joinI (q : TQuery) : ByteArray := ⟨(joinB (q.items.l.map itemW) thenB).toArray⟩
def textS (q : TQuery) (p : TPred) : ByteArray := textP (joinI q) (predS p) q.within q.by_ q.pick
def oneQ (q : TQuery) (p : TPred) : TQuery := { q with preds := ⟨some (some 1), [p], Nat.le_of_ble_eq_true rfl⟩ }
theorem items_right {l pre : List TItem} (h : itemsOk pre l = true) : ∀ x ∈ l, ∃ b, rightItem x b = true := by
  induction l generalizing pre with
  | nil => intro x hx; simp at hx
  | cons a l ih =>
    simp only [itemsOk, Bool.and_eq_true] at h
    intro x hx
    rcases List.mem_cons.1 hx with rfl | hx
    · exact ⟨_, h.1.1⟩
    · exact ih h.2 x hx
theorem right_parts {q : TQuery} (h : rightP q = true) : itemsOk [] q.items.l = true ∧ q.preds.l.all predX = true ∧ q.items.l.length ≠ 0 ∧ q.items.l.length ≤ 6 ∧ q.preds.l.length ≤ 8 ∧ 0 ≤ q.within ∧ q.within ≤ maxNum ∧ 1 ≤ q.pick ∧ q.pick ≤ 3 ∧ (q.by_ = emptyS ∨ nameS q.by_ = true) := by
  unfold rightP at h
  simp only [Bool.and_eq_true, Bool.not_eq_true', Bool.or_eq_false_iff, Bool.or_eq_true, decide_eq_true_eq, decide_eq_false_iff_not] at h
  obtain ⟨⟨⟨⟨h1, h2⟩, ⟨h3, h4⟩, h5⟩, ⟨⟨h6, h7⟩, h8⟩, h9⟩, h10⟩ := h
  exact ⟨h1, h2, h3, by omega, by omega, by omega, by omega, by omega, by omega, h10⟩
theorem right_of {q q' : TQuery} (h : rightP q = true) (h1 : q'.items = q.items) (h2 : q'.within = q.within) (h3 : q'.by_ = q.by_) (h4 : q'.pick = q.pick) (h5 : q'.preds.l.all predX = true) (h6 : q'.preds.l.length ≤ 8) : rightP q' = true := by
  obtain ⟨a1, a2, a3, a4, a5, a6, a7, a8, a9, a10⟩ := right_parts h
  unfold rightP
  rw [h1, h2, h3, h4, a1, h5]
  have e : decide (8 < q'.preds.l.length) = false := by simp; omega
  have e1 : decide (q.items.l.length = 0) = false := by simpa using a3
  have e2 : decide (6 < q.items.l.length) = false := by simp; omega
  have e3 : decide (q.within < 0) = false := by simp; omega
  have e4 : decide (maxNum < q.within) = false := by simp; omega
  have e5 : decide (q.pick < 1) = false := by simp; omega
  have e6 : decide (3 < q.pick) = false := by simp; omega
  rw [e, e1, e2, e3, e4, e5, e6]
  rcases a10 with h | h
  · simp [h]
  · simp [h]
theorem right_one {q : TQuery} {p : TPred} (h : rightP q = true) (hp : predX p = true) : rightP (oneQ q p) = true :=
  right_of h rfl rfl rfl rfl (by simp [oneQ, hp]) (by simp [oneQ])
theorem printSpec_eq {q : TQuery} {p : TPred} (h : rightP q = true) (hp : predX p = true) : printSpec (.agg (queryC (oneQ q p))) = some (textS q p) := by
  obtain ⟨a1, a2, a3, a4, a5, a6, a7, a8, a9, a10⟩ := right_parts h
  have r1 : Run tab (.fn n_q111) [.agg (queryC (oneQ q p))] H0 (bD true) H0 := by
    have := tree_Right_run (oneQ q p) H0
    rw [right_one h hp] at this
    exact this
  have r2 := joined_Item_run q.items a4 (items_right a1) H0
  have r3 := joined_Pred_run p hp H0
  have e1 := runSpec_eq r1
  have e2 := runSpec_eq r2
  have e3 := runSpec_eq r3
  have hq : queryC (oneQ q p) = [q.items.enc itemC, .sl 1 (predC p) (some 1), .v (.int .i64 q.within), .v (.string q.by_), .v (.int .i64 q.pick)] := by
    simp [queryC, oneQ, Sl.enc]
  rw [hq] at e1 ⊢
  unfold printSpec
  have hm : maxNum = 1099511627776 := rfl
  have hs1 : (joinI q).size ≤ 1000000 := by
    have hsz : ∀ x ∈ q.items.l.map itemW, x.size ≤ 82 := fun x hx => by
      obtain ⟨y, hy, rfl⟩ := List.mem_map.1 hx
      obtain ⟨b, hb⟩ := items_right a1 y hy
      exact (item_sizes hb).2.2
    have hj := join_size (q.items.l.map itemW) thenB 82 hsz
    have h6 : thenB.size = 6 := rfl
    rw [h6, List.length_map] at hj
    show (joinB (q.items.l.map itemW) thenB).toArray.size ≤ _
    simp
    omega
  have hs2 := pred_size hp
  have hs3 : q.by_.size ≤ 1000000 := by
    rcases a10 with h | h
    · rw [h]; exact Nat.zero_le _
    · have := name_size h; omega
  have e1' : runSpec tab n_q111 [.agg [q.items.enc itemC, .sl 1 (predC p) (some 1), .v (.int .i64 q.within), .v (.string q.by_), .v (.int .i64 q.pick)]] = some (.v (.bool true)) := e1
  have e2' : runSpec tab n_q115 [q.items.enc itemC, sB thenB, .fn (.func n_q109) [] []] = some (.v (.string (joinI q))) := e2
  have e3' : runSpec tab n_q116 [.sl 1 (predC p) (some 1), sB andB, .fn (.func n_q110) [] []] = some (.v (.string (predS p))) := e3
  simp only [e1', e2', e3']
  rw [if_pos ⟨hs1, by omega, hs3, by omega, by omega, a8, a9⟩]
  rfl
theorem cK_print {q : TQuery} {p : TPred} (h : rightP q = true) (hp : predX p = true) {args : List D} {H : Heap} {R : D → Heap → Prop} (ha : frzL (frz2 H 0 64) args = some [.agg (queryC (oneQ q p))]) (hR : R (strD (textS q p)) H) : cK tabN (.fn n_q108) args H R := by
  refine cK_orc oN_Print ⟨(strD (textS q p), H), ?_, hR⟩
  unfold orcPrintN
  rw [ha]
  simp only [printSpec_eq h hp, Option.map_some]
theorem eachV_len : ∀ (x : TExpr) (n : Nat), rightX n x = true → (eachV x).length ≤ 2 ^ n
  | .mk k v var f rep kids, n, h => by
    have ih : ∀ x ∈ kids, ∀ n : Nat, rightX n x = true → (eachV x).length ≤ 2 ^ n := fun x hm n h => eachV_len x n h
    have hp : 1 ≤ 2 ^ n := Nat.one_le_two_pow
    unfold eachV
    by_cases k2 : 2 ≤ k ∧ k ≤ 6
    · rw [if_pos k2]; simpa using hp
    · rw [if_neg k2]
      by_cases k7 : k = 7 ∨ k = 8
      · rw [if_pos k7]
        unfold rightX at h
        by_cases m0 : (n : Int) = 0
        · rw [if_pos m0] at h; cases h
        obtain ⟨m, rfl⟩ : ∃ m, n = m + 1 := ⟨n - 1, by omega⟩
        have k1 : ¬ k = 1 := by omega
        have k3 : ¬ k = 3 := by omega
        rw [if_neg m0, if_neg k1, if_neg k3, if_neg k2, if_pos k7] at h
        simp only [Bool.and_eq_true] at h
        have h := h.2
        match kids, ih, h with
        | [a, b], ih, h =>
          simp only [rightTwoX, Bool.and_eq_true] at h
          have hm : ((m + 1 : Nat) : Int) - 1 = (m : Nat) := by omega
          rw [hm] at h
          have ha := ih a (by simp) m h.1
          have hb := ih b (by simp) m h.2
          simp only [eachVs, List.append_nil, List.length_append]
          rw [Nat.pow_succ]
          omega
        | [], _, h => cases h
        | [_], _, h => cases h
        | _ :: _ :: _ :: _, _, h => cases h
      · rw [if_neg k7]; simp
theorem place_run {q : TQuery} {p : TPred} (hp : predX p = true) (H : Heap) : Run tab (.fn n_q78) [.agg (queryC q), .agg (predC p)] H (i64D (placeN q.items.l p)) H := by
  unfold predX at hp
  simp only [Bool.and_eq_true] at hp
  have h1 := eachV_len p.L 6 hp.1.2
  have h2 := eachV_len p.R 6 hp.2
  exact norm_Place_run q p H (by omega) (by omega)
end Go.Proofs.YtmfhanoibbmnlaaGreatDoor.Tz

namespace Go.Proofs.YtmfhanoibbmnlaaGreatDoor.Tz
open Go.Aug Go.Aug.Api
set_option maxRecDepth 100000
def pickW (pk : Int) : ByteArray := if pk = 1 then ⟨#[97, 110, 121]⟩ else if pk = 2 then ⟨#[110, 101, 120, 116]⟩ else ⟨#[115, 116, 114, 105, 99, 116]⟩
end Go.Proofs.YtmfhanoibbmnlaaGreatDoor.Tz
