/-
The walk of NormOrder, to its end. Conditions: none.
-/
import Derived.Test.YthdkeggdipogoaaGreatDoorTVf
namespace Go.Proofs.YthdkeggdipogoaaGreatDoor.Tz
open Go.Aug Go.Aug.Api
set_option maxRecDepth 100000
def withP (q : TQuery) (l : List TPred) (hl : l.length ≤ big) : TQuery := { q with preds := ⟨some none, l, hl⟩ }
theorem norm_own (q : TQuery) (l : List TPred) (hl : l.length ≤ big) {H : Heap} {r n : Nat} (hn : n = l.length) (hg : H.get r = some (.cells (l.flatMap predC))) (hr : r < H.next) : Run tabN (.fn n_norm_Norm) [.agg (qC q (.rs r 0 n none 15))] H (.agg (queryC (normQ (withP q l hl)))) H := by
  subst hn
  refine norm_Norm_gen (withP q l hl) (.rs r 0 l.length none 15) H (.own l none hg hr) fun H' hf R => ?_
  have hg' := (hf r hr).trans hg
  have hfz : frz2 H' 0 64 (.agg (qC q (.rs r 0 l.length none 15))) = some (.agg (queryC (withP q l hl))) := by
    have hq : queryC (withP q l hl) = [q.items.enc itemC, .sl l.length (l.flatMap predC) none, i64D q.within, strD q.by_, i64D q.pick] := rfl
    rw [hq, frz2_agg _ _ _ (by simp [D.under, qC])]
    have e0 := frz2_under H' 0 62 (q.items.enc itemC) (by simp)
    have e1 := frz2_row H' 61 r l.length none 15 _ hg' (flatMap_length predC_len l) (by simp)
    simp only [qC, frzL_cons, frzL_nil, e0, e1, frz2_under _ _ _ _ (rfl : (i64D _).under 0 = true), frz2_under _ _ _ _ (rfl : (strD _).under 0 = true)]
    rfl
  refine (cK.run (cK_frozen (args' := [.agg (queryC (withP q l hl))]) oN_Right (by simp [D.under, qC]) ?_ (tree_Right_run (withP q l hl) H0) rfl ⟨rfl, rfl⟩)).cK R
  exact frzL_two _ _ _ _ _ hfz (frzL_none _)
theorem with_right {q : TQuery} (hq : rightP q = true) {l : List TPred} (hl : l.length ≤ big) (h1 : ∀ p ∈ l, predX p = true) (h8 : l.length ≤ 8) : rightP (withP q l hl) = true :=
  right_of hq rfl rfl rfl rfl (List.all_eq_true.2 h1) h8
set_option maxHeartbeats 4000000 in
theorem order_tail (q : TQuery) (hq : rightP q = true) (A : List TPred) (p : TPred) (C Lc : List TPred) (hl : q.preds.l = A ++ p :: C) (hLc : Lc = A ++ p :: C ∨ (3 ≤ p.cmp ∧ Lc = A ++ turnP p :: C)) (b : Nat) (E : Fr) (H : Heap) (h : OrdAt q A p C Lc b E H) (Q : PostX) (hret : ∀ E H', E 4 = bD true → b ≤ H'.low → Q .ret E H') :
    WR 115 tabN none (.seq (.reg F_augurylaw10_NormOrder.r15) (.seq (.seq (.dreg 0 F_augurylaw10_NormOrder.r16) (.cond (.t 101) (.seq (.reg F_augurylaw10_NormOrder.r17) .ret) .skip)) (.seq (.dreg 0 F_augurylaw10_NormOrder.r18) .ret))) E H Q := by
  obtain ⟨e2, e5, e7, g0, ⟨ra, ga1, ga2, ga3⟩, ⟨xb, db, e8, gb1, gb2, gb3⟩, ⟨xc, rc, e9, gc1, gc2, gc3, gc4⟩, w1, w2, w3⟩ := h
  obtain ⟨a1, a2, a3, a4, a5, a6, a7, a8, a9, a10⟩ := right_parts hq
  have hx : ∀ y ∈ q.preds.l, predX y = true := List.all_eq_true.1 a2
  have hp : predX p = true := hx p (by rw [hl]; simp)
  have hp6 : p.cmp ≤ 6 := by
    unfold predX at hp
    simp only [Bool.and_eq_true, decide_eq_true_eq] at hp
    exact hp.1.1.2
  have big8 : ∀ l : List TPred, l.length ≤ 9 → l.length ≤ big := fun l h => Nat.le_trans h (by decide)
  have hlen : q.preds.l.length = A.length + (C.length + 1) := by rw [hl]; simp
  obtain ⟨La, hLa⟩ : ∃ L, L = p :: C ++ A := ⟨_, rfl⟩
  obtain ⟨Lb, hLb⟩ : ∃ L, L = q.preds.l ++ [p] := ⟨_, rfl⟩
  have la : La.length = q.preds.l.length := by rw [hLa, hlen]; simp; omega
  have lb : Lb.length = q.preds.l.length + 1 := by rw [hLb]; simp
  have lc : Lc.length = q.preds.l.length := by rw [hlen]; rcases hLc with rfl | ⟨-, rfl⟩ <;> simp
  rw [← hLa] at ga2
  rw [← hLb] at gb3
  obtain ⟨rb, hdb, rb2, rb3⟩ : ∃ rb, db = .rs rb 0 (q.preds.l.length + 1) none 15 ∧ rb < H.next ∧ H.get rb = some (.cells (Lb.flatMap predC)) := by
    rcases gb3 with ⟨h, -⟩ | ⟨-, r, h1, -, h2, h3⟩
    · omega
    · exact ⟨r, h1, h2, h3⟩
  subst hdb
  have mA : ∀ y, y ∈ La ↔ y ∈ q.preds.l := fun y => by rw [hLa, hl]; simp; constructor <;> (intro h; rcases h with h | h | h <;> simp [h])
  have xa : ∀ y ∈ La, predX y = true := fun y hy => hx y ((mA y).1 hy)
  have xb' : ∀ y ∈ Lb, predX y = true := fun y hy => by
    rw [hLb] at hy
    rcases List.mem_append.1 hy with hy | hy
    · exact hx y hy
    · rw [List.mem_singleton.1 hy]; exact hp
  have xc' : ∀ y ∈ Lc, predX y = true := fun y hy => by
    rcases hLc with rfl | ⟨h3, rfl⟩
    · exact hx y (by rw [hl]; exact hy)
    · simp at hy
      rcases hy with hy | rfl | hy
      · exact hx y (by rw [hl]; simp [hy])
      · exact turn_right h3 hp
      · exact hx y (by rw [hl]; simp [hy])
  have hN := fun H => (norm_Norm_run q H).cK
  rw [queryC_qC q] at hN
  have hNa := fun (H' : Heap) h1 h2 => (norm_own q La (big8 _ (by omega)) (H := H') (r := ra) la.symm h1 h2).cK
  have hNb := fun (H' : Heap) h1 h2 => (norm_own q Lb (big8 _ (by omega)) (H := H') (r := rb) lb.symm h1 h2).cK
  have hNc := fun (H' : Heap) h1 h2 => (norm_own q Lc (big8 _ (by omega)) (H := H') (r := rc) lc.symm h1 h2).cK
  have sA := fun H => (runN oN_Same (by simp) (normQ_same hq (with_right hq (big8 _ (by omega)) xa (by omega)) rfl rfl rfl rfl (fun y hy => ⟨y, (mA y).1 hy, rfl⟩) (fun y hy => ⟨y, (mA y).2 hy, rfl⟩) H0) H).cK
  have sB := fun (h8 : q.preds.l.length < 8) H => (runN oN_Same (by simp) (normQ_same hq (with_right hq (big8 _ (by omega)) xb' (by omega)) rfl rfl rfl rfl (fun y hy => by
      have hy : y ∈ Lb := hy
      rw [hLb] at hy
      rcases List.mem_append.1 hy with hy | hy
      · exact ⟨y, hy, rfl⟩
      · rw [List.mem_singleton.1 hy]; exact ⟨p, by rw [hl]; simp, rfl⟩) (fun y hy => ⟨y, by show y ∈ Lb; rw [hLb]; simp [hy], rfl⟩) H0) H).cK
  have sC := fun H => (runN oN_Same (by simp) (normQ_same hq (with_right hq (big8 _ (by omega)) xc' (by omega)) rfl rfl rfl rfl (fun y hy => by
      have hy : y ∈ Lc := hy
      rcases hLc with rfl | ⟨h3, rfl⟩
      · exact ⟨y, by rw [hl]; exact hy, rfl⟩
      · simp at hy
        rcases hy with hy | rfl | hy
        · exact ⟨y, by rw [hl]; simp [hy], rfl⟩
        · exact ⟨p, by rw [hl]; simp, turn_norm h3 hp6⟩
        · exact ⟨y, by rw [hl]; simp [hy], rfl⟩) (fun y hy => by
      show ∃ p' ∈ Lc, _
      rw [hl] at hy
      rcases hLc with rfl | ⟨h3, rfl⟩
      · exact ⟨y, hy, rfl⟩
      · simp at hy
        rcases hy with hy | rfl | hy
        · exact ⟨y, by simp [hy], rfl⟩
        · exact ⟨turnP y, by simp, (turn_norm h3 hp6).symm⟩
        · exact ⟨y, by simp [hy], rfl⟩) H0) H).cK
  have n0 : (b = H.next) = False := by simp; omega
  have n1 : (b + 1 = H.next) = False := by simp; omega
  have n2 : (xb = H.next) = False := by simp; omega
  have n3 : (xc = H.next) = False := by simp; omega
  have n4 : (ra = H.next) = False := by simp; omega
  have n5 : (rb = H.next) = False := by simp; omega
  have n6 : (rc = H.next) = False := by simp; omega
  have r1 : ra < H.next + 1 := by omega
  have r2 : rb < H.next + 1 := by omega
  have r3 : rc < H.next + 1 := by omega
  have hq5 : (queryC (normQ q)).take 5 = queryC (normQ q) := List.take_of_length_le (by rw [queryC_len]; exact Nat.le_refl _)
  have hsa : ∀ z : List D, z.length = 5 → setAll z 0 (queryC (normQ q)) = queryC (normQ q) := fun z h => setAll_full z _ (by rw [h]; rfl)
  have hle : H.low ≤ H.next := w2
  simp only [Sl.enc] at g0 hN
  by_cases h8 : q.preds.l.length < 8
  · have h8' : ((q.preds.l.length : Int) < 8) = True := by simp; omega
    have sB := sB h8
    simp [e2, e5, e7, e8, e9, g0, hN, hsa, get_set, hle, n0, h8', gb2, n2, hNb, rb3, n5, r2, hq5, sB, ga1, ga2, n1, n4, hNa, r1, sA, gc2, gc3, n3, n6, hNc, r3, sC]
    exact hret _ _ (by simp) (by simpa using w1)
  · have h8' : ((q.preds.l.length : Int) < 8) = False := by simp; omega
    simp [e2, e5, e7, e8, e9, g0, hN, hsa, get_set, hle, n0, h8', ga1, ga2, n1, n4, hNa, r1, hq5, sA, gc2, gc3, n3, n6, hNc, r3, sC]
    exact hret _ _ (by simp) (by simpa using w1)
theorem order_walk (q : TQuery) (a0 : Nat) (ha0 : a0 < 256) (H : Heap) : cK tabN (.fn n_augurylaw10_NormOrder) [.agg (queryC q), .v (.int .u8 a0)] H fun d H' => d = bD true ∧ H' = H := by
  refine cK_fn oN_NormOrder (tN t_augurylaw10_NormOrder) (Nat.le_of_ble_eq_true rfl) (by decide) ?_
  have ret : ∀ (E : Fr) (H' : Heap), E 4 = bD true → H.next ≤ H'.low → endX (tabN.fz n_augurylaw10_NormOrder) [RV.tmp 4] H (fun d H' => d = bD true ∧ H' = H) .ret E H' := fun E H' e4 hl => by
    simp [e4, hl]
  refine order_head q a0 ha0 H _ _ ret fun hq A p C Lc E H' hl hLc h => ?_
  exact order_tail q hq A p C Lc hl hLc H.next E H' h _ ret
end Go.Proofs.YthdkeggdipogoaaGreatDoor.Tz
