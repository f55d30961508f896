/-
The walk of NormOnce. Conditions: none.
-/
import Derived.Test.YthdkeggdipogoaaGreatDoorTSd
import Derived.Test.YthdkeggdipogoaaGreatDoorTWA
namespace Go.Proofs.YthdkeggdipogoaaGreatDoor.Tz
open Go.Aug Go.Aug.Api
set_option maxRecDepth 100000
theorem onceN_id : ∀ (l : List TKeyed), l.Pairwise (fun a b => a.text ≠ b.text) → onceN l = l := by
  have : ∀ (l a : List TKeyed), (a ++ l).Pairwise (fun a b => a.text ≠ b.text) → l.foldl addN a = a ++ l := by
    intro l
    induction l with
    | nil => intro a _; simp
    | cons x l ih =>
      intro a h
      have hx : (a.any fun y => decide (y.text = x.text)) = false := by
        rw [List.any_eq_false]
        intro y hy
        have := (List.pairwise_append.1 h).2.2 y hy x (by simp)
        simpa using this
      simp only [List.foldl_cons]
      rw [addN, if_neg (by rw [hx]; decide), ih (a ++ [x]) (by simpa using h)]
      simp
  intro l h
  have := this l [] (by simpa using h)
  simpa [onceN] using this
theorem sortN_id : ∀ (l : List TKeyed), l.Pairwise (fun a b => ltK b a = false) → sortN l = l := by
  have : ∀ (l a : List TKeyed), (a.reverse ++ l).Pairwise (fun a b => ltK b a = false) → l.foldl (fun a x => insN x a) a = l.reverse ++ a := by
    intro l
    induction l with
    | nil => intro a _; simp
    | cons x l ih =>
      intro a h
      have hx : insN x a = x :: a := by
        cases a with
        | nil => rfl
        | cons y a =>
          have := (List.pairwise_append.1 h).2.2 y (by simp) x (by simp)
          unfold insN
          rw [if_neg (by rw [this]; decide)]
      simp only [List.foldl_cons]
      rw [hx, ih (x :: a) (by simpa using h)]
      simp
  intro l h
  unfold sortN fallN
  rw [this l [] (by simpa using h)]
  simp
theorem normL_again {q : List TItem} {tx : TPred → ByteArray} {ps : List TPred} (h6 : ∀ p ∈ ps, p.cmp ≤ 6) : normL q tx (normL q tx ps) = normL q tx ps := by
  have hk : (normL q tx ps).map (keyN q tx) = sortN (onceN (ps.map (keyN q tx))) := by
    unfold normL
    rw [List.map_map]
    conv => rhs; rw [← List.map_id (sortN (onceN (ps.map (keyN q tx))))]
    refine List.map_congr_left fun k hk => ?_
    have := onceN_mem ((sortN_perm _).mem_iff.1 hk)
    obtain ⟨p, hp, rfl⟩ := List.mem_map.1 this
    show keyN q tx (normP p) = keyN q tx p
    unfold keyN
    rw [norm_norm (h6 p hp)]
  have hn : normL q tx (normL q tx ps) = (sortN (onceN ((normL q tx ps).map (keyN q tx)))).map (·.pred) := rfl
  rw [hn, hk, onceN_id _ (sorted_apart _), sortN_id _ (sortN_rises _)]
  rfl
theorem norm_right {q : TQuery} (h : rightP q = true) : rightP (normQ q) = true := by
  rw [normQ_right h]
  obtain ⟨a1, a2, a3, a4, a5, a6, a7, a8, a9, a10⟩ := right_parts h
  refine right_of h rfl rfl rfl rfl ?_ ?_
  · refine List.all_eq_true.2 fun x hx => ?_
    obtain ⟨p, hp, rfl⟩ := normL_mem hx
    exact (predX_norm (List.all_eq_true.1 a2 p hp)).1
  · have := normL_length q.items.l (textS q) q.preds.l
    simp only
    omega
theorem norm_again {q : TQuery} (h : rightP q = true) : (normQ (normQ q)).preds.l = (normQ q).preds.l := by
  have h2 := norm_right h
  rw [normQ_right h2]
  have e : ∀ p, textS (normQ q) p = textS q p := fun p => by rw [normQ_right h]; rfl
  have e' : textS (normQ q) = textS q := funext e
  have ei : (normQ q).items = q.items := by rw [normQ_right h]
  simp only [e', ei]
  have el : (normQ q).preds.l = normL q.items.l (textS q) q.preds.l := by rw [normQ_right h]
  rw [el]
  refine normL_again fun p hp => ?_
  obtain ⟨a1, a2, -⟩ := right_parts h
  have := List.all_eq_true.1 a2 p hp
  unfold predX at this
  simp only [Bool.and_eq_true, decide_eq_true_eq] at this
  omega
theorem norm_same {q : TQuery} (h : rightP q = true) : (normQ q).items = q.items ∧ (normQ q).within = q.within ∧ (normQ q).by_ = q.by_ ∧ (normQ q).pick = q.pick := by
  rw [normQ_right h]
  exact ⟨rfl, rfl, rfl, rfl⟩
@[simp] theorem DO_gstill (T : Tab) (base i : Nat) (op : AOp) (t : Nat) (b : Bool) (a : List Nat) (l : Nat) (ps : List POp) (E : Fr) (rank : Nat) (pend : PendX) (Hs : ChainX) (Q : Fr → Heap → Prop) :
    DO T base (⟨some i, op, some (t, b), .acts, a, l, true⟩ :: ps) E rank pend Hs Q = @gK ((E t).says b) ⟨opK T E (low0 (wake base a pend (topC Hs).2 (topC Hs).1)) op fun d H' =>
      @gK (decide (stillLim l (atC Hs 0).1.next (wake base a pend (topC Hs).2 (topC Hs).1).next ≤ H'.low)) ⟨DO T base ps (upd E i d) rank pend ((relow H' (wake base a pend (topC Hs).2 (topC Hs).1).low, a ++ (topC Hs).2) :: Hs) Q⟩ ⟨False⟩⟩ ⟨DO T base ps (upd E i uD) rank pend (topC Hs :: Hs) Q⟩ := by simp only [DO, saysX]; rfl
theorem oA_NormOnce : tabA.orc n_augurylaw10_NormOnce = none := by kernel_rfl
set_option maxHeartbeats 2000000 in
theorem once_walk (q : TQuery) (H : Heap) : cK tabA (.fn n_augurylaw10_NormOnce) [.agg (queryC q)] H fun d H' => d = bD true ∧ H' = H := by
  refine cK_fn oA_NormOnce (tLA t_augurylaw10_NormOnce) (Nat.le_of_ble_eq_true rfl) (by decide) ?_
  have hq5 : ∀ q : TQuery, (queryC q).take 5 = queryC q := fun q => List.take_of_length_le (by rw [queryC_len]; exact Nat.le_refl _)
  have hq1 : ∀ q : TQuery, (queryC q)[1]? = some (q.preds.enc predC) := fun _ => rfl
  have hq1' : ∀ (q : TQuery) (h : 1 < (queryC q).length), (queryC q)[1] = q.preds.enc predC := fun _ _ => rfl
  have hh := fun H => (head10A_run H).cK
  obtain ⟨g, hg⟩ := (Great_run q H0).run
  have hG := fun H => (runA oA_Great (by simp) hg H).cK
  have hR := fun (q : TQuery) H => (runA oA_Right (by simp) (tree_Right_run q H0) H).cK
  have hN := fun (q : TQuery) H => (runA oA_Norm (by simp) (norm_Norm_run q H0) H).cK
  cases g with
  | true => simp [hq5, hh, hG]
  | false =>
  cases hq : rightP q with
  | false =>
    have hn : normQ q = zQuery := by unfold normQ; rw [dif_neg (by rw [hq]; decide)]
    have hS := fun H => (runA oA_Same (by simp) (Same_run zQuery zQuery rfl rfl (samePs_refl _) rfl rfl rfl H0) H).cK
    have hz : queryC zQuery = [.v (.slice none 0 0), .v (.slice none 0 0), i64D 0, strD ⟨#[]⟩, i64D 0] := rfl
    rw [hz] at hS
    simp [hq5, hh, hG, hN, hn, hR, hq, setAll_full, hz, hS]
  | true =>
  obtain ⟨a1, a2, a3, a4, a5, a6, a7, a8, a9, a10⟩ := right_parts hq
  have hF := fun (x : TExpr) (hx : okE x) H => (runA oA_Fold (by simp) (norm_Fold_run x hx H0) H).cK
  have hX := fun (x : TExpr) (hx : okE x) H => (runA oA_SameExpr (by simp) (SameExpr_run x x hx hx H0) H).cK
  have hD := fun (x : TExpr) (hx : okE x) (h : rightX (6 : Nat) x = true) H => (runA oA_Deep (by simp) (tree_Deep_run x hx 6 (by decide) h H0) H).cK
  obtain ⟨n1, n2, n3, n4⟩ := norm_same hq
  have hnr := norm_right hq
  obtain ⟨m1, m2, m3, m4⟩ := norm_same hnr
  have hag := norm_again hq
  have hS := fun H => (runA oA_Same (by simp) (Same_run (normQ (normQ q)) (normQ q) (by rw [m1]) (by rw [hag]) (by rw [hag]; exact samePs_refl _) m2 m3 m4 H0) H).cK
  have hlen : (normQ q).preds.l.length ≤ q.preds.l.length := by
    rw [normQ_right hq]
    exact normL_length ..
  simp [hq5, hh, hG, hR, hq, hN, setAll_full]
  have main : ∀ Q : PostX, (∀ E H', E 1 = .rf H.next 0 → E 3 = bD true → E 4 = .rf (H.next + 1) 0 → H'.get H.next = some (.cells (queryC q)) → H'.get (H.next + 1) = some (.cells (queryC (normQ q))) → H'.low = H.next → H.next + 2 ≤ H'.next → Q (.exit 0) E H') → ∀ (E : Fr) (H1 : Heap), E 1 = .rf H.next 0 → E 3 = bD true → E 4 = .rf (H.next + 1) 0 → E 5 = i64D 0 → H1.get H.next = some (.cells (queryC q)) → H1.get (H.next + 1) = some (.cells (queryC (normQ q))) → H1.low = H.next → H.next + 2 ≤ H1.next → LR (WR 73 tabA none F_augurylaw10_NormOnce.l13) E H1 Q := by
    intro Q hQ E H1 e1 e3 e4 e5 g0 g1 w1 w2
    refine LR_rule (WR_mono _) (fun j E H' => ∃ pre suf, q.preds.l = pre ++ suf ∧ j = suf.length ∧ E 1 = .rf H.next 0 ∧ E 3 = bD true ∧ E 4 = .rf (H.next + 1) 0 ∧ E 5 = i64D pre.length ∧ H'.get H.next = some (.cells (queryC q)) ∧ H'.get (H.next + 1) = some (.cells (queryC (normQ q))) ∧ H'.low = H.next ∧ H.next + 2 ≤ H'.next) ?_ (j := q.preds.l.length) ⟨[], q.preds.l, rfl, rfl, e1, e3, e4, e5, g0, g1, w1, w2⟩
    rintro j E H' ⟨pre, suf, hl, rfl, e1, e3, e4, e5, g0, g1, w1, w2⟩
    cases suf with
    | nil =>
      have hl' : q.preds.l = pre := by simpa using hl
      have hlt' : ((pre.length : Int) < (q.preds.l.length : Int)) = False := by simp [hl']
      simp [e1, e5, g0, hq1, hq1', Sl.enc, hlt']
      exact hQ _ _ (by simp [e1]) (by simp [e3]) (by simp [e4]) g0 g1 w1 w2
    | cons p suf =>
      have hlt : pre.length < q.preds.l.length := by rw [hl]; simp
      have hlt' : ((pre.length : Int) < (q.preds.l.length : Int)) = True := by simp; omega
      have hw : IntKind.i64.wrap ((pre.length : Int) + 1) = (pre.length : Int) + 1 := wrap64 (by omega) (by omega)
      have ea := elem_at predC_len q.preds.rep q.preds.l .i64 pre.length p (by rw [hl]; simp)
      have hp : predX p = true := List.all_eq_true.1 a2 p (by rw [hl]; simp)
      unfold predX at hp
      simp only [Bool.and_eq_true, decide_eq_true_eq] at hp
      have h1 := hF p.L p.okL
      have h2 := hF (foldX p.L) (okE_fold _ p.okL)
      rw [fold_fold] at h2
      have h3 := hX (foldX p.L) (okE_fold _ p.okL)
      rw [sameX_refl] at h3
      have h4 := hD p.L p.okL hp.1.2
      have h5 := hD (foldX p.L) (okE_fold _ p.okL) (rightX_fold _ _ hp.1.2)
      have h6 := deep_fold p.L
      have h6' : ¬ deepX p.L < deepX (foldX p.L) := by omega
      have n0 : (H.next = H'.next) = False := by simp; omega
      have n1 : (H.next + 1 = H'.next) = False := by simp; omega
      have hle : H'.low ≤ H'.next := by omega
      have hT : ∀ rest : List D, (predC p ++ rest).tail = exprC p.L ++ (exprC p.R ++ rest) := fun rest => by simp [predC]
      have htk : ∀ rest : List D, (exprC p.L ++ rest).take 7 = exprC p.L := fun rest => List.take_left' (exprC_len p.L)
      simp [e1, e3, e4, e5, g0, hq1, hq1', Sl.enc, hlt', ea, setAll_full, hle, h1, h2, h3, h4, h5, h6', n0, n1, hw, load_elem _ _ _ _ (exprC_len p.L), hT, htk]
      exact ⟨suf.length, by omega, pre ++ [p], suf, by simp [hl], rfl, by simp, g1, w1, by omega⟩
  have hsa : ∀ z : List D, z.length = 5 → setAll z 0 (queryC (normQ q)) = queryC (normQ q) := fun z h => setAll_full z _ (by rw [h]; rfl)
  refine main _ (fun E H' e1 e3 e4 g0 g1 w1 w2 => ?_) _ _ (by simp) (by simp) (by simp) (by simp) (by simp) (by simp [hsa]) (by simp) (by simp)
  have hlen' : ((normQ q).preds.l.length : Int) ≤ (q.preds.l.length : Int) := by omega
  have hle : H'.low ≤ H'.next := by omega
  have hRn := hR (normQ q)
  rw [hnr] at hRn
  simp [e1, e3, e4, g0, g1, hq5, hq1, hq1', Sl.enc, hRn, hN, hS, hlen', w1]
end Go.Proofs.YthdkeggdipogoaaGreatDoor.Tz
