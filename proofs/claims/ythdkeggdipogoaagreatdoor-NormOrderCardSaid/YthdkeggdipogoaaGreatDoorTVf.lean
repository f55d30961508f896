/-
The walk of NormOrder. Conditions: none.
-/
import Derived.Test.YthdkeggdipogoaaGreatDoorTWy
import Derived.Test.YthdkeggdipogoaaGreatDoorTSd
import Derived.Test.YthdkeggdipogoaaGreatDoorTSf
namespace Go.Proofs.YthdkeggdipogoaaGreatDoor.Tz
open Go.Aug Go.Aug.Api
set_option maxRecDepth 100000
theorem text_inj {q : TQuery} {a b : TPred} (ha : predX a = true) (hb : predX b = true) (h : textS q a = textS q b) : sameP a b = true := by
  refine pred_unique ha hb ?_
  unfold textS textP at h
  have h := congrArg (fun b : ByteArray => b.data.toList) h
  simp only [List.toList_toArray] at h
  refine Go.Aug.Api.bytes_eq ?_
  unfold partsT at h
  split at h
  · simpa using h
  · simpa using h
theorem textS_same {q q' : TQuery} (h1 : q'.items = q.items) (h2 : q'.within = q.within) (h3 : q'.by_ = q.by_) (h4 : q'.pick = q.pick) : textS q' = textS q := by
  funext p
  unfold textS joinI
  rw [h1, h2, h3, h4]
theorem norm_same' {q : TQuery} (h : rightP q = true) : (normQ q).items = q.items ∧ (normQ q).within = q.within ∧ (normQ q).by_ = q.by_ ∧ (normQ q).pick = q.pick := by
  rw [normQ_right h]
  exact ⟨rfl, rfl, rfl, rfl⟩
theorem normQ_same {q q' : TQuery} (hq : rightP q = true) (hq' : rightP q' = true) (h1 : q'.items = q.items) (h2 : q'.within = q.within) (h3 : q'.by_ = q.by_) (h4 : q'.pick = q.pick)
    (g1 : ∀ p ∈ q'.preds.l, ∃ p' ∈ q.preds.l, normP p = normP p') (g2 : ∀ p ∈ q.preds.l, ∃ p' ∈ q'.preds.l, normP p = normP p') (H : Heap) : Run tab (.fn n_auguryref08_Same) [.agg (queryC (normQ q')), .agg (queryC (normQ q))] H (bD true) H := by
  obtain ⟨-, a2, -⟩ := right_parts hq
  obtain ⟨-, b2, -⟩ := right_parts hq'
  have e := textS_same h1 h2 h3 h4
  have := normL_same (q := q.items.l) (tx := textS q) (List.all_eq_true.1 b2) (List.all_eq_true.1 a2) g1 g2 fun a b ha hb h => text_inj ha hb h
  have nl : ∀ {q : TQuery}, rightP q = true → (normQ q).preds.l = normL q.items.l (textS q) q.preds.l := fun h => by rw [normQ_right h]
  obtain ⟨i1, i2, i3, i4⟩ := norm_same' hq
  obtain ⟨j1, j2, j3, j4⟩ := norm_same' hq'
  refine Same_run (normQ q') (normQ q) (by rw [j1, i1, h1]) ?_ ?_ (by rw [j2, i2, h2]) (by rw [j3, i3, h3]) (by rw [j4, i4, h4]) H
  · rw [nl hq, nl hq', h1, e]
    exact this.1
  · rw [nl hq, nl hq', h1, e]
    exact this.2
theorem slice_to' (s : Nat) (rep : Option (Option Nat)) (n h : Nat) (cells : List D) (h1 : 1 ≤ n) (h2 : h ≤ n) : ∃ c, sliceX s (slD rep n cells) none (some (.v (.int .i64 (h : Nat)))) none false = some (slD (some c) h (cells.take (h * s))) := by
  have hb : boundX (some (.v (.int .i64 (h : Nat)))) n n = some h := by
    rw [bound_some, if_pos ⟨by omega, by omega⟩]
    simp
  cases rep with
  | none =>
    obtain ⟨m, rfl⟩ : ∃ m, n = m + 1 := ⟨n - 1, by omega⟩
    refine ⟨none, ?_⟩
    show sliceX s (.sl (m + 1) cells none) none _ none false = _
    simp only [sliceX, bound_none, hb]
    simp [slD]
  | some c =>
    refine ⟨c.map (· - 0), ?_⟩
    show sliceX s (.sl n cells c) none _ none false = _
    simp only [sliceX, bound_none, hb]
    simp [slD]
theorem app_data {H : Heap} {r n : Nat} (rep : Option (Option Nat)) (cells : List D) (hn : 0 < n) (hm : n ≤ 900) (hc : cells.length = n * 15) (hg : H.get r = some (.cells [])) :
    evApp H false 15 200 (.rs r 0 0 (some 0) 15) (slD rep n cells) = some (.rs H.next 0 n none 15, H.add (.cells cells)) := by
  have hf := sl_first H 15 rep n cells hc
  have h0 : (n == 0) = false := by rw [beq_eq_false_iff_ne]; omega
  have h1 : ¬ 0 + n ≤ 0 := by omega
  have h2 : ((15 : Nat) == 15) = true := rfl
  have h1 : ¬ n ≤ 0 := by omega
  have hr := roomOk_of (bytes := 200) (n := n) (by omega) (by decide)
  simp only [evApp, hf, hg, h0, h1, h2, hr, Bool.true_and, if_true, if_false, Bool.false_eq_true, List.length_nil, Nat.zero_add, Nat.zero_mul, Nat.le_refl, Bool.and_true, decide_true, List.drop_nil, List.take_nil, List.nil_append]
theorem app_data2 {H : Heap} {r n m : Nat} (rep : Option (Option Nat)) (L cells : List D) (hn : 0 < n) (hm : m + n ≤ 900) (hL : L.length = m * 15) (hc : cells.length = n * 15) (hg : H.get r = some (.cells L)) :
    evApp H false 15 200 (.rs r 0 m none 15) (slD rep n cells) = some (.rs H.next 0 (m + n) none 15, (H.del r).add (.cells (L ++ cells))) := by
  have hf := sl_first H 15 rep n cells hc
  have h0 : (n == 0) = false := by rw [beq_eq_false_iff_ne]; omega
  have h2 : ((15 : Nat) == 15) = true := rfl
  have h3 : ((0 : Nat) == 0) = true := rfl
  have h4 : (m * 15 == L.length) = true := by rw [hL]; simp
  have hr := roomOk_of (bytes := 200) (n := m + n) (by omega) (by decide)
  simp only [evApp, hf, hg, h0, h2, h3, h4, hr, if_true, if_false, Bool.false_eq_true, Bool.and_true]
theorem app_none {H : Heap} {r m : Nat} {c : Option Nat} (rep : Option (Option Nat)) : evApp H false 15 200 (.rs r 0 m c 15) (slD rep 0 []) = some (.rs r 0 m c 15, H) := by
  have hf := sl_first H 15 rep 0 [] rfl
  have h0 : ((0 : Nat) == 0) = true := rfl
  simp only [evApp, hf, h0, if_true]
theorem own_data {L cells : List D} {m n b lo : Nat} {cap : Option Nat} {H : Heap} {d : D} (ho : Own L m 15 b H d) (hm : 0 < m) (hL : L.length = m * 15) (hc : cells.length = n * 15) (hn : m + n ≤ 900) (hlow : lo ≤ H.low) (hln : H.low ≤ H.next) (hbn : b ≤ H.next) (hlb : lo ≤ b) (k : D × Heap → Prop)
    (hk : ∀ r' H', H'.get r' = some (.cells (L ++ cells)) → b ≤ r' → r' < H'.next → H.next ≤ H'.next → lo ≤ H'.low → H'.low ≤ H'.next → (∀ q, q < b → H'.get q = H.get q) → k (.rs r' 0 (m + n) none 15, H')) : oK (evApp H false 15 200 d (.sl n cells cap)) k := by
  rcases ho with ⟨rfl, -, -⟩ | ⟨-, r, rfl, hr1, hr2, hg⟩
  · omega
  · by_cases h0 : n = 0
    · subst h0
      have hc0 : cells = [] := List.length_eq_zero_iff.1 (by omega)
      subst hc0
      have := app_none (H := H) (r := r) (m := m) (c := none) (some cap)
      rw [slD_some] at this
      exact ⟨_, this, hk r H (by simpa using hg) hr1 hr2 (Nat.le_refl _) hlow hln fun _ _ => rfl⟩
    · have := app_data2 (H := H) (r := r) (n := n) (m := m) (some cap) L cells (by omega) hn hL hc hg
      rw [slD_some] at this
      refine ⟨_, this, hk H.next _ (by simp) hbn (by simp) (by simp) (by simp; split <;> omega) (by simp; split <;> omega) fun q hq => ?_⟩
      have e1 : (q = H.next) = False := by simp; omega
      have e2 : (q = r) = False := by simp; omega
      simp [e1, get_del, e2]
theorem oN_NormOrder : tabN.orc n_augurylaw10_NormOrder = none := by kernel_rfl
theorem oN_head10 : tabN.orc n_augurylaw10_head = some orcHead := by kernel_rfl
theorem oN_Great : tabN.orc n_augurylaw08_Great = some (pureOrc2 (runSpec tab n_augurylaw08_Great)) := by kernel_rfl
theorem oN_Same : tabN.orc n_auguryref08_Same = some (pureOrc2 (runSpec tab n_auguryref08_Same)) := by kernel_rfl
structure OrdAt (q : TQuery) (A : List TPred) (p : TPred) (C Lc : List TPred) (b : Nat) (E : Fr) (H' : Heap) : Prop where
  e2 : E 2 = .rf b 0
  e5 : E 5 = bD true
  e7 : E 7 = .rf (b + 1) 0
  g0 : H'.get b = some (.cells (qC q (q.preds.enc predC)))
  fa : ∃ r, H'.get (b + 1) = some (.cells (qC q (.rs r 0 q.preds.l.length none 15))) ∧ H'.get r = some (.cells ((p :: C ++ A).flatMap predC)) ∧ r < H'.next
  fb : ∃ x d, E 8 = .rf x 0 ∧ x < H'.next ∧ H'.get x = some (.cells (qC q d)) ∧ Own ((q.preds.l ++ [p]).flatMap predC) (q.preds.l.length + 1) 15 0 H' d
  fc : ∃ x r, E 9 = .rf x 0 ∧ x < H'.next ∧ H'.get x = some (.cells (qC q (.rs r 0 q.preds.l.length none 15))) ∧ H'.get r = some (.cells (Lc.flatMap predC)) ∧ r < H'.next
  w1 : b ≤ H'.low
  w2 : H'.low ≤ H'.next
  w3 : b + 2 ≤ H'.next
theorem preds_store (A : List TPred) (x y : TPred) (C : List TPred) {H : Heap} {r : Nat} (hg : H.get r = some (.cells ((A ++ x :: C).flatMap predC))) : evStore H 15 (.rf r (A.length * 15)) (.agg (predC y)) = some (H.set r (.cells ((A ++ y :: C).flatMap predC))) := by
  have hl := flatMap_length predC_len A
  have := setAll_mid' (predC y) (predC x) (A.flatMap predC) (C.flatMap predC) (by rw [predC_len, predC_len])
  rw [hl] at this
  have hlen := flatMap_length predC_len (A ++ x :: C)
  simp only [evStore, hg, cellsOf, predC_len, hlen]
  rw [if_pos (by simp; omega)]
  simp only [List.flatMap_append, List.flatMap_cons, this]
set_option maxHeartbeats 4000000 in
theorem order_head (q : TQuery) (a0 : Nat) (ha0 : a0 < 256) (H : Heap) (c : AC) (Q : PostX) (hret : ∀ E H', E 4 = bD true → H.next ≤ H'.low → Q .ret E H')
    (hgo : rightP q = true → ∀ (A : List TPred) (p : TPred) (C Lc : List TPred) (E : Fr) (H' : Heap), q.preds.l = A ++ p :: C → (Lc = A ++ p :: C ∨ (3 ≤ p.cmp ∧ Lc = A ++ turnP p :: C)) → OrdAt q A p C Lc H.next E H' → WR 115 tabN none c E H' Q) :
    WR 115 tabN none (.seq (.reg F_augurylaw10_NormOrder.r0) (.seq (.reg F_augurylaw10_NormOrder.r1) (.seq (.seq (.reg F_augurylaw10_NormOrder.r2) (.cond (.t 26) (.seq (.reg F_augurylaw10_NormOrder.r3) .ret) .skip)) (.seq (.reg F_augurylaw10_NormOrder.r4) (.seq (.reg F_augurylaw10_NormOrder.r5) (.seq (.dreg 1 F_augurylaw10_NormOrder.r6) (.seq (.reg F_augurylaw10_NormOrder.r7) (.seq (.dreg 2 F_augurylaw10_NormOrder.r8) (.seq (.reg F_augurylaw10_NormOrder.r9) (.seq (.reg F_augurylaw10_NormOrder.r10) (.seq (.reg F_augurylaw10_NormOrder.r11) (.seq (.seq (.reg F_augurylaw10_NormOrder.r12) (.cond (.t 73) (.seq (.reg F_augurylaw10_NormOrder.r13) (.dreg 0 F_augurylaw10_NormOrder.r14)) .skip)) c)))))))))))) (argX [.agg (queryC q), .v (.int .u8 a0)]) (low0 H) Q := by
  have hh : ∀ H R, cK tabN (.fn n_augurylaw10_head) [] H R = R (bD true) H := fun H R => (cK.run (cK_orc oN_head10 ⟨(bD true, H), rfl, rfl, rfl⟩)).cK R
  obtain ⟨g, hg⟩ := (Great_run q H0).run
  have hG := fun H => (runN oN_Great (by simp) hg H).cK
  have hR := fun H => (runN oN_Right (by simp) (tree_Right_run q H0) H).cK
  rw [queryC_qC q] at hG hR ⊢
  cases g with
  | true =>
    simp [hh, hG]
    exact hret _ _ (by simp) (by simp)
  | false =>
  cases hq : rightP q with
  | false =>
    rw [hq] at hR
    simp [hh, hG, hR]
    exact hret _ _ (by simp) (by simp)
  | true =>
  rw [hq] at hR
  obtain ⟨a1, a2, a3, a4, a5, a6, a7, a8, a9, a10⟩ := right_parts hq
  by_cases hnil : q.preds.l = []
  · simp only [Sl.enc] at hG hR ⊢
    simp [hh, hG, hR]
    simp [hnil]
    exact hret _ _ (by simp) (by simp)
  · have hpos : 0 < q.preds.l.length := List.length_pos_iff.2 hnil
    have hne : ¬ ((q.preds.l.length : Int) = 0) := by omega
    simp only [Sl.enc] at hG hR ⊢
    simp [hh, hG, hR]
    simp [hnil, hne]
    have hwa : IntKind.i64.wrap (a0 : Int) = (a0 : Int) := wrap64 (by omega) (by omega)
    have hrem : evBin .rem (.v (.int .i64 (IntKind.i64.wrap (a0 : Int)))) (i64D q.preds.l.length) = some (i64D ((a0 % q.preds.l.length : Nat) : Int)) := by
      rw [hwa, bin_rem _ _ _ hne, Int.ofNat_tmod]
    simp only [hrem]
    generalize hkk : a0 % q.preds.l.length = k
    have hk : k < q.preds.l.length := by rw [← hkk]; exact Nat.mod_lt _ hpos
    obtain ⟨A, p, C, hl, hA⟩ : ∃ A p C, q.preds.l = A ++ p :: C ∧ A.length = k := ⟨q.preds.l.take k, q.preds.l[k], q.preds.l.drop (k + 1), by rw [List.getElem_cons_drop, List.take_append_drop], by simp; omega⟩
    have hlen : q.preds.l.length = A.length + (C.length + 1) := by rw [hl]; simp
    obtain ⟨cap, hs1⟩ := sl_from predC_len q.preds.rep A (p :: C) .i64 (by simp)
    rw [← hl, hA] at hs1
    obtain ⟨cap2, hs2⟩ := slice_to' 15 q.preds.rep q.preds.l.length k (q.preds.l.flatMap predC) hpos (by omega)
    have htake : (q.preds.l.flatMap predC).take (k * 15) = A.flatMap predC := by
      rw [hl, List.flatMap_append, ← hA]
      exact List.take_left' (flatMap_length predC_len A)
    rw [htake] at hs2
    have hA1 := fun (H1 : Heap) (r : Nat) h => app_data (H := H1) (r := r) (n := (p :: C).length) (some cap) ((p :: C).flatMap predC) (by simp) (by simp; omega) (flatMap_length predC_len _) h
    have hsa : ∀ z : List D, z.length = 5 → ∀ d, setAll z 0 (qC q d) = qC q d := fun z h d => setAll_full z _ (by rw [h]; rfl)
    rw [slD_some] at hs1 hs2
    simp only [slD_some] at hA1
    simp only [List.length_cons, List.flatMap_cons] at hs1 hA1
    simp [hs1, hs2, hA1, hsa]
    refine own_data (b := H.next + 2) (lo := H.next) (m := C.length + 1) (L := predC p ++ C.flatMap predC) (.inr ⟨by omega, H.next + 3, rfl, by omega, by simp, by simp⟩) (by omega) (by simp [flatMap_length predC_len]; omega) (by rw [flatMap_length predC_len, hA]) (by omega) (by simp) (by simp) (by simp) (by omega) _ fun ra Ha ga1 ga2 ga3 ga4 ga5 ga6 gaf => ?_
    simp at ga4
    have b0 : Ha.get H.next = some (.cells (qC q (slD q.preds.rep q.preds.l.length (q.preds.l.flatMap predC)))) := by rw [gaf _ (by omega)]; simp
    have b1 : Ha.get (H.next + 1) = some (.cells (qC q (slD q.preds.rep q.preds.l.length (q.preds.l.flatMap predC)))) := by rw [gaf _ (by omega)]; simp
    have n0 : (H.next = Ha.next) = False := by simp; omega
    have n1 : (H.next + 1 = Ha.next) = False := by simp; omega
    have hA2 := fun (H1 : Heap) (r : Nat) h => app_data (H := H1) (r := r) (n := q.preds.l.length) q.preds.rep (q.preds.l.flatMap predC) hpos (by omega) (flatMap_length predC_len _) h
    have ea := elem_at predC_len q.preds.rep q.preds.l .i64 k p (by rw [hl, ← hA]; simp)
    simp [b0, b1, get_set, hsa, n0, n1, hA2, ea, load_elem _ _ _ _ (predC_len p), setAll_full]
    refine own_app (b := Ha.next + 1) (lo := H.next) (L := q.preds.l.flatMap predC) (n := q.preds.l.length) (X := predC p) (.inr ⟨hpos, Ha.next + 3, rfl, by omega, by simp, by simp⟩) (predC_len p) (flatMap_length predC_len _) (by omega) (by decide) (by simp) ?_ ?_ (by simp) (by omega) _ fun db Hb ob nb lb1 lb2 gb => ?_
    · simp
      repeat' split
      all_goals omega
    · simp
      repeat' split
      all_goals omega
    simp at nb
    have c0 : Hb.get H.next = some (.cells (qC q (slD q.preds.rep q.preds.l.length (q.preds.l.flatMap predC)))) := by
      rw [gb _ (by omega)]
      have e1 : ∀ j, (H.next = Ha.next + j) = False := by simp; omega
      simp [get_set, n0, e1, b0]
    have c1 : Hb.get (H.next + 1) = some (.cells (qC q (.rs ra 0 (C.length + 1 + k) none 15))) := by
      rw [gb _ (by omega)]
      have e1 : ∀ j, (H.next = Ha.next + j) = False := by simp; omega
      simp [get_set, n0, n1, e1, b1]
    have c2 : Hb.get Ha.next = some (.cells (qC q (slD q.preds.rep q.preds.l.length (q.preds.l.flatMap predC)))) := by
      rw [gb _ (by omega)]
      simp [get_set]
    have c3 : Hb.get ra = some (.cells (predC p ++ C.flatMap predC ++ A.flatMap predC)) := by
      rw [gb _ (by omega)]
      have e1 : ∀ j, (ra = Ha.next + j) = False := by simp; omega
      have e2 : (ra = Ha.next) = False := by simp; omega
      have e3 : (ra = H.next + 1) = False := by simp; omega
      simp [get_set, e1, e2, e3, ga1]
    have hdb : cellsOf db = some [db] := by rcases ob with ⟨h, -, rfl⟩ | ⟨-, r', rfl, -⟩ <;> rfl
    have m0 : (H.next = Hb.next) = False := by simp; omega
    have m1 : ∀ j, (H.next = Hb.next + j) = False := by simp; omega
    have m2 : (H.next = Ha.next) = False := by simp; omega
    have m3 : (Ha.next = Hb.next) = False := by simp; omega
    have m4 : ∀ j, (Ha.next = Hb.next + j) = False := by simp; omega
    simp [c0, c1, c2, hdb, get_set, hsa, m0, m1, m2, m3, m4, hA2, ea, load_elem _ _ _ _ (predC_len p), setAll_full]
    have hP : slD q.preds.rep q.preds.l.length (q.preds.l.flatMap predC) = q.preds.enc predC := rfl
    have hcount : C.length + 1 + k = q.preds.l.length := by omega
    rcases ob with ⟨ho, -⟩ | ⟨-, rb, hdbr, rb1, rb2, rb3⟩
    · omega
    subst hdbr
    have x1 : (H.next + 1 = Hb.next) = False := by simp; omega
    have y1 : ∀ j, (ra = Hb.next + j) = False := by simp; omega
    have y2 : (ra = Hb.next) = False := by simp; omega
    have y3 : (ra = Ha.next) = False := by simp; omega
    have z1 : ∀ j, (rb = Hb.next + j) = False := by simp; omega
    have z2 : (rb = Hb.next) = False := by simp; omega
    have z3 : (rb = Ha.next) = False := by simp; omega
    have hLa : p :: C ++ A = p :: (C ++ A) := rfl
    refine gK_of (fun h3 => ?_) (fun h3 => ?_)
    · simp at h3
      have hp : predX p = true := List.all_eq_true.1 a2 p (by rw [hl]; simp)
      have hst := fun (H1 : Heap) (r : Nat) h => preds_store (H := H1) (r := r) A p (turnP p) C h
      rw [← hl, hA] at hst
      have hst' : ∀ (H1 : Heap) (r : Nat), H1.get r = some (.cells (q.preds.l.flatMap predC)) → evStore H1 15 (.rf r (k * 15)) (.agg (predR (turnP p).cmp p.R p.L)) = some (H1.set r (.cells ((A ++ turnP p :: C).flatMap predC))) := fun H1 r h => hst H1 r h
      have h6 : p.cmp ≤ 6 := by
        unfold predX at hp
        simp only [Bool.and_eq_true, decide_eq_true_eq] at hp
        exact hp.1.1.2
      have hcmp : p.cmp = 3 ∨ p.cmp = 4 ∨ p.cmp = 5 ∨ p.cmp = 6 := by omega
      have fin : ∀ (E : Fr) (H' : Heap), E 2 = .rf H.next 0 → E 5 = bD true → E 7 = .rf (H.next + 1) 0 → E 8 = .rf Ha.next 0 → E 9 = .rf Hb.next 0 → H'.get H.next = some (.cells (qC q (q.preds.enc predC))) → H'.get (H.next + 1) = some (.cells (qC q (.rs ra 0 q.preds.l.length none 15))) → H'.get ra = some (.cells ((p :: C ++ A).flatMap predC)) → H'.get Ha.next = some (.cells (qC q (.rs rb 0 (q.preds.l.length + 1) none 15))) → H'.get rb = some (.cells ((q.preds.l ++ [p]).flatMap predC)) →
          H'.get Hb.next = some (.cells (qC q (.rs (Hb.next + 2) 0 q.preds.l.length none 15))) → H'.get (Hb.next + 2) = some (.cells ((A ++ turnP p :: C).flatMap predC)) → H.next ≤ H'.low → H'.low ≤ H'.next → Hb.next + 3 ≤ H'.next → WR 115 tabN none c E H' Q := fun E H' f2 f5 f7 f8 f9 k0 k1 k2 k3 k4 k5 k6 l1 l2 l3 =>
        hgo hq A p C _ E H' hl (.inr ⟨h3, rfl⟩) ⟨f2, f5, f7, k0, ⟨ra, k1, k2, by omega⟩, ⟨Ha.next, _, f8, by omega, k3, .inr ⟨by omega, rb, rfl, Nat.zero_le _, by omega, k4⟩⟩, ⟨Hb.next, Hb.next + 2, f9, by omega, k5, k6, by omega⟩, l1, l2, by omega⟩
      rcases hcmp with e | e | e | e
      · have et : (turnP p).cmp = 5 := by simp [turnP, e]
        rw [et] at hst'
        simp [-store_rf, e, get_set, predR_build2, hst', setAll_len, hk]
        refine fin _ _ (by simp) (by simp) (by simp) (by simp) (by simp) ?_ ?_ ?_ ?_ ?_ ?_ ?_ ?_ ?_ ?_
        · simp [get_set, m0, m1, m2, c0, hP]
        · simp [get_set, m0, m1, x1, n1, c1, hcount]
        · simp [get_set, y1, y2, y3, c3]
        · simp [get_set, m3, m4, c2]
        · simp [get_set, z1, z2, z3, rb3]
        · simp [get_set]
        · simp [get_set, hl]
        · simp
          repeat' split
          all_goals omega
        · simp
          repeat' split
          all_goals omega
        · simp
      · have et : (turnP p).cmp = 6 := by simp [turnP, e]
        rw [et] at hst'
        simp [-store_rf, e, get_set, predR_build2, hst', setAll_len, hk]
        refine fin _ _ (by simp) (by simp) (by simp) (by simp) (by simp) ?_ ?_ ?_ ?_ ?_ ?_ ?_ ?_ ?_ ?_
        · simp [get_set, m0, m1, m2, c0, hP]
        · simp [get_set, m0, m1, x1, n1, c1, hcount]
        · simp [get_set, y1, y2, y3, c3]
        · simp [get_set, m3, m4, c2]
        · simp [get_set, z1, z2, z3, rb3]
        · simp [get_set]
        · simp [get_set, hl]
        · simp
          repeat' split
          all_goals omega
        · simp
          repeat' split
          all_goals omega
        · simp
      · have et : (turnP p).cmp = 3 := by simp [turnP, e]
        rw [et] at hst'
        simp [-store_rf, e, get_set, predR_build2, hst', setAll_len, hk]
        refine fin _ _ (by simp) (by simp) (by simp) (by simp) (by simp) ?_ ?_ ?_ ?_ ?_ ?_ ?_ ?_ ?_ ?_
        · simp [get_set, m0, m1, m2, c0, hP]
        · simp [get_set, m0, m1, x1, n1, c1, hcount]
        · simp [get_set, y1, y2, y3, c3]
        · simp [get_set, m3, m4, c2]
        · simp [get_set, z1, z2, z3, rb3]
        · simp [get_set]
        · simp [get_set, hl]
        · simp
          repeat' split
          all_goals omega
        · simp
          repeat' split
          all_goals omega
        · simp
      · have et : (turnP p).cmp = 4 := by simp [turnP, e]
        rw [et] at hst'
        simp [-store_rf, e, get_set, predR_build2, hst', setAll_len, hk]
        refine fin _ _ (by simp) (by simp) (by simp) (by simp) (by simp) ?_ ?_ ?_ ?_ ?_ ?_ ?_ ?_ ?_ ?_
        · simp [get_set, m0, m1, m2, c0, hP]
        · simp [get_set, m0, m1, x1, n1, c1, hcount]
        · simp [get_set, y1, y2, y3, c3]
        · simp [get_set, m3, m4, c2]
        · simp [get_set, z1, z2, z3, rb3]
        · simp [get_set]
        · simp [get_set, hl]
        · simp
          repeat' split
          all_goals omega
        · simp
          repeat' split
          all_goals omega
        · simp
    · simp
      refine hgo hq A p C (A ++ p :: C) _ _ hl (.inl rfl) ⟨by simp, by simp, by simp, ?_, ⟨ra, ?_, ?_, ?_⟩, ⟨Ha.next, .rs rb 0 (q.preds.l.length + 1) none 15, by simp, by simp; omega, ?_, .inr ⟨by omega, rb, rfl, Nat.zero_le _, by simp; omega, ?_⟩⟩, ⟨Hb.next, Hb.next + 2, by simp, by simp, ?_, ?_, by simp⟩, ?_, ?_, ?_⟩
      · simp [get_set, m0, m1, m2, c0, hP]
      · simp [get_set, m0, m1, x1, n1, c1, hcount]
      · simp [get_set, y1, y2, y3, c3]
      · simp; omega
      · simp [get_set, m3, m4, c2]
      · simp [get_set, z1, z2, z3, rb3]
      · simp [get_set]
      · simp [get_set, hl]
      · simp
        repeat' split
        all_goals omega
      · simp
        repeat' split
        all_goals omega
      · simp; omega
end Go.Proofs.YthdkeggdipogoaaGreatDoor.Tz
