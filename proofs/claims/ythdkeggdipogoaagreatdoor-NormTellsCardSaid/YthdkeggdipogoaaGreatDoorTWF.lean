/-
The walks of the reference's text of a predicate and of its Norm. Conditions: none.
-/
import Derived.Test.YthdkeggdipogoaaGreatDoorTX6
namespace Go.Proofs.YthdkeggdipogoaaGreatDoor.Tz
open Go.Aug Go.Aug.Api
set_option maxRecDepth 100000
theorem text_print {q : TQuery} {p : TPred} (hq : rightP q = true) (hp : predX p = true) {H : Heap} {r : Nat} (h : H.get r = some (.cells (predC p))) (R : D → Heap → Prop) :
    cK tabR (.fn n_q20) [.agg [slD q.items.rep q.items.l.length (q.items.l.flatMap itemC), .rs r 0 1 (some 1) 15, i64D q.within, strD q.by_, i64D q.pick]] H R = R (strD (textS q p)) H := by
  have hP := ref08_Print_run (oneQ q p) (right_one hq hp) H0
  rw [textR_one] at hP
  refine (cK.run (cK_frozen (args' := [.agg (queryC (oneQ q p))]) oR_Print (by simp [D.under]) ?_ hP rfl ⟨rfl, rfl⟩)).cK R
  exact frzL_two _ _ _ _ _ (frz_one q p h) (frzL_none _)
theorem ref10_text_run (q : TQuery) (hq : rightP q = true) (p : TPred) (hp : predX p = true) (H : Heap) : Run tabR (.fn n_q53) [.agg (queryC q), .agg (predC p)] H (strD (textS q p)) H := by
  refine cK.run (cK_fn oR_text (tLR t_q53) (Nat.le_of_ble_eq_true rfl) (by decide) ?_)
  have hP := fun (H1 : Heap) (r : Nat) R h => text_print (q := q) hq hp (H := H1) (r := r) h R
  have hp15 : (predC p).take 15 = predC p := List.take_of_length_le (by rw [predC_len]; exact Nat.le_refl _)
  have hfull2 : ∀ z : List D, z.length = 15 → setAll z 0 (predC p) = predC p := fun z h => setAll_full z _ (by rw [predC_len, h])
  simp [queryC, Sl.enc, hp15, hfull2, hP]
theorem stepR_len (q : List TItem) (tx : TPred → ByteArray) (P : TPred) (s : Bool × List TPred) (o : TPred) : (stepR q tx P s o).2.length ≤ s.2.length + 2 := by
  unfold stepR
  split
  · simp
  · split <;> simp
theorem foldR_len (q : List TItem) (tx : TPred → ByteArray) (P : TPred) : ∀ (l : List TPred) (s : Bool × List TPred), (l.foldl (stepR q tx P) s).2.length ≤ s.2.length + 2 * l.length
  | [], s => by simp
  | o :: l, s => by
    have h1 := foldR_len q tx P l (stepR q tx P s o)
    have h2 := stepR_len q tx P s o
    simp only [List.foldl_cons, List.length_cons]
    omega
def RowAt (L : List TPred) (c : Nat) (H : Heap) (d : D) : Prop :=
  (L = [] ∧ d = .v (.slice none 0 0)) ∨ ∃ r, d = .rs r 0 L.length none 15 ∧ r < c ∧ H.get r = some (.cells (L.flatMap predC))
theorem pred_load {L pre suf : List TPred} {x : TPred} {H : Heap} {r : Nat} (hl : L = pre ++ x :: suf) (h : H.get r = some (.cells (L.flatMap predC))) : evLoad H (some 15) (.rf r (pre.length * 15)) = some (.agg (predC x)) := by
  have hd := drop_zip predC_len pre (x :: suf)
  rw [← hl] at hd
  simp [h, hd]
def InR (q : TQuery) (P : TPred) (out : List TPred) (d : D) (i : Int) (b c : Nat) (H1 : Heap) (j : Nat) (E : Fr) (H' : Heap) : Prop :=
  ∃ pre suf, out = pre ++ suf ∧ j = suf.length ∧ E 1 = .rf b 0 ∧ E 2 = .rf (b + 1) 0 ∧ E 3 = d ∧ E 4 = i64D i ∧ E 5 = .rf c 0 ∧ E 6 = i64D (placeN q.items.l P) ∧ E 7 = strD (textS q P) ∧
    Own ((pre.foldl (stepR q.items.l (textS q) P) (false, [])).2.flatMap predC) (pre.foldl (stepR q.items.l (textS q) P) (false, [])).2.length 15 (c + 1) H' (E 8) ∧ E 9 = bD (pre.foldl (stepR q.items.l (textS q) P) (false, [])).1 ∧ E 10 = i64D pre.length ∧
    (∀ r, r < c + 1 → H'.get r = H1.get r) ∧ b ≤ H'.low ∧ H'.low ≤ H'.next ∧ c + 1 ≤ H'.next
theorem ref_inner (q : TQuery) (hq : rightP q = true) (P : TPred) (hP : predX P = true) (out : List TPred) (hout : ∀ x ∈ out, predX x = true) (hlen : out.length ≤ 100) (d : D) (i : Int) (b c : Nat) (hbc : b + 2 ≤ c) (H1 : Heap) (gb : H1.get b = some (.cells (queryC q))) (gc : H1.get c = some (.cells (predC P))) (hd : RowAt out c H1 d)
    (Q : PostX) (E : Fr) (h0 : InR q P out d i b c H1 out.length E H1) (hend : ∀ E H', InR q P out d i b c H1 0 E H' → Q (.exit 2) E H') : LR (WR 98 tabR none F_q51.l22) E H1 Q := by
  refine LR_rule (WR_mono _) (InR q P out d i b c H1) ?_ h0
  clear h0
  rintro j E H' ⟨pre, suf, hl, rfl, e1, e2, e3, e4, e5, e6, e7, e8, e9, e10, gf, w1, w2, w3⟩
  obtain ⟨a1, a2, a3, a4, a5, a6, a7, a8, a9, a10⟩ := right_parts hq
  cases suf with
  | nil =>
    have hl' : out = pre := by simpa using hl
    have hlt' : ((pre.length : Int) < (out.length : Int)) = False := by simp [hl']
    have hev : evLen false d = some (i64D out.length) := by
      rcases hd with ⟨h1, rfl⟩ | ⟨r, rfl, -, -⟩
      · rw [h1]; rfl
      · rfl
    simp [e3, e10, hev, hlt']
    exact hend _ _ ⟨pre, [], hl, rfl, by simp [e1], by simp [e2], by simp [e3], by simp [e4], by simp [e5], by simp [e6], by simp [e7], by simpa using e8, by simp [e9], by simp [e10], gf, w1, w2, w3⟩
  | cons o suf =>
    have hlt : pre.length < out.length := by simp [hl]
    have hlt' : ((pre.length : Int) < (out.length : Int)) = True := by simp; omega
    have hw : IntKind.i64.wrap ((pre.length : Int) + 1) = (pre.length : Int) + 1 := wrap64 (by omega) (by omega)
    rcases hd with ⟨h, -⟩ | ⟨r, rfl, r1, gr⟩
    · rw [h] at hlt; simp at hlt
    have ho : predX o = true := hout o (by rw [hl]; simp)
    have hs := foldR_len q.items.l (textS q) P pre (false, [])
    have hfold : (pre ++ [o]).foldl (stepR q.items.l (textS q) P) (false, []) = stepR q.items.l (textS q) P (pre.foldl (stepR q.items.l (textS q) P) (false, [])) o := by simp
    have gb' : H'.get b = some (.cells (queryC q)) := by rw [gf b (by omega)]; exact gb
    have gc' : H'.get c = some (.cells (predC P)) := by rw [gf c (by omega)]; exact gc
    have gr' : H'.get r = some (.cells (out.flatMap predC)) := by rw [gf r (by omega)]; exact gr
    have hload : ∀ H1 : Heap, H1.get r = some (.cells (out.flatMap predC)) → evLoad H1 (some 15) (.rf r (pre.length * 15)) = some (.agg (predC o)) := fun H1 h => pred_load hl h
    have hq5 : (queryC q).take 5 = queryC q := List.take_of_length_le (by rw [queryC_len]; exact Nat.le_refl _)
    have htk : ∀ p : TPred, (predC p).take 15 = predC p := fun p => List.take_of_length_le (by rw [predC_len]; exact Nat.le_refl _)
    have hfull2 : ∀ (z : List D) (p : TPred), z.length = 15 → setAll z 0 (predC p) = predC p := fun z p h => setAll_full z _ (by rw [predC_len, h])
    have hS := fun H => (runR oR_SamePred (by simp) (SamePred_run o P H0) H).cK
    have hPl := fun H => (runR oR_rPlace (by simp) (ref10_Place_run q (by omega) o H0) H).cK
    rw [placeR_eq] at hPl
    have hT := fun H => (ref10_text_run q hq o ho H).cK
    have hg : ∀ k, (b = H'.next + k) = False := fun k => by simp; omega
    have hb1 : ((0 : Int) ≤ (pre.length : Int)) = True := by simp
    generalize hst : pre.foldl (stepR q.items.l (textS q) P) (false, []) = s at e8 e9 hs hfold
    obtain ⟨dn, nx⟩ := s
    simp at hs e8 e9
    have put : ∀ (x : TPred) (H2 : Heap) (d8 : D) (nx : List TPred) (Q : D × Heap → Prop), nx.length ≤ 1000 → Own (nx.flatMap predC) nx.length 15 (c + 1) H2 d8 → b ≤ H2.low → H2.low ≤ H2.next → c + 1 ≤ H2.next →
        (∀ d' H3, Own ((nx ++ [x]).flatMap predC) (nx ++ [x]).length 15 (c + 1) H3 d' → H3.next = H2.next + 2 → b ≤ H3.low → H3.low ≤ H3.next → (∀ q, q < c + 1 → H3.get q = H2.get q) → Q (d', H3)) →
        oK (evApp (H2.add (.cells (predC x))) false 15 200 d8 (.rs H2.next 0 1 (some 1) 15)) Q := fun x H2 d8 nx Q hn ho h1 h2 h3 hk => by
      refine own_app (b := c + 1) (lo := b) (L := nx.flatMap predC) (X := predC x) (ho.mono (by simp) fun k h1 h2 => ?_) (predC_len x) (by rw [flatMap_length predC_len]) (by omega) (by decide) (by simp) (by simpa using h1) (by simp; omega) (by simp; omega) (by omega) _ fun d' H3 o2 n2 l2 l3 g2 => ?_
      · have : (k = H2.next) = False := by simp; omega
        simp [this]
      · refine hk d' H3 (by simpa using o2) (by simp at n2; omega) l2 l3 fun k hkk => ?_
        have : (k = H2.next) = False := by simp; omega
        rw [g2 k hkk]
        simp [this]
    have hlc : ∀ H1 : Heap, H1.get c = some (.cells (predC P)) → evLoad H1 (some 15) (.rf c 0) = some (.agg (predC P)) := fun H1 h => by simp [h, htk]
    have hlb : ∀ H1 : Heap, H1.get b = some (.cells (queryC q)) → evLoad H1 (some 5) (.rf b 0) = some (.agg (queryC q)) := fun H1 h => by simp [h, hq5]
    by_cases cd : (dn || sameP o P) = true
    · have hst2 : stepR q.items.l (textS q) P (dn, nx) o = (true, nx ++ [o]) := by unfold stepR; rw [if_pos cd]
      rw [hst2] at hfold
      have fin : ∀ (E : Fr), E 1 = .rf b 0 → E 2 = .rf (b + 1) 0 → E 3 = .rs r 0 out.length none 15 → E 4 = i64D i → E 5 = .rf c 0 → E 6 = i64D (placeN q.items.l P) → E 7 = strD (textS q P) → E 9 = bD true → ∀ d' H3, Own ((nx ++ [o]).flatMap predC) (nx ++ [o]).length 15 (c + 1) H3 d' → H3.next = H'.next + 2 → b ≤ H3.low → H3.low ≤ H3.next → (∀ q, q < c + 1 → H3.get q = H'.get q) → E 8 = d' → E 10 = i64D (pre.length + 1) → InR q P out (.rs r 0 out.length none 15) i b c H1 suf.length E H3 := fun E e1 e2 e3 e4 e5 e6 e7 e9 d' H3 o3 n3 l3 m3 g3 e8 e10 =>
        ⟨pre ++ [o], suf, by simp [hl], rfl, e1, e2, e3, e4, e5, e6, e7, by rw [hfold, e8]; exact o3, by rw [hfold]; exact e9, by simp [e10], fun k hk => by rw [g3 k hk, gf k hk], l3, m3, by omega⟩
      cases dn with
      | true =>
        cases csp : sameP o P with
        | true =>
          rw [csp] at hS
          simp [-load_rf, e1, e3, e5, e6, e7, e10, hlt', hload, gr', gb', gc', hlc, hlb, hS, hPl, hT, hfull2, hw]
          refine put o H' (E 8) nx _ (by omega) e8 w1 w2 w3 fun d' H3 o3 n3 l3 m3 g3 => ?_
          simp [hw]
          exact ⟨suf.length, by omega, fin _ (by simp [e1]) (by simp [e2]) (by simp [e3]) (by simp [e4]) (by simp [e5]) (by simp [e6]) (by simp [e7]) (by simp [e9]) d' H3 o3 n3 l3 m3 g3 (by simp) (by simp)⟩
        | false =>
          rw [csp] at hS
          simp [-load_rf, e1, e3, e5, e6, e7, e9, e10, hlt', hload, gr', gb', gc', hlc, hlb, hS, hPl, hT, hfull2, hw]
          refine put o H' (E 8) nx _ (by omega) e8 w1 w2 w3 fun d' H3 o3 n3 l3 m3 g3 => ?_
          simp [hw]
          exact ⟨suf.length, by omega, fin _ (by simp [e1]) (by simp [e2]) (by simp [e3]) (by simp [e4]) (by simp [e5]) (by simp [e6]) (by simp [e7]) (by simp [e9]) d' H3 o3 n3 l3 m3 g3 (by simp) (by simp)⟩
      | false =>
        have csp : sameP o P = true := by simpa using cd
        rw [csp] at hS
        simp [-load_rf, e1, e3, e5, e6, e7, e9, e10, hlt', hload, gr', gb', gc', hlc, hlb, hS, hPl, hT, hfull2, hw]
        refine put o H' (E 8) nx _ (by omega) e8 w1 w2 w3 fun d' H3 o3 n3 l3 m3 g3 => ?_
        simp [hw]
        exact ⟨suf.length, by omega, fin _ (by simp [e1]) (by simp [e2]) (by simp [e3]) (by simp [e4]) (by simp [e5]) (by simp [e6]) (by simp [e7]) (by simp) d' H3 o3 n3 l3 m3 g3 (by simp) (by simp)⟩
    · have cd1 : dn = false := by
        cases dn with
        | true => exact absurd (by simp) cd
        | false => rfl
      have csp : sameP o P = false := by
        cases h : sameP o P with
        | true => rw [h] at cd; exact absurd (by simp) cd
        | false => rfl
      subst cd1
      rw [csp] at hS
      by_cases cl : ltP q.items.l (textS q) P o = true
      · have hst2 : stepR q.items.l (textS q) P (false, nx) o = (true, (nx ++ [P]) ++ [o]) := by unfold stepR; rw [if_neg cd, if_pos cl]; simp
        rw [hst2] at hfold
        have fin : ∀ (E : Fr), E 1 = .rf b 0 → E 2 = .rf (b + 1) 0 → E 3 = .rs r 0 out.length none 15 → E 4 = i64D i → E 5 = .rf c 0 → E 6 = i64D (placeN q.items.l P) → E 7 = strD (textS q P) → E 9 = bD true → ∀ d' H3, Own (((nx ++ [P]) ++ [o]).flatMap predC) ((nx ++ [P]) ++ [o]).length 15 (c + 1) H3 d' → H'.next ≤ H3.next → b ≤ H3.low → H3.low ≤ H3.next → (∀ q, q < c + 1 → H3.get q = H'.get q) → E 8 = d' → E 10 = i64D (pre.length + 1) → InR q P out (.rs r 0 out.length none 15) i b c H1 suf.length E H3 := fun E e1 e2 e3 e4 e5 e6 e7 e9 d' H3 o3 n3 l3 m3 g3 e8 e10 =>
          ⟨pre ++ [o], suf, by simp [hl], rfl, e1, e2, e3, e4, e5, e6, e7, by rw [hfold, e8]; exact o3, by rw [hfold]; exact e9, by simp [e10], fun k hk => by rw [g3 k hk, gf k hk], l3, m3, by omega⟩
        have cl' : placeN q.items.l P < placeN q.items.l o ∨ (placeN q.items.l P = placeN q.items.l o ∧ Op.bytesLess (textS q P).toList (textS q o).toList = true) := by
          unfold ltP ltK kfN at cl
          simpa using cl
        rcases cl' with c1 | ⟨c1, c2⟩
        · simp [-load_rf, gK_not, e1, e3, e5, e6, e7, e9, e10, hlt', hload, gr', gb', gc', hlc, hlb, hS, hPl, hT, hfull2, hw, c1]
          refine put P H' (E 8) nx _ (by omega) e8 w1 w2 w3 fun d1 H2 o2 n2 l2 m2 g2 => ?_
          have gr2 : H2.get r = some (.cells (out.flatMap predC)) := by rw [g2 r (by omega)]; exact gr'
          simp [-load_rf, e1, e3, e5, e6, e7, e10, hload, gr2, hfull2]
          refine put o H2 d1 (nx ++ [P]) _ (by simp; omega) o2 l2 m2 (by omega) fun d' H3 o3 n3 l3 m3 g3 => ?_
          simp [hw]
          exact ⟨suf.length, by omega, fin _ (by simp [e1]) (by simp [e2]) (by simp [e3]) (by simp [e4]) (by simp [e5]) (by simp [e6]) (by simp [e7]) (by simp) d' H3 o3 (by omega) l3 m3 (fun k hk => by rw [g3 k hk, g2 k hk]) (by simp) (by simp)⟩
        · have c0 : (placeN q.items.l P < placeN q.items.l o) = False := eq_false (by omega)
          have c1' : (placeN q.items.l P = placeN q.items.l o) = True := eq_true c1
          simp [-load_rf, gK_not, e1, e3, e5, e6, e7, e9, e10, hlt', hload, gr', gb', gc', hlc, hlb, hS, hPl, hT, hfull2, hw, c0, c1', c2, bin_lssT]
          refine put P H' (E 8) nx _ (by omega) e8 w1 w2 w3 fun d1 H2 o2 n2 l2 m2 g2 => ?_
          have gr2 : H2.get r = some (.cells (out.flatMap predC)) := by rw [g2 r (by omega)]; exact gr'
          simp [-load_rf, e1, e3, e5, e6, e7, e10, hload, gr2, hfull2]
          refine put o H2 d1 (nx ++ [P]) _ (by simp; omega) o2 l2 m2 (by omega) fun d' H3 o3 n3 l3 m3 g3 => ?_
          simp [hw]
          exact ⟨suf.length, by omega, fin _ (by simp [e1]) (by simp [e2]) (by simp [e3]) (by simp [e4]) (by simp [e5]) (by simp [e6]) (by simp [e7]) (by simp) d' H3 o3 (by omega) l3 m3 (fun k hk => by rw [g3 k hk, g2 k hk]) (by simp) (by simp)⟩
      · have hst2 : stepR q.items.l (textS q) P (false, nx) o = (false, nx ++ [o]) := by unfold stepR; rw [if_neg cd, if_neg cl]
        rw [hst2] at hfold
        have fin : ∀ (E : Fr), E 1 = .rf b 0 → E 2 = .rf (b + 1) 0 → E 3 = .rs r 0 out.length none 15 → E 4 = i64D i → E 5 = .rf c 0 → E 6 = i64D (placeN q.items.l P) → E 7 = strD (textS q P) → E 9 = bD false → ∀ d' H3, Own ((nx ++ [o]).flatMap predC) (nx ++ [o]).length 15 (c + 1) H3 d' → H'.next ≤ H3.next → b ≤ H3.low → H3.low ≤ H3.next → (∀ q, q < c + 1 → H3.get q = H'.get q) → E 8 = d' → E 10 = i64D (pre.length + 1) → InR q P out (.rs r 0 out.length none 15) i b c H1 suf.length E H3 := fun E e1 e2 e3 e4 e5 e6 e7 e9 d' H3 o3 n3 l3 m3 g3 e8 e10 =>
          ⟨pre ++ [o], suf, by simp [hl], rfl, e1, e2, e3, e4, e5, e6, e7, by rw [hfold, e8]; exact o3, by rw [hfold]; exact e9, by simp [e10], fun k hk => by rw [g3 k hk, gf k hk], l3, m3, by omega⟩
        have cl' : placeN q.items.l o ≤ placeN q.items.l P ∧ (placeN q.items.l P = placeN q.items.l o → Op.bytesLess (textS q P).toList (textS q o).toList = false) := by
          have cl2 : ltP q.items.l (textS q) P o = false := by simpa using cl
          unfold ltP ltK kfN at cl2
          simpa using cl2
        have c0 : (placeN q.items.l P < placeN q.items.l o) = False := eq_false (by omega)
        by_cases c1 : placeN q.items.l P = placeN q.items.l o
        · have c2 := cl'.2 c1
          have c1' : (placeN q.items.l P = placeN q.items.l o) = True := eq_true c1
          simp [-load_rf, gK_not, e1, e3, e5, e6, e7, e9, e10, hlt', hload, gr', gb', gc', hlc, hlb, hS, hPl, hT, hfull2, hw, c0, c1', c2, bin_lssT]
          refine put o H' (E 8) nx _ (by omega) e8 w1 w2 w3 fun d' H3 o3 n3 l3 m3 g3 => ?_
          simp [hw]
          exact ⟨suf.length, by omega, fin _ (by simp [e1]) (by simp [e2]) (by simp [e3]) (by simp [e4]) (by simp [e5]) (by simp [e6]) (by simp [e7]) (by simp [e9]) d' H3 o3 (by omega) l3 m3 g3 (by simp) (by simp)⟩
        · have c1' : (placeN q.items.l P = placeN q.items.l o) = False := eq_false c1
          simp [-load_rf, gK_not, e1, e3, e5, e6, e7, e9, e10, hlt', hload, gr', gb', gc', hlc, hlb, hS, hPl, hT, hfull2, hw, c0, c1']
          refine put o H' (E 8) nx _ (by omega) e8 w1 w2 w3 fun d' H3 o3 n3 l3 m3 g3 => ?_
          simp [hw]
          exact ⟨suf.length, by omega, fin _ (by simp [e1]) (by simp [e2]) (by simp [e3]) (by simp [e4]) (by simp [e5]) (by simp [e6]) (by simp [e7]) (by simp [e9]) d' H3 o3 (by omega) l3 m3 g3 (by simp) (by simp)⟩
theorem oR_rRight_run (q : TQuery) (H : Heap) : Run tabR (.fn n_q21) [.agg (queryC q)] H (bD (rightP q)) H := by
  have := runR oR_Right (by simp) (ref08_Right_run q H0) H
  rw [rightQ_eq] at this
  exact this
def refQ (q : TQuery) : TQuery := if h : rightP q = true ∧ (normR q.items.l (textS q) q.preds.l).length ≤ big then { q with preds := ⟨repL (normR q.items.l (textS q) q.preds.l), normR q.items.l (textS q) q.preds.l, h.2⟩ } else zQuery
def OutR (q : TQuery) (b : Nat) (j : Nat) (E : Fr) (H' : Heap) : Prop :=
  ∃ pre suf, q.preds.l = pre ++ suf ∧ j = suf.length ∧ E 1 = .rf b 0 ∧ E 2 = .rf (b + 1) 0 ∧ Own ((normR q.items.l (textS q) pre).flatMap predC) (normR q.items.l (textS q) pre).length 15 (b + 2) H' (E 3) ∧ E 4 = i64D pre.length ∧
    H'.get b = some (.cells (queryC q)) ∧ (∃ z, H'.get (b + 1) = some (.cells z) ∧ z.length = 5) ∧ b ≤ H'.low ∧ H'.low ≤ H'.next ∧ b + 2 ≤ H'.next
theorem normR_snoc (q : List TItem) (tx : TPred → ByteArray) (pre : List TPred) (p : TPred) : normR q tx (pre ++ [p]) = insR q tx (normP p) (normR q tx pre) := by simp [normR]
theorem put_pred {b c : Nat} (hbc : b ≤ c) (x : TPred) (H2 : Heap) (d8 : D) (nx : List TPred) (Q : D × Heap → Prop) (hn : nx.length ≤ 1000) (ho : Own (nx.flatMap predC) nx.length 15 c H2 d8) (h1 : b ≤ H2.low) (h2 : H2.low ≤ H2.next) (h3 : c ≤ H2.next)
    (hk : ∀ d' H3, Own ((nx ++ [x]).flatMap predC) (nx ++ [x]).length 15 c H3 d' → H3.next = H2.next + 2 → b ≤ H3.low → H3.low ≤ H3.next → (∀ q, q < c → H3.get q = H2.get q) → Q (d', H3)) :
    oK (evApp (H2.add (.cells (predC x))) false 15 200 d8 (.rs H2.next 0 1 (some 1) 15)) Q := by
  refine own_app (b := c) (lo := b) (L := nx.flatMap predC) (X := predC x) (ho.mono (by simp) fun k h1 h2 => ?_) (predC_len x) (by rw [flatMap_length predC_len]) (by omega) (by decide) (by simp) (by simpa using h1) (by simp; omega) (by simp; omega) (by omega) _ fun d' H3 o2 n2 l2 l3 g2 => ?_
  · have : (k = H2.next) = False := by simp; omega
    simp [this]
  · refine hk d' H3 (by simpa using o2) (by simp at n2; omega) l2 l3 fun k hkk => ?_
    have : (k = H2.next) = False := by simp; omega
    rw [g2 k hkk]
    simp [this]
theorem Own.weak {L : List D} {n size b b' : Nat} {H : Heap} {d : D} (h : Own L n size b H d) (hb : b' ≤ b) : Own L n size b' H d := by
  rcases h with h | ⟨h1, r, h2, h3, h4, h5⟩
  · exact .inl h
  · exact .inr ⟨h1, r, h2, by omega, h4, h5⟩
theorem ref_outer (q : TQuery) (hq : rightP q = true) (b : Nat) (Q : PostX) (E : Fr) (H1 : Heap) (h0 : OutR q b q.preds.l.length E H1) (hend : ∀ E H', OutR q b 0 E H' → Q (.exit 0) E H') : LR (WR 98 tabR none F_q51.l27) E H1 Q := by
  refine LR_rule (WR_mono _) (OutR q b) ?_ h0
  clear h0
  rintro j E H' ⟨pre, suf, hl, rfl, e1, e2, e3, e4, g0, ⟨z, g1, gz⟩, w1, w2, w3⟩
  obtain ⟨a1, a2, a3, a4, a5, a6, a7, a8, a9, a10⟩ := right_parts hq
  have hq1 : ∀ q : TQuery, (queryC q)[1]? = some (q.preds.enc predC) := fun _ => rfl
  have hq1' : ∀ (q : TQuery) (h : 1 < (queryC q).length), (queryC q)[1] = q.preds.enc predC := fun _ _ => rfl
  cases suf with
  | nil =>
    have hl' : q.preds.l = pre := by simpa using hl
    have hlt' : ((pre.length : Int) < (q.preds.l.length : Int)) = False := by simp [hl']
    simp [e1, e4, g0, hq1, hq1', Sl.enc, hlt']
    exact hend _ _ ⟨pre, [], hl, rfl, by simp [e1], by simp [e2], by simpa using e3, by simp [e4], g0, ⟨z, g1, gz⟩, w1, w2, w3⟩
  | cons p suf =>
    have hlt : pre.length < q.preds.l.length := by simp [hl]
    have hlt' : ((pre.length : Int) < (q.preds.l.length : Int)) = True := by simp; omega
    have hw : IntKind.i64.wrap ((pre.length : Int) + 1) = (pre.length : Int) + 1 := wrap64 (by omega) (by omega)
    have ea := elem_at predC_len q.preds.rep q.preds.l .i64 pre.length p (by rw [hl]; simp)
    have hp : predX p = true := List.all_eq_true.1 a2 p (by rw [hl]; simp)
    have hn := (predX_norm hp).1
    have hq5 : (queryC q).take 5 = queryC q := List.take_of_length_le (by rw [queryC_len]; exact Nat.le_refl _)
    have htk : ∀ p : TPred, (predC p).take 15 = predC p := fun p => List.take_of_length_le (by rw [predC_len]; exact Nat.le_refl _)
    have hfull2 : ∀ (z : List D) (p : TPred), z.length = 15 → setAll z 0 (predC p) = predC p := fun z p h => setAll_full z _ (by rw [predC_len, h])
    have hT0 : ∀ H, Run tabR (.fn n_q54) [.agg (predC p)] H (.agg (predC (normP p))) H := fun H => runR oR_turned (by simp) (ref10_turned_run p hp H0) H
    have hT := fun H => (hT0 H).cK
    have hPl := fun H => (runR oR_rPlace (by simp) (ref10_Place_run q (by omega) (normP p) H0) H).cK
    rw [placeR_eq] at hPl
    have hX := fun H => (ref10_text_run q hq (normP p) hn H).cK
    have n0 : ∀ k, (b = H'.next + k) = False := fun k => by simp; omega
    have n1 : (b = H'.next) = False := by simp; omega
    obtain ⟨r1, r2, -, -, r5⟩ := normR_ok (q := q.items.l) (tx := textS q) (fun a b ha hb h => text_inj ha hb h) (fun a b h => same_text q h) pre (fun x hx => List.all_eq_true.1 a2 x (by rw [hl]; simp [hx])) [] (by simp) List.Pairwise.nil
    have hlen : (normR q.items.l (textS q) pre).length ≤ 8 := by
      have : (normR q.items.l (textS q) pre).length ≤ pre.length := by simpa [normR] using r5
      omega
    have hout : ∀ x ∈ normR q.items.l (textS q) pre, predX x = true := fun x hx => by
      rcases r2 x hx with h | ⟨y, hy, rfl⟩
      · simp at h
      · exact (predX_norm (List.all_eq_true.1 a2 y (by rw [hl]; simp [hy]))).1
    simp [e1, e4, g0, hq1, hq1', Sl.enc, hlt', ea, load_elem _ _ _ _ (predC_len p), hq5, htk, hT, hfull2, hPl, hX, n0, n1, w2]
    have hrow : RowAt (normR q.items.l (textS q) pre) H'.next (H'.add (.cells (predC (normP p)))) (E 3) := by
      rcases e3 with ⟨h1, -, h3⟩ | ⟨-, r, h2, h3, h4, h5⟩
      · exact .inl ⟨List.length_eq_zero_iff.1 h1, h3⟩
      · have : (r = H'.next) = False := by simp; omega
        exact .inr ⟨r, h2, h4, by simp [this, h5]⟩
    refine ref_inner q hq (normP p) hn (normR q.items.l (textS q) pre) hout (by omega) (E 3) pre.length b H'.next (by omega) _ (by simp [n1, g0]) (by simp) hrow _ _ ?_ fun E2 H2 hi => ?_
    · exact ⟨[], _, rfl, rfl, by simp [e1], by simp [e2], by simp, by simp [e4], by simp, by simp, by simp, .inl ⟨rfl, rfl, by simp⟩, by simp, by simp, fun r hr => rfl, by simpa using w1, by simp; omega, by simp⟩
    · obtain ⟨pre2, suf2, hl2, hj, f1, f2, f3, f4, f5, f6, f7, f8, f9, f10, gf, v1, v2, v3⟩ := hi
      have hsuf : suf2 = [] := List.length_eq_zero_iff.1 hj.symm
      subst hsuf
      have hpre : pre2 = normR q.items.l (textS q) pre := by simpa using hl2.symm
      rw [hpre] at f8 f9
      have hins := normR_snoc q.items.l (textS q) pre p
      unfold insR at hins
      have hs := foldR_len q.items.l (textS q) (normP p) (normR q.items.l (textS q) pre) (false, [])
      generalize hst : (normR q.items.l (textS q) pre).foldl (stepR q.items.l (textS q) (normP p)) (false, []) = s at f8 f9 hs hins
      obtain ⟨dn, nx⟩ := s
      simp at hs f8 f9
      have n2 : (b + 1 = H'.next) = False := by simp; omega
      have gb : H2.get b = some (.cells (queryC q)) := by rw [gf b (by omega)]; simp [n1, g0]
      have gb1 : H2.get (b + 1) = some (.cells z) := by rw [gf (b + 1) (by omega)]; simp [n2, g1]
      have gc : H2.get H'.next = some (.cells (predC (normP p))) := by rw [gf _ (by omega)]; simp
      cases dn with
      | true =>
        simp [f4, f9, hw]
        refine ⟨suf.length, by omega, pre ++ [p], suf, by simp [hl], rfl, by simp [f1], by simp [f2], ?_, by simp, gb, ⟨z, gb1, gz⟩, v1, v2, by omega⟩
        rw [hins]
        simp [doneR]
        exact f8.weak (by omega)
      | false =>
        simp [f4, f5, f9, gc, htk, hfull2]
        refine put_pred (b := b) (c := H'.next + 1) (by omega) (normP p) H2 (E2 8) nx _ (by omega) f8 v1 v2 v3 fun d' H3 o3 n3 l3 m3 g3 => ?_
        simp [f4, hw]
        refine ⟨suf.length, by omega, pre ++ [p], suf, by simp [hl], rfl, by simp [f1], by simp [f2], ?_, by simp, by rw [g3 b (by omega)]; exact gb, ⟨z, by rw [g3 (b + 1) (by omega)]; exact gb1, gz⟩, l3, m3, by omega⟩
        rw [hins]
        simp [doneR]
        simpa using o3.weak (by omega)
theorem ref10_Norm_run (q : TQuery) (H : Heap) : Run tabR (.fn n_q51) [.agg (queryC q)] H (.agg (queryC (refQ q))) H := by
  refine cK.run (cK_fn oR_rNorm (tLR t_q51) (Nat.le_of_ble_eq_true rfl) (by decide) ?_)
  have hR := fun H => (oR_rRight_run q H).cK
  have hq5 : (queryC q).take 5 = queryC q := List.take_of_length_le (by rw [queryC_len]; exact Nat.le_refl _)
  have hz : tabR.fz n_q51 = true := by kernel_rfl
  cases hq : rightP q with
  | false =>
    rw [hq] at hR
    have hn : refQ q = zQuery := by unfold refQ; rw [dif_neg (by rw [hq]; simp)]
    rw [hn]
    simp [hq5, hR]
    rfl
  | true =>
    rw [hq] at hR
    obtain ⟨a1, a2, a3, a4, a5, a6, a7, a8, a9, a10⟩ := right_parts hq
    obtain ⟨r1, r2, -, -, r5⟩ := normR_ok (q := q.items.l) (tx := textS q) (fun a b ha hb h => text_inj ha hb h) (fun a b h => same_text q h) q.preds.l (fun x hx => List.all_eq_true.1 a2 x hx) [] (by simp) List.Pairwise.nil
    have hlen : (normR q.items.l (textS q) q.preds.l).length ≤ 8 := by
      have : (normR q.items.l (textS q) q.preds.l).length ≤ q.preds.l.length := by simpa [normR] using r5
      omega
    have hbig : (normR q.items.l (textS q) q.preds.l).length ≤ big := Nat.le_trans hlen (by decide)
    simp [hq5, hR]
    refine ref_outer q hq H.next _ _ _ ?_ fun E H' hi => ?_
    · exact ⟨[], q.preds.l, rfl, rfl, by simp, by simp, .inl ⟨rfl, rfl, by simp⟩, by simp, by simp, ⟨_, by simp; rfl, rfl⟩, by simp, by simp, by simp⟩
    · obtain ⟨pre, suf, hl, hj, e1, e2, e3, e4, g0, ⟨z, g1, gz⟩, w1, w2, w3⟩ := hi
      have hsuf : suf = [] := List.length_eq_zero_iff.1 hj.symm
      subst hsuf
      have hpre : pre = q.preds.l := by simpa using hl.symm
      rw [hpre] at e3
      have hsa : ∀ d, setAll z 0 (qC q d) = qC q d := fun d => setAll_full z _ (by rw [gz]; rfl)
      rw [queryC_qC] at g0
      have hd1 : cellsOf (E 3) = some [E 3] := by
        rcases e3 with ⟨-, -, h⟩ | ⟨-, r, h, -⟩ <;> rw [h] <;> rfl
      have hn : refQ q = { q with preds := ⟨repL (normR q.items.l (textS q) q.preds.l), normR q.items.l (textS q) q.preds.l, hbig⟩ } := by
        unfold refQ
        rw [dif_pos ⟨hq, hbig⟩]
      simp [e1, e2, g0, hd1, get_set, g1, gz, hsa]
      rw [hz, finX_frozen ?_ (frz_qC (b := H.next + 2) (l := normR q.items.l (textS q) q.preds.l) ?_ (by omega) hbig)]
      · exact ⟨by rw [hn], rfl⟩
      · simp only [low_set]
        repeat' split
        all_goals omega
      · refine e3.mono (by simp) fun x h1 h2 => ?_
        rw [get_set, if_neg (by omega), get_set, if_neg (by omega)]
theorem refQ_right {q : TQuery} (h : rightP q = true) : ∃ hb, refQ q = { q with preds := ⟨repL (normR q.items.l (textS q) q.preds.l), normR q.items.l (textS q) q.preds.l, hb⟩ } := by
  obtain ⟨a1, a2, a3, a4, a5, a6, a7, a8, a9, a10⟩ := right_parts h
  obtain ⟨-, -, -, -, r5⟩ := normR_ok (q := q.items.l) (tx := textS q) (fun a b ha hb h => text_inj ha hb h) (fun a b h => same_text q h) q.preds.l (fun x hx => List.all_eq_true.1 a2 x hx) [] (by simp) List.Pairwise.nil
  have hlen : (normR q.items.l (textS q) q.preds.l).length ≤ 8 := by
    have : (normR q.items.l (textS q) q.preds.l).length ≤ q.preds.l.length := by simpa [normR] using r5
    omega
  have hbig : (normR q.items.l (textS q) q.preds.l).length ≤ big := Nat.le_trans hlen (by decide)
  refine ⟨hbig, ?_⟩
  unfold refQ
  rw [dif_pos ⟨h, hbig⟩]
theorem norm_ref_same (q : TQuery) (H : Heap) : Run tab (.fn n_q23) [.agg (queryC (normQ q)), .agg (queryC (refQ q))] H (bD true) H := by
  cases hq : rightP q with
  | false =>
    have h1 : normQ q = zQuery := by unfold normQ; rw [dif_neg (by rw [hq]; decide)]
    have h2 : refQ q = zQuery := by unfold refQ; rw [dif_neg (by rw [hq]; simp)]
    rw [h1, h2]
    exact Same_run zQuery zQuery rfl rfl (samePs_refl _) rfl rfl rfl H
  | true =>
    obtain ⟨hb, h2⟩ := refQ_right hq
    obtain ⟨a1, a2, -⟩ := right_parts hq
    obtain ⟨h3, h4⟩ := normR_same (q := q.items.l) (tx := textS q) (ps := q.preds.l) (fun x hx => List.all_eq_true.1 a2 x hx) (fun a b ha hb h => text_inj ha hb h) (fun a b h => same_text q h)
    rw [normQ_right hq, h2]
    exact Same_run { q with preds := ⟨repL (normL q.items.l (textS q) q.preds.l), normL q.items.l (textS q) q.preds.l, Nat.le_trans (normL_length ..) q.preds.ok⟩ } { q with preds := ⟨repL (normR q.items.l (textS q) q.preds.l), normR q.items.l (textS q) q.preds.l, hb⟩ } rfl h3 h4 rfl rfl rfl H
end Go.Proofs.YthdkeggdipogoaaGreatDoor.Tz
