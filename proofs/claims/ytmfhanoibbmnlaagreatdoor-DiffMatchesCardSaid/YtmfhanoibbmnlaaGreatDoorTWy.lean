/-
The walk of norm.Norm. Conditions: none.
-/
import Derived.Test.YtmfhanoibbmnlaaGreatDoorTYu
namespace Go.Aug.Api
open Go.Aug
def repL {α : Type} (l : List α) : Option (Option Nat) := match l with
  | [] => none
  | _ :: _ => some none
end Go.Aug.Api
namespace Go.Proofs.YtmfhanoibbmnlaaGreatDoor.Tz
open Go.Aug Go.Aug.Api
set_option maxRecDepth 100000
def zQuery : TQuery := ⟨.nil, .nil, 0, emptyS, 0, Nat.zero_le _⟩
def normQ (q : TQuery) : TQuery := if h : rightP q = true then { q with preds := ⟨repL (normL q.items.l (textS q) q.preds.l), normL q.items.l (textS q) q.preds.l, Nat.le_trans (normL_length ..) q.preds.ok⟩ } else zQuery
theorem oN_Norm : tabN.orc n_q76 = none := by kernel_rfl
@[simp] theorem qC_len (q : TQuery) (d : D) : (qC q d).length = 5 := rfl
@[simp] theorem qC_take (q : TQuery) (d : D) : (qC q d).take 5 = qC q d := rfl
@[simp] theorem qC_1 (q : TQuery) (d : D) : (qC q d)[1]? = some d := rfl
@[simp] theorem qC_1' (q : TQuery) (d : D) (h : 1 < (qC q d).length) : (qC q d)[1] = d := rfl
@[simp] theorem qC_set (q : TQuery) (d x : D) : (qC q d).set 1 x = qC q x := rfl
def kN (q : TQuery) (p : TPred) : TKeyed := keyN q.items.l (textS q) p
theorem keyed_16' (k : TKeyed) (h : 16 < (keyedC k).length) : (keyedC k)[16] = strD k.text := by
  have := keyed_16 k
  rw [List.getElem?_eq_getElem h] at this
  exact Option.some.inj this
theorem onceN_snoc (l : List TKeyed) (k : TKeyed) : onceN (l ++ [k]) = addN (onceN l) k := by simp [onceN]
structure PredsAt (H : Heap) (d : D) (l : List TPred) : Prop where
  len : evLen false d = some (i64D l.length)
  one : cellsOf d = some [d]
  elem : ∀ i a, l[i]? = some a → ∃ p, evIadr 15 d (.v (.int .i64 (i : Nat))) = some p ∧ ∀ H', (∀ r, r < H.next → H'.get r = H.get r) → evLoad H' (some 15) p = some (.agg (predC a))
theorem PredsAt.data (H : Heap) (l : Sl TPred) : PredsAt H (l.enc predC) l.l :=
  ⟨sl_len _ _ _, sl_cells _ _ _, fun i a h => ⟨_, elem_at predC_len l.rep l.l .i64 i a h, fun H' _ => load_elem _ _ _ _ (predC_len a)⟩⟩
theorem PredsAt.own {H : Heap} {r : Nat} (l : List TPred) (c : Option Nat) (h : H.get r = some (.cells (l.flatMap predC))) (hr : r < H.next) : PredsAt H (.rs r 0 l.length c 15) l := by
  refine ⟨rfl, rfl, fun i a hi => ?_⟩
  obtain ⟨hlt, hx⟩ := List.getElem?_eq_some_iff.1 hi
  have hlt' : ((i : Int) < (l.length : Int)) := by omega
  refine ⟨.rf r (0 + i * 15), by rw [iadr_rs, if_pos ⟨by omega, hlt'⟩]; rfl, fun H' hf => ?_⟩
  have hsplit : l = l.take i ++ a :: l.drop (i + 1) := by rw [← hx, List.getElem_cons_drop, List.take_append_drop]
  have hlen : (l.take i).length = i := by simp; omega
  have hd := drop_zip predC_len (l.take i) (a :: l.drop (i + 1))
  rw [← hsplit, hlen] at hd
  have := (hf r hr).trans h
  simp [this, hd]
def FirstInv (q : TQuery) (d : D) (H0 : Heap) (b : Nat) (j : Nat) (E : Fr) (H' : Heap) : Prop :=
  ∃ pre suf m, q.preds.l = pre ++ suf ∧ j = suf.length ∧ E 1 = .rf b 0 ∧ E 2 = .rf (b + 1) 0 ∧ E 3 = .mp (b + 2) ∧ Own ((onceN (pre.map (kN q))).flatMap keyedC) (onceN (pre.map (kN q))).length 17 (b + 3) H' (E 4) ∧ E 16 = d ∧ E 17 = i64D q.preds.l.length ∧ E 18 = i64D pre.length ∧
    H'.get b = some (.cells (qC q d)) ∧ (∃ z, H'.get (b + 1) = some (.cells z) ∧ z.length = 5) ∧ H'.get (b + 2) = some (.map (encT m)) ∧ (∀ r, r < b → H'.get r = H0.get r) ∧ (∀ t, 0 ≤ countT m t ∧ countT m t ≤ pre.length ∧ (countT m t = 0 ↔ ((onceN (pre.map (kN q))).any fun x => decide (x.text = t)) = false)) ∧ b ≤ H'.low ∧ H'.low ≤ H'.next ∧ b + 3 ≤ H'.next
theorem norm_first (q : TQuery) (hq : rightP q = true) (d : D) (H0 : Heap) (b : Nat) (hb0 : H0.next = b) (hd : PredsAt H0 d q.preds.l) (Q : PostX) (E : Fr) (H1 : Heap) (h0 : FirstInv q d H0 b q.preds.l.length E H1)
    (hend : ∀ E H', FirstInv q d H0 b 0 E H' → Q (.exit 0) E H') : LR (WR 58 tabN none F_q76.l13) E H1 Q := by
  refine LR_rule (WR_mono _) (FirstInv q d H0 b) ?_ h0
  clear h0
  rintro j E H' ⟨pre, suf, m, hl, rfl, e1, e2, e3, e4, e16, e17, e18, g0, g1, g2, gf, hc, w1, w2, w3⟩
  obtain ⟨a1, a2, a3, a4, a5, a6, a7, a8, a9, a10⟩ := right_parts hq
  have hok := q.preds.ok
  cases suf with
  | nil =>
    have hl' : q.preds.l = pre := by simpa using hl
    have hlt' : ((pre.length : Int) < (q.preds.l.length : Int)) = False := by simp [hl']
    simp [e17, e18, hlt']
    exact hend _ _ ⟨pre, [], m, hl, rfl, by simp [e1], by simp [e2], by simp [e3], by simpa using e4, by simp [e16], by simp [e17], by simp [e18], g0, g1, g2, gf, hc, w1, w2, w3⟩
  | cons p suf =>
    have hlt : pre.length < q.preds.l.length := by simp [hl]
    have hlt' : ((pre.length : Int) < (q.preds.l.length : Int)) = True := by simp; omega
    have hw : IntKind.i64.wrap ((pre.length : Int) + 1) = (pre.length : Int) + 1 := wrap64 (by omega) (by omega)
    obtain ⟨pp, ea, ea2⟩ := hd.elem pre.length p (by rw [hl]; simp)
    have ea2 := ea2 H' (fun r hr => gf r (by omega))
    have hp : predX p = true := List.all_eq_true.1 a2 p (by rw [hl]; simp)
    have hK : ∀ H R, cK tabN (.fn n_q79) [.agg (qC q d), .agg (predC p)] H R = R (.agg (keyedC (kN q p))) H := fun H R => (norm_key_run q d p hq hp H).cK R
    have n0 : (b = H'.next) = False := by simp; omega
    have n1 : ∀ k, (b = H'.next + k) = False := by simp; omega
    have n2 : ∀ k, k < 3 → (b + k = H'.next) = False := fun k hk => by simp; omega
    have n3 : ∀ k j, k < 3 → (b + k = H'.next + j) = False := fun k j hk => by simp; omega
    have n4 : (H'.next = b + 1) = False := by simp; omega
    have n5 : (H'.next = b) = False := by simp; omega
    have n6 : (H'.next + 1 = b + 2) = False := by simp; omega
    have hset := fun z h => keyed_set z (kN q p) h
    have htk : (keyedC (kN q p)).take 17 = keyedC (kN q p) := List.take_of_length_le (by rw [keyedC_len]; exact Nat.le_refl _)
    have hlook1 : ∀ H1 k, H1.get (b + 2) = some (.map (encT m)) → evMlook H1 .text (.v (.int .i64 0)) false (.mp (b + 2)) (.v (.string k)) = some (i64D (countT m k)) := fun H1 k h => look_encT h k
    have hput : ∀ H1 k x, H1.get (b + 2) = some (.map (encT m)) → evMput H1 .text (.mp (b + 2)) (.v (.string k)) (.v (.int .i64 x)) = some (H1.set (b + 2) (.map (encT (putT m k x)))) := fun H1 k x h => put_encT h k x
    generalize hk : kN q p = k at *
    have hlook2 : ∀ H1, H1.get (b + 2) = some (.map (encT (putT m k.text (countT m k.text + 1)))) → evMlook H1 .text (.v (.int .i64 0)) false (.mp (b + 2)) (.v (.string k.text)) = some (i64D (countT m k.text + 1)) := fun H1 h => by
      have := look_encT h k.text
      rw [count_putT, if_pos rfl] at this
      exact this
    obtain ⟨c1, c2, c3⟩ := hc k.text
    have hw1 : IntKind.i64.wrap (countT m k.text + 1) = countT m k.text + 1 := wrap64 (by omega) (by omega)
    have hmap : pre.map (kN q) ++ [k] = (pre ++ [p]).map (kN q) := by simp [hk]
    have hc' : ∀ L : List TKeyed, (∀ t, (L.any fun x => decide (x.text = t)) = ((onceN (pre.map (kN q))).any (fun x => decide (x.text = t)) || decide (k.text = t))) → ∀ t, 0 ≤ countT (putT m k.text (countT m k.text + 1)) t ∧ countT (putT m k.text (countT m k.text + 1)) t ≤ ((pre ++ [p]).length : Int) ∧ (countT (putT m k.text (countT m k.text + 1)) t = 0 ↔ (L.any fun x => decide (x.text = t)) = false) := fun L hL t => by
      obtain ⟨d1, d2, d3⟩ := hc t
      rw [count_putT, hL t]
      simp only [List.length_append, List.length_cons, List.length_nil]
      by_cases ht : t = k.text
      · subst ht
        simp
        omega
      · have ht' : ¬ k.text = t := fun e => ht e.symm
        rw [if_neg ht]
        simp only [decide_eq_false ht', Bool.or_false]
        refine ⟨d1, by push_cast; omega, d3⟩
    have hlow3 : ∀ x, x ≤ b + 2 → b ≤ x → b ≤ (if b + 2 < x then b + 2 else x) := fun x _ h => by split <;> omega
    simp [Sl.enc, e1, e2, e3, e16, e17, e18, hlt', ea, ea2, setAll_full, w2, hK, g0, n0, n1, hset, htk, keyedC_len, get_set, keyed_16, keyed_16', hlook1, hput, n2, n3, n4, n5, n6, g2, hw1, hlook2]
    refine gK_of (fun hone => ?_) (fun hone => ?_)
    · have h0 : countT m k.text = 0 := by simp at hone; omega
      have hany := c3.1 h0
      have hadd : onceN ((pre ++ [p]).map (kN q)) = onceN (pre.map (kN q)) ++ [k] := by
        rw [← hmap, onceN_snoc, addN, if_neg (by rw [hany]; decide)]
      have hon := onceN_length (pre.map (kN q))
      simp at hon
      simp [e1, e2, e3, e16, e17, e18, w2, g0, n0, n1, hset, htk, keyedC_len, get_set, keyed_16, keyed_16', hlook1, hput, n2, n3, n4, n5, n6, g2, hw1, hlook2]
      refine own_app (b := b + 3) (lo := b) (L := (onceN (pre.map (kN q))).flatMap keyedC) (X := keyedC k) (e4.mono (by simp) fun x h1 h2 => ?_) (keyedC_len k) (flatMap_length keyedC_len _) (by omega) (by decide) (by simp) ?_ ?_ (by simp; omega) (by omega) _ fun d' H2 o2 nn2 l2 l3 gg2 => ?_
      · have q1 : (x = H'.next) = False := by simp; omega
        have q2 : (x = H'.next + 1) = False := by simp; omega
        have q3 : (x = H'.next + 2) = False := by simp; omega
        have q4 : (x = b + 2) = False := by simp; omega
        simp [get_set, q1, q2, q3, q4]
      · simp
        repeat' split
        all_goals omega
      · simp
        repeat' split
        all_goals omega
      · have gb : ∀ x, x < b + 3 → H2.get x = if x = b + 2 then some (.map (encT (putT m k.text (countT m k.text + 1)))) else H'.get x := fun x hx => by
          rw [gg2 x hx]
          have q1 : (x = H'.next) = False := by simp; omega
          have q2 : (x = H'.next + 1) = False := by simp; omega
          have q3 : (x = H'.next + 2) = False := by simp; omega
          by_cases hx2 : x = b + 2
          · subst hx2
            simp [get_set, n0, n2, n3, g2]
          · simp [get_set, q1, q2, q3, hx2]
        obtain ⟨z, g1, gz⟩ := g1
        simp [e1, e2, e3, e16, e17, e18, hw]
        refine ⟨suf.length, by omega, pre ++ [p], suf, putT m k.text (countT m k.text + 1), by simp [hl], rfl, by simp [e1], by simp [e2], by simp [e3], ?_, by simp [e16], by simp [e17], by simp, ?_, ⟨z, ?_, gz⟩, ?_, fun r hr => ?_, hc' _ fun t => ?_, l2, l3, by simp at nn2; omega⟩
        · rw [hadd]
          simpa using o2
        · rw [gb b (by omega), if_neg (by omega)]
          exact g0
        · rw [gb (b + 1) (by omega), if_neg (by omega)]
          exact g1
        · rw [gb (b + 2) (by omega), if_pos rfl]
        · rw [gb r (by omega), if_neg (by omega)]
          exact gf r hr
        · rw [hadd]
          simp
    · have h0 : ¬ countT m k.text = 0 := by simp at hone; omega
      have hany : ((onceN (pre.map (kN q))).any fun x => decide (x.text = k.text)) = true := by
        cases h : (onceN (pre.map (kN q))).any fun x => decide (x.text = k.text) with
        | true => rfl
        | false => exact absurd (c3.2 h) h0
      have hadd : onceN ((pre ++ [p]).map (kN q)) = onceN (pre.map (kN q)) := by
        rw [← hmap, onceN_snoc, addN, if_pos hany]
      obtain ⟨z, g1, gz⟩ := g1
      simp [e1, e2, e3, e16, e17, e18, hw]
      have gb : ∀ x, x ≠ b + 2 → x < H'.next → ((((H'.add (.cells (predC p))).add (.cells [D.v (Value.int IntKind.i64 0), D.v (Value.int IntKind.i64 0), D.v (Value.int IntKind.i64 0),
                      D.v (Value.int IntKind.i64 0), D.v (Value.string { data := #[] }), D.v (Value.string { data := #[] }), D.v (Value.string { data := #[] }), D.v (Value.slice none 0 0),
                      D.v (Value.int IntKind.i64 0), D.v (Value.int IntKind.i64 0), D.v (Value.int IntKind.i64 0), D.v (Value.string { data := #[] }), D.v (Value.string { data := #[] }),
                      D.v (Value.string { data := #[] }), D.v (Value.slice none 0 0), D.v (Value.int IntKind.i64 0), D.v (Value.string { data := #[] })])).set (H'.next + 1) (.cells (keyedC k))).set (b + 2) (.map (encT (putT m k.text (countT m k.text + 1))))).get x = H'.get x := fun x hx hx2 => by
        have q1 : (x = H'.next) = False := by simp; omega
        have q2 : (x = H'.next + 1) = False := by simp; omega
        simp [get_set, q1, q2, hx]
      refine ⟨suf.length, by omega, pre ++ [p], suf, putT m k.text (countT m k.text + 1), by simp [hl], rfl, by simp [e1], by simp [e2], by simp [e3], ?_, by simp [e16], by simp [e17], by simp, ?_, ⟨z, ?_, gz⟩, ?_, fun r hr => ?_, hc' _ fun t => ?_, ?_, ?_, by simp; omega⟩
      · rw [hadd]
        simp
        exact e4.mono (by simp) fun x h1 h2 => gb x (by omega) h2
      · rw [gb b (by omega) (by omega)]
        exact g0
      · rw [gb (b + 1) (by omega) (by omega)]
        exact g1
      · simp [get_set, n2, n3, g2]
      · rw [gb r (by omega) (by omega)]
        exact gf r hr
      · rw [hadd]
        by_cases ht : k.text = t
        · subst ht
          rw [hany]
          rfl
        · simp [ht]
      · simp
        repeat' split
        all_goals omega
      · simp
        repeat' split
        all_goals omega
def IsRows (rows : List TKeyed) (lo hi : Nat) (H : Heap) (d : D) : Prop :=
  (rows = [] ∧ d = .v (.slice none 0 0)) ∨ (rows ≠ [] ∧ ∃ r, d = .rs r 0 rows.length none 17 ∧ lo ≤ r ∧ r < hi ∧ H.get r = some (.cells (rows.flatMap keyedC)))
def SecondInv (q : TQuery) (rows : List TKeyed) (b b2 : Nat) (j : Nat) (E : Fr) (H' : Heap) : Prop :=
  ∃ pre suf d, rows = pre ++ suf ∧ j = suf.length ∧ E 1 = .rf b 0 ∧ E 2 = .rf (b + 1) 0 ∧ IsRows rows (b + 3) b2 H' (E 43) ∧ E 44 = i64D rows.length ∧ E 45 = i64D pre.length ∧
    H'.get b = some (.cells (qC q d)) ∧ (∃ z, H'.get (b + 1) = some (.cells z) ∧ z.length = 5) ∧ Own ((pre.map (·.pred)).flatMap predC) pre.length 15 b2 H' d ∧ b ≤ H'.low ∧ H'.low ≤ H'.next ∧ b2 ≤ H'.next
theorem keyed_take15 (k : TKeyed) : (keyedC k).take 15 = predC k.pred := by
  unfold keyedC
  exact List.take_left' (predC_len k.pred)
theorem norm_second (q : TQuery) (rows : List TKeyed) (hlen : rows.length ≤ 8) (b b2 : Nat) (hb : b + 3 ≤ b2) (Q : PostX) (E : Fr) (H1 : Heap) (h0 : SecondInv q rows b b2 rows.length E H1)
    (hend : ∀ E H', SecondInv q rows b b2 0 E H' → Q (.exit 2) E H') : LR (WR 58 tabN none F_q76.l21) E H1 Q := by
  refine LR_rule (WR_mono _) (SecondInv q rows b b2) ?_ h0
  clear h0
  rintro j E H' ⟨pre, suf, d, hl, rfl, e1, e2, e43, e44, e45, g0, g1, ho, w1, w2, w3⟩
  cases suf with
  | nil =>
    have hl' : rows = pre := by simpa using hl
    have hlt' : ((pre.length : Int) < (rows.length : Int)) = False := by simp [hl']
    simp [e44, e45, hlt']
    exact hend _ _ ⟨pre, [], d, hl, rfl, by simp [e1], by simp [e2], by simpa using e43, by simp [e44], by simp [e45], g0, g1, ho, w1, w2, w3⟩
  | cons k suf =>
    have hlt : pre.length < rows.length := by simp [hl]
    have hlt' : ((pre.length : Int) < (rows.length : Int)) = True := by simp; omega
    have hw : IntKind.i64.wrap ((pre.length : Int) + 1) = (pre.length : Int) + 1 := wrap64 (by omega) (by omega)
    have hne : rows ≠ [] := by rw [hl]; simp
    rcases e43 with ⟨h, -⟩ | ⟨-, r, e43, r1, r2, gr⟩
    · exact absurd h hne
    have hload : ∀ H1 : Heap, H1.get r = some (.cells (rows.flatMap keyedC)) → evLoad H1 (some 17) (.rf r (pre.length * 17)) = some (.agg (keyedC k)) := fun H1 h => rows_load hl h
    have n0 : (b = H'.next) = False := by simp; omega
    have n1 : ∀ j, (b = H'.next + j) = False := by simp; omega
    have n2 : (r = H'.next) = False := by simp; omega
    have hset := fun z h => keyed_set z k h
    have hi2 : ((0 : Int) ≤ (pre.length : Int)) = True := by simp
    simp [-load_rf, e1, e2, e43, e44, e45, hlt', hload, gr, hset, keyedC_len]
    simp [get_set, n0, n1, g0, keyed_take15, setAll_full, keyedC_len]
    have hcells : ∀ x, D.v x = D.v x := fun _ => rfl
    refine own_app (b := b2) (lo := b) (L := (pre.map (·.pred)).flatMap predC) (X := predC k.pred) (ho.mono (by simp) fun x h1 h2 => ?_) (predC_len k.pred) (by rw [flatMap_length predC_len]; simp) (by omega) (by decide) (by simp) ?_ ?_ (by simp; omega) (by omega) _ fun d' H2 o2 nn2 l2 l3 gg2 => ?_
    · have q1 : (x = H'.next) = False := by simp; omega
      have q2 : (x = H'.next + 1) = False := by simp; omega
      simp [get_set, q1, q2]
    · simp
      repeat' split
      all_goals omega
    · simp
      repeat' split
      all_goals omega
    · simp at nn2
      have gb : ∀ x, x < b2 → H2.get x = H'.get x := fun x hx => by
        rw [gg2 x hx]
        have q1 : (x = H'.next) = False := by simp; omega
        have q2 : (x = H'.next + 1) = False := by simp; omega
        simp [get_set, q1, q2]
      have hb0 : H2.get b = some (.cells (qC q d)) := by rw [gb b (by omega)]; exact g0
      obtain ⟨z, g1, gz⟩ := g1
      have hd1 : cellsOf d' = some [d'] := by
        rcases o2 with ⟨h, -, rfl⟩ | ⟨-, r', rfl, -⟩ <;> rfl
      simp [hb0, hd1, hw]
      refine ⟨suf.length, by omega, pre ++ [k], suf, d', hl.trans (by simp), rfl, by simp [e1], by simp [e2], .inr ⟨hne, r, by simp [e43], r1, r2, ?_⟩, by simp [e44], by simp, ?_, ⟨z, ?_, gz⟩, ?_, ?_, ?_, ?_⟩
      · rw [get_set, if_neg (by omega), gb r (by omega)]; exact gr
      · rw [get_set, if_pos ⟨rfl, by rw [hb0]; rfl⟩]
      · rw [get_set, if_neg (by omega), gb (b + 1) (by omega)]; exact g1
      · have := o2.mono (H' := H2.set b (.cells (qC q d'))) (Nat.le_refl _) fun x h1 h2 => by rw [get_set, if_neg (by omega)]
        simpa using this
      · simp only [low_set]; split <;> omega
      · simp only [low_set, next_set]; split <;> omega
      · simp only [next_set]; omega
theorem frz_own {L : List D} {n size b lo : Nat} {H : Heap} {d : D} (h : Own L n size b H d) (hl : L.length = n * size) (hp : D.under.underAll 0 L = true) (hb : lo ≤ b) (f : Nat) : frz H lo (f + 2) d = some (slD (if n = 0 then none else some none) n L) := by
  rcases h with ⟨rfl, rfl, rfl⟩ | ⟨hpos, r, rfl, h1, h2, h3⟩
  · rw [frz_v]; rfl
  · have hn : ¬ r < lo := by omega
    have h0 : ¬ n = 0 := by omega
    have hp2 : ∀ L : List D, D.under.underAll 0 L = true → frzL (frz H lo (f + 1)) L = some L := by
      intro L
      induction L with
      | nil => intro _; rfl
      | cons d L ih =>
        intro h
        simp only [under_cons, Bool.and_eq_true] at h
        exact frzL_two _ _ _ _ _ (frz_under0 H lo f d (under_zero _ _ h.1)) (ih h.2)
    rw [frz_rs, if_neg hn, h3]
    simp only [Nat.zero_add, hl, Nat.le_refl, if_true, List.drop_zero]
    rw [List.take_of_length_le (by omega), hp2 L hp, if_neg h0]
    rfl
theorem frz_qC {q : TQuery} {l : List TPred} {b lo : Nat} {H : Heap} {d : D} (h : Own (l.flatMap predC) l.length 15 b H d) (hb : lo ≤ b) (hn : l.length ≤ big) : frz H lo 64 (.agg (qC q d)) = some (.agg (queryC { q with preds := ⟨repL l, l, hn⟩ })) := by
  have hd := frz_own h (by rw [flatMap_length predC_len]) (by simp) hb 61
  have hr : (if l.length = 0 then none else some none : Option (Option Nat)) = repL l := by cases l <;> rfl
  rw [hr] at hd
  have hi : frz H lo 63 (q.items.enc itemC) = some (q.items.enc itemC) := frz_under0 H lo 62 _ (under_zero _ _ (by simp))
  have hfr : frzL (frz H lo 63) (qC q d) = some (queryC { q with preds := ⟨repL l, l, hn⟩ }) := by
    unfold qC
    simp only [frzL_cons, frzL_nil, hi, hd, frz_v]
    rfl
  rw [frz_agg]
  split
  · rename_i hu
    have : ∀ L : List D, D.under.underAll lo L = true → frzL (frz H lo 63) L = some L := by
      intro L
      induction L with
      | nil => intro _; rfl
      | cons x L ih =>
        intro h
        simp only [under_cons, Bool.and_eq_true] at h
        exact frzL_two _ _ _ _ _ (frz_under0 H lo 62 x h.1) (ih h.2)
    rw [this _ hu] at hfr
    rw [Option.some.inj hfr]
  · rw [hfr]
    rfl
set_option maxHeartbeats 1000000 in
theorem norm_Norm_gen (q : TQuery) (d : D) (H : Heap) (hd : PredsAt H d q.preds.l) (hR : ∀ H', (∀ r, r < H.next → H'.get r = H.get r) → ∀ R, cK tabN (.fn n_q111) [.agg (qC q d)] H' R = R (bD (rightP q)) H') : Run tabN (.fn n_q76) [.agg (qC q d)] H (.agg (queryC (normQ q))) H := by
  refine cK.run (cK_fn oN_Norm (tN t_q76) (Nat.le_of_ble_eq_true rfl) (by decide) ?_)
  have hR1 := hR (((low0 H).add (.cells (qC q d))).add (.cells [.v (.slice none 0 0), .v (.slice none 0 0), i64D 0, strD ⟨#[]⟩, i64D 0])) (fun r hr => by
    have e1 : (r = H.next) = False := by simp; omega
    have e2 : (r = H.next + 1) = False := by simp; omega
    simp [e1, e2])
  have hz : tabN.fz n_q76 = true := by kernel_rfl
  cases hq : rightP q with
  | false =>
    rw [hq] at hR1
    have hn : normQ q = zQuery := by unfold normQ; rw [dif_neg (by rw [hq]; decide)]
    rw [hn]
    simp [hR1]
    rfl
  | true =>
    rw [hq] at hR1
    obtain ⟨a1, a2, a3, a4, a5, a6, a7, a8, a9, a10⟩ := right_parts hq
    simp [hR1, hd.len]
    refine norm_first q hq d H H.next rfl hd _ _ _ ?_ fun E H' hi => ?_
    · refine ⟨[], q.preds.l, [], rfl, rfl, by simp, by simp, by simp, .inl ⟨rfl, rfl, by simp⟩, by simp, by simp, by simp, by simp, ⟨[.v (.slice none 0 0), .v (.slice none 0 0), i64D 0, strD ⟨#[]⟩, i64D 0], by simp, rfl⟩, by simp [encT], fun r hr => ?_, fun t => ⟨by simp [countT_nil], by simp [countT_nil], by simp [countT_nil, onceN]⟩, by simp, by simp, by simp⟩
      have e1 : (r = H.next) = False := by simp; omega
      have e2 : ∀ k, (r = H.next + k) = False := by simp; omega
      simp [e1, e2]
    · obtain ⟨pre, suf, m, hl, hj, e1, e2, e3, e4, e16, e17, e18, g0, ⟨z, g1, gz⟩, g2, gf, hc, w1, w2, w3⟩ := hi
      have hsuf : suf = [] := List.length_eq_zero_iff.1 hj.symm
      subst hsuf
      have hpre : q.preds.l = pre := by simpa using hl
      rw [← hpre] at e4
      clear hl hc g2 hj
      generalize hrows : onceN (q.preds.l.map (kN q)) = rows at e4
      have hlen : rows.length ≤ 8 := by
        rw [← hrows]
        have := onceN_length (q.preds.l.map (kN q))
        simp at this
        omega
      have hnl : normL q.items.l (textS q) q.preds.l = (sortN rows).map (·.pred) := by
        rw [← hrows]
        rfl
      have hsl : (sortN rows).length = rows.length := (sortN_perm rows).length_eq
      simp
      -- the end
      have fin : ∀ (d : D) (H' : Heap) (L : List TPred) (b2 : Nat), H.next ≤ b2 → L = (sortN rows).map (·.pred) → Own (L.flatMap predC) L.length 15 b2 H' d → H.next ≤ H'.low → finX (tabN.fz n_q76) H (.agg (qC q d)) H' fun x y => x = .agg (queryC (normQ q)) ∧ y = H := fun d H' L b2 hb2 hL ho hlow => by
        subst hL
        have hb : ((sortN rows).map (·.pred)).length ≤ big := by rw [List.length_map, hsl]; exact Nat.le_trans hlen (by decide)
        rw [hz, finX_frozen hlow (frz_qC ho hb2 hb)]
        refine ⟨?_, rfl⟩
        have hn : normQ q = { q with preds := ⟨repL ((sortN rows).map (·.pred)), (sortN rows).map (·.pred), hb⟩ } := by
          unfold normQ
          rw [dif_pos hq]
          simp only [hnl]
        rw [hn]
      have last : ∀ (b2 : Nat) (E : Fr) (H' : Heap), H.next + 3 ≤ b2 → SecondInv q (sortN rows) H.next b2 0 E H' → oK (evLoad H' (some 5) (E 1)) fun d => oK (evStore H' 5 (E 2) d) fun H' => oK (match evLoad H' (some 5) (E 2) with | some d => some [d] | none => none) fun ds => finX (tabN.fz n_q76) H (resOf ds) H' fun x y => x = .agg (queryC (normQ q)) ∧ y = H := fun b2 E H' hb2 h => by
        obtain ⟨pre, suf, d, hl, hj, e1, e2, -, -, -, g0, ⟨z, g1, gz⟩, ho, w1, w2, w3⟩ := h
        have hsuf : suf = [] := List.length_eq_zero_iff.1 hj.symm
        subst hsuf
        have hpre : sortN rows = pre := by simpa using hl
        rw [← hpre] at ho
        have hsa : setAll z 0 (qC q d) = qC q d := setAll_full z _ (by rw [gz]; rfl)
        simp [e1, e2, g0, g1, gz, hsa, get_set]
        refine fin d _ _ b2 (by omega) rfl ?_ ?_
        · have := ho.mono (H' := H'.set (H.next + 1) (.cells (qC q d))) (Nat.le_refl _) fun x h1 h2 => by rw [get_set, if_neg (by omega)]
          simpa using this
        · simp only [low_set]; split <;> omega
      rcases e4 with ⟨h1, h2, h3⟩ | ⟨h1, r, h3, r1, r2, gr⟩
      · have hrn : rows = [] := List.length_eq_zero_iff.1 h1
        have hS := fun H => (N.SortFunc_nil H).cK
        have hsn : sortN rows = [] := by rw [hrn]; rfl
        simp [h3, hS, e1, g0]
        refine norm_second q (sortN rows) (by rw [hsl]; exact hlen) H.next H'.next w3 _ _ _ ?_ fun E3 H3 i3 => ?_
        · refine ⟨[], sortN rows, .v (.slice none 0 0), rfl, rfl, by simp [e1], by simp [e2], .inl ⟨hsn, by simp⟩, by simp [hsn], by simp, ?_, ⟨z, ?_, gz⟩, .inl ⟨rfl, rfl, rfl⟩, ?_, ?_, ?_⟩
          · rw [get_set, if_pos ⟨rfl, by rw [g0]; rfl⟩]
          · rw [get_set, if_neg (by omega)]; exact g1
          · simp only [low_set]; split <;> omega
          · simp only [low_set, next_set]; split <;> omega
          · simp
        · exact last _ _ _ w3 i3
      · have hne : rows ≠ [] := List.length_pos_iff.1 h1
        rw [h3]
        refine cK.mono (N.SortFunc_run rows (by omega) none H' gr r2 hne) fun d2 H2 p => ?_
        obtain ⟨p1, p2, p3, p4⟩ := p
        have hb0 : H2.get H.next = some (.cells (qC q d)) := by rw [p3 _ (by omega)]; exact g0
        have hsn : sortN rows ≠ [] := fun h => by
          rw [h] at hsl
          exact hne (List.length_eq_zero_iff.1 hsl.symm)
        have w4 : H.next ≤ H2.low ∧ H2.low ≤ H2.next := by
          rw [p1]
          rcases p4 with ⟨p4, -⟩ | p4
          · omega
          · rw [p4]; split <;> omega
        simp [e1, hb0]
        refine norm_second q (sortN rows) (by rw [hsl]; exact hlen) H.next H2.next (by omega) _ _ _ ?_ fun E3 H3 i3 => ?_
        · refine ⟨[], sortN rows, .v (.slice none 0 0), rfl, rfl, by simp [e1], by simp [e2], .inr ⟨hsn, r, by simp [hsl], r1, by omega, ?_⟩, by simp [hsl], by simp, ?_, ⟨z, ?_, gz⟩, .inl ⟨rfl, rfl, rfl⟩, ?_, ?_, ?_⟩
          · rw [get_set, if_neg (by omega)]; exact p2
          · rw [get_set, if_pos ⟨rfl, by rw [hb0]; rfl⟩]
          · rw [get_set, if_neg (by omega), p3 _ (by omega)]; exact g1
          · simp only [low_set]; split <;> omega
          · simp only [low_set, next_set]; split <;> omega
          · simp
        · exact last _ _ _ (by omega) i3
theorem norm_Norm_run (q : TQuery) (H : Heap) : Run tabN (.fn n_q76) [.agg (queryC q)] H (.agg (queryC (normQ q))) H := by
  have := norm_Norm_gen q (q.preds.enc predC) H (.data H q.preds) fun H' _ R => (runN oN_Right (by simp) (tree_Right_run q H0) H').cK R
  exact this
end Go.Proofs.YtmfhanoibbmnlaaGreatDoor.Tz
