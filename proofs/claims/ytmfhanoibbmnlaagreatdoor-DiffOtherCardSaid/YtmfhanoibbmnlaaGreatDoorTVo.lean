/-
The walk of DiffOther. Conditions: none.
-/
import Derived.Test.YtmfhanoibbmnlaaGreatDoorTSm
namespace Go.Proofs.YtmfhanoibbmnlaaGreatDoor.Tz
open Go.Aug Go.Aug.Api
set_option maxRecDepth 100000
def lawFnsO : List Nat := [n_q0, n_q16]
noncomputable def orcsO (f : Nat) : Option (List D → Heap → Option (D × Heap)) := cond (Nat.beq f n_q50) (some (pureOrc2 (runSpec tabD n_q50))) (cond (isLaw f lawFnsO) (some (pureOrc2 (runSpec tab f))) (orcs f))
noncomputable def tabO : Tab := ⟨findF rows, frozen, orcsO⟩
theorem orcsO_ok (f : Nat) (g : List D → Heap → Option (D × Heap)) (h : orcsO f = some g) : OrcOk Tryz.prog f g := by
  unfold orcsO at h
  cases hk : Nat.beq f n_q50 with
  | true =>
    rw [hk] at h
    simp only [cond_true, Option.some.injEq] at h
    rw [← h, Nat.eq_of_beq_eq_true hk]
    exact runSpec_orc tabD_ok _
  | false =>
    rw [hk] at h
    simp only [cond_false] at h
    cases hk : isLaw f lawFnsO with
    | true =>
      rw [hk] at h
      simp only [cond_true, Option.some.injEq] at h
      rw [← h]
      exact runSpec_orc tab_ok _
    | false => rw [hk] at h; exact orcs_ok f g h
theorem tabO_ok : TabOk Tryz.prog tabO := tab_ok' _ _ orcsO_ok
theorem tLO {f : Nat} {fi : FI} (h : tab.fn f = some fi) : tabO.fn f = some fi := h
theorem oO_Class : tabO.orc n_q50 = some (pureOrc2 (runSpec tabD n_q50)) := by kernel_rfl
theorem oO_Great : tabO.orc n_q0 = some (pureOrc2 (runSpec tab n_q0)) := by kernel_rfl
theorem oO_Right : tabO.orc n_q16 = some (pureOrc2 (runSpec tab n_q16)) := by kernel_rfl
theorem oO_head : tabO.orc n_q3 = some orcHead := by kernel_rfl
theorem oO_Other : tabO.orc n_q2 = none := by kernel_rfl
theorem runO {T : Tab} {f : FuncId} {args : List D} {d : D} (ho : tabO.orc f = some (pureOrc2 (runSpec T f))) (hu : D.under.underAll 0 args = true) (hd : Run T (.fn f) args H0 d H0) (H : Heap) : Run tabO (.fn f) args H d H := cK.run (cK_pure ho hu hd ⟨rfl, rfl⟩)
theorem headO_run (H : Heap) : Run tabO (.fn n_q3) [] H (bD true) H :=
  cK.run (cK_orc oO_head ⟨_, rfl, rfl, rfl⟩)
def withP (q : TQuery) (l : List TPred) (h : l.length ≤ big) : TQuery := { q with preds := ⟨repL l, l, h⟩ }
theorem frz2_qC {q : TQuery} {l : List TPred} {b : Nat} {H : Heap} {d : D} (h : Own (l.flatMap predC) l.length 15 b H d) (hn : l.length ≤ big) : frz2 H 0 64 (.agg (qC q d)) = some (.agg (queryC (withP q l hn))) := by
  rcases h with ⟨h1, -, rfl⟩ | ⟨hpos, r, rfl, -, -, h3⟩
  · have hl : l = [] := List.length_eq_zero_iff.1 h1
    subst hl
    exact frz2_under _ _ _ _ (by simp [qC])
  · obtain ⟨p, l, rfl⟩ : ∃ p t, l = p :: t := by
      cases l with
      | nil => simp at hpos
      | cons p l => exact ⟨p, l, rfl⟩
    have e1 := frz2_row H 61 r (p :: l).length none 15 _ h3 (flatMap_length predC_len _) (by simp)
    rw [frz2_agg _ _ _ (by simp [qC, D.under])]
    have e0 := frz2_under H 0 62 (q.items.enc itemC) (by simp)
    unfold qC
    simp only [frzL_cons, frzL_nil, e0, e1, frz2_under _ _ _ _ (rfl : (i64D _).under 0 = true), frz2_under _ _ _ _ (rfl : (strD _).under 0 = true)]
    rfl
theorem class_own {q b : TQuery} {l : List TPred} {n : Nat} {H : Heap} {d : D} (h : Own (l.flatMap predC) l.length 15 n H d) (hn : l.length ≤ big) (R : D → Heap → Prop) : cK tabO (.fn n_q50) [.agg (qC q d), .agg (queryC b)] H R = R (i64D (classS (withP q l hn) b)) H := by
  refine (cK.run (cK_asked oO_Class (args' := [.agg (queryC (withP q l hn)), .agg (queryC b)]) ?_ (diff_Class_run _ _ H0) rfl ⟨rfl, rfl⟩)).cK R
  exact frzL_two _ _ _ _ _ (frz2_qC h hn) (frzL_two _ _ _ _ _ (frz2_under _ _ _ _ (by simp)) (frzL_none _))
def RevInv (a b : TQuery) (c0 d0 : Int) (n : Nat) (j : Nat) (E : Fr) (H' : Heap) : Prop :=
  ∃ pre suf d, a.preds.l = pre ++ suf ∧ j = pre.length ∧ E 2 = .rf n 0 ∧ E 3 = .rf (n + 1) 0 ∧ E 5 = bD true ∧ E 6 = i64D c0 ∧ E 7 = i64D d0 ∧ E 8 = .rf (n + 2) 0 ∧ E 9 = i64D ((pre.length : Int) - 1) ∧
    H'.get n = some (.cells (queryC a)) ∧ H'.get (n + 1) = some (.cells (queryC b)) ∧ H'.get (n + 2) = some (.cells (qC a d)) ∧ Own (suf.reverse.flatMap predC) suf.reverse.length 15 (n + 3) H' d ∧ n ≤ H'.low ∧ H'.low ≤ H'.next ∧ n + 3 ≤ H'.next
theorem rev_loop (a b : TQuery) (ha : a.preds.l.length ≤ 8) (c0 d0 : Int) (n : Nat) (Q : PostX) (E : Fr) (H1 : Heap) (h0 : RevInv a b c0 d0 n a.preds.l.length E H1) (hend : ∀ E H', RevInv a b c0 d0 n 0 E H' → Q (.exit 0) E H') : LR (WR 97 tabO none F_q2.l14) E H1 Q := by
  refine LR_rule (WR_mono _) (RevInv a b c0 d0 n) ?_ h0
  clear h0
  rintro j E H' ⟨pre, suf, d, hl, rfl, e2, e3, e5, e6, e7, e8, e9, g0, g1, g2, ho, w1, w2, w3⟩
  have hq1 : ∀ q : TQuery, (queryC q)[1]? = some (q.preds.enc predC) := fun _ => rfl
  have hq1' : ∀ (q : TQuery) (h : 1 < (queryC q).length), (queryC q)[1] = q.preds.enc predC := fun _ _ => rfl
  rcases List.eq_nil_or_concat pre with rfl | ⟨pre, p, rfl⟩
  · simp [e9]
    exact hend _ _ ⟨[], suf, d, hl, rfl, by simp [e2], by simp [e3], by simp [e5], by simp [e6], by simp [e7], by simp [e8], by simp [e9], g0, g1, g2, ho, w1, w2, w3⟩
  · rw [List.concat_eq_append] at hl e9 ⊢
    have hlen : pre.length + suf.length + 1 ≤ 8 := by
      have := congrArg List.length hl
      simp at this
      omega
    have hge : (0 : Int) ≤ (pre.length : Int) := by omega
    have hw : IntKind.i64.wrap ((pre.length : Int) - 1) = (pre.length : Int) - 1 := wrap64 (by omega) (by omega)
    have he9 : E 9 = i64D pre.length := by rw [e9]; simp
    have ea := elem_at predC_len a.preds.rep a.preds.l .i64 pre.length p (by rw [hl]; simp)
    have htk : ∀ p : TPred, (predC p).take 15 = predC p := fun p => List.take_of_length_le (by rw [predC_len]; exact Nat.le_refl _)
    have hfull2 : ∀ (z : List D) (p : TPred), z.length = 15 → setAll z 0 (predC p) = predC p := fun z p h => setAll_full z _ (by rw [predC_len, h])
    have n0 : (n = H'.next) = False := by simp; omega
    have n2 : (n + 2 = H'.next) = False := by simp; omega
    simp [e2, e8, he9, g0, g2, hq1, hq1', Sl.enc, ea, load_elem _ _ _ _ (predC_len p), htk, hfull2, n0, n2, w2, hw]
    refine own_app (b := n + 3) (lo := n) (L := suf.reverse.flatMap predC) (X := predC p) (ho.mono (by simp) fun k h1 h2 => ?_) (predC_len p) (by rw [flatMap_length predC_len]) (by simp; omega) (by decide) (by simp) ?_ ?_ (by simp; omega) (by omega) _ fun d' H3 o3 n3 l3 m3 g3 => ?_
    · have : (k = H'.next) = False := by simp; omega
      simp [this]
    · simp
      omega
    · simp
      omega
    · simp at n3
      have gb : ∀ k, k < n + 3 → H3.get k = H'.get k := fun k hk => by
        rw [g3 k hk]
        have : (k = H'.next) = False := by simp; omega
        simp [this]
      have g2' : H3.get (n + 2) = some (.cells (qC a d)) := by rw [gb _ (by omega)]; exact g2
      have hd1 : cellsOf d' = some [d'] := by
        rcases o3 with ⟨h, -, -⟩ | ⟨-, r', rfl, -⟩
        · simp at h
        · rfl
      simp [g2', hd1]
      refine ⟨pre.length, by omega, pre, p :: suf, d', by rw [hl]; simp, rfl, by simp [e2], by simp [e3], by simp [e5], by simp [e6], by simp [e7], by simp [e8], by simp, ?_, ?_, ?_, ?_, ?_, ?_, ?_⟩
      · rw [get_set, if_neg (by omega), gb n (by omega)]; exact g0
      · rw [get_set, if_neg (by omega), gb (n + 1) (by omega)]; exact g1
      · rw [get_set, if_pos ⟨rfl, by rw [g2']; rfl⟩]
      · have := o3.mono (H' := H3.set (n + 2) (.cells (qC a d'))) (Nat.le_refl _) fun x h1 h2 => by rw [get_set, if_neg (by omega)]
        simpa using this
      · simp only [low_set]; split <;> omega
      · simp only [low_set, next_set]; split <;> omega
      · simp only [next_set]; omega
theorem bool_eqt (x y : Bool) : eqAny .bool (bD x) (bD y) = some (x == y) := rfl
set_option maxHeartbeats 2000000 in
theorem other_walk (a b : TQuery) (H : Heap) : cK tabO (.fn n_q2) [.agg (queryC a), .agg (queryC b)] H fun d H' => d = bD true ∧ H' = H := by
  refine cK_fn oO_Other (tLO t_q2) (Nat.le_of_ble_eq_true rfl) (by decide) ?_
  have hq5 : ∀ q : TQuery, (queryC q).take 5 = queryC q := fun q => List.take_of_length_le (by rw [queryC_len]; exact Nat.le_refl _)
  have hh := fun H => (headO_run H).cK
  have hG : ∀ q : TQuery, ∃ g, ∀ H k, cK tabO (.fn n_q0) [.agg (queryC q)] H k = k (bD g) H := fun q => by
    obtain ⟨g, hg⟩ := (Great_run q H0).run
    exact ⟨g, fun H => (runO oO_Great (by simp) hg H).cK⟩
  obtain ⟨ga, hGa⟩ := hG a
  obtain ⟨gb, hGb⟩ := hG b
  have hR0 : ∀ (q : TQuery) H, Run tabO (.fn n_q16) [.agg (queryC q)] H (bD (rightP q)) H := fun q H => by
    have := runO oO_Right (by simp) (ref08_Right_run q H0) H
    rw [rightQ_eq] at this
    exact this
  have hR := fun q H => (hR0 q H).cK
  have hC0 : ∀ (a b : TQuery) H, Run tabO (.fn n_q50) [.agg (queryC a), .agg (queryC b)] H (i64D (classS a b)) H := fun a b H => runO oO_Class (by simp) (diff_Class_run a b H0) H
  have hC := fun a b H => (hC0 a b H).cK
  cases ga with
  | true => simp [hq5, hh, hGa]
  | false =>
  cases gb with
  | true => simp [hq5, hh, hGa, hGb]
  | false =>
  by_cases hab : rightP a = true ∧ rightP b = true
  · obtain ⟨ha, hb⟩ := hab
    obtain ⟨a1, a2, a3, a4, a5, a6, a7, a8, a9, a10⟩ := right_parts ha
    have hfull : ∀ (z : List D) (q : TQuery), z.length = 5 → setAll z 0 (queryC q) = queryC q := fun z q h => setAll_full z _ (by rw [h]; rfl)
    have hw : IntKind.i64.wrap ((a.preds.l.length : Int) - 1) = (a.preds.l.length : Int) - 1 := wrap64 (by omega) (by omega)
    have hq1 : ∀ q : TQuery, (queryC q)[1]? = some (q.preds.enc predC) := fun _ => rfl
    have hq1' : ∀ (q : TQuery) (h : 1 < (queryC q).length), (queryC q)[1] = q.preds.enc predC := fun _ _ => rfl
    have hset : (queryC a).set 1 (.v (.slice none 0 0)) = qC a (.v (.slice none 0 0)) := rfl
    simp [hq5, hh, hGa, hGb, hR, hC, ha, hb, hfull, hq1, hq1', Sl.enc, hw, hset]
    refine rev_loop a b a5 (classS a b) (classS b a) H.next _ _ _ ?_ fun E H' hi => ?_
    · exact ⟨a.preds.l, [], .v (.slice none 0 0), by simp, rfl, by simp, by simp, by simp, by simp, by simp, by simp, by simp, by simp, by simp, by simp, .inl ⟨rfl, rfl, rfl⟩, by simp, by simp, by simp⟩
    · obtain ⟨pre, suf, d, hl, hj, e2, e3, e5, e6, e7, e8, e9, g0, g1, g2, ho, w1, w2, w3⟩ := hi
      have hpre : pre = [] := List.length_eq_zero_iff.1 hj.symm
      subst hpre
      have hsuf : suf = a.preds.l := by simpa using hl.symm
      subst hsuf
      have hn : a.preds.l.reverse.length ≤ big := by rw [List.length_reverse]; exact a.preds.ok
      have hcx : classS (withP a a.preds.l.reverse hn) b = classS a b := class_order ha rfl rfl rfl rfl (fun p => by simp [withP]) (by simp [withP])
      have hX : ∀ R, cK tabO (.fn n_q50) [.agg (qC a d), .agg (queryC b)] H' R = R (i64D (classS a b)) H' := fun R => by
        rw [class_own ho hn, hcx]
      have t1 := (class_turn (a := a) (b := b)).1
      have t2 := (class_turn (a := a) (b := b)).2
      have t3 := class_self ha
      obtain ⟨r1, r2⟩ := class_range ha hb
      have b1 : decide (classS b a = 3) = decide (classS a b = 2) := by simp [t1]
      have b2 : decide (classS b a = 1) = decide (classS a b = 1) := by simp [t2]
      simp [e2, e3, e5, e6, e7, e8, g0, g1, g2, hq5, hX, hC, t3, bool_eqt, b1, b2, r1, r2]
      rw [finX_data w1 rfl]
      exact ⟨rfl, rfl⟩
  · have h1 : classS a b = 0 := if_neg hab
    have h2 : classS b a = 0 := if_neg fun h => hab ⟨h.2, h.1⟩
    cases ha : rightP a with
    | false => simp [hq5, hh, hGa, hGb, hR, hC, ha, h1, h2]
    | true =>
      cases hb : rightP b with
      | false => simp [hq5, hh, hGa, hGb, hR, hC, ha, hb, h1, h2]
      | true => exact absurd ⟨ha, hb⟩ hab
end Go.Proofs.YtmfhanoibbmnlaaGreatDoor.Tz

namespace Go.Proofs.YtmfhanoibbmnlaaGreatDoor.Tz
open Go.Aug Go.Aug.Api
set_option maxRecDepth 100000
abbrev Gd (n : Nat) (t : TypeId) (x : List D) : Prop := Aug.Good Tryz.prog n t x
theorem k_int {n : Nat} {x : List D} (h : Gd n 3 x) : ∃ a, x = intC a := by
  cases n with
  | zero => exact h.elim
  | succ n =>
    rw [Gd, good_int Tryz.underlying3] at h
    obtain ⟨m, rfl, -⟩ := h
    exact ⟨m, rfl⟩
theorem k_int64 {n : Nat} {x : List D} (h : Gd n 2 x) : ∃ a, x = intC a := by
  cases n with
  | zero => exact h.elim
  | succ n =>
    rw [Gd, good_int Tryz.underlying2] at h
    obtain ⟨m, rfl, -⟩ := h
    exact ⟨m, rfl⟩
theorem k_bool {n : Nat} {x : List D} (h : Gd n 4 x) : ∃ b, x = [bD b] := by
  cases n with
  | zero => exact h.elim
  | succ n =>
    rw [Gd, good_bool Tryz.underlying4] at h
    exact h
theorem k_str' {n : Nat} {x : List D} (h : Gd n 9 x) : ∃ s, x = strC s ∧ s.size ≤ big := by
  cases n with
  | zero => exact h.elim
  | succ n =>
    rw [Gd, good_string Tryz.underlying9] at h
    obtain ⟨s, rfl, hs⟩ := h
    have : maxLen = 9223372036854775807 := by decide
    exact ⟨s, rfl, by show s.size ≤ 9223372036854775807; omega⟩
theorem k_sl' {n : Nat} {t e : TypeId} {ds : List D} {α : Type} {c : α → List D} {p : α → Prop} (hu : Tryz.prog.underlying t = some (.slice e)) (hc : ∀ n x, Gd n e x → ∃ a, x = c a ∧ p a) (h : Gd n t ds) : ∃ x : Sl α, ds = [x.enc c] ∧ ∀ a ∈ x.l, p a := by
  cases n with
  | zero => exact h.elim
  | succ n =>
    obtain ⟨x, hx⟩ := good_sl (c := fun a : {a : α // p a} => c a.1) hu (fun y hy => by
      obtain ⟨a, h1, h2⟩ := hc n y hy
      exact ⟨⟨a, h2⟩, h1⟩) h
    refine ⟨⟨x.rep, x.l.map (·.1), by simpa using x.ok⟩, ?_, fun a ha => ?_⟩
    · rw [hx]
      simp [Sl.enc, List.flatMap, Function.comp_def]
    · obtain ⟨y, -, rfl⟩ := List.mem_map.1 ha
      exact y.2
theorem k_sl {n : Nat} {t e : TypeId} {ds : List D} {α : Type} {c : α → List D} (hu : Tryz.prog.underlying t = some (.slice e)) (hc : ∀ n x, Gd n e x → ∃ a, x = c a) (h : Gd n t ds) : ∃ x : Sl α, ds = [x.enc c] := by
  cases n with
  | zero => exact h.elim
  | succ n => exact good_sl hu (hc n) h
theorem k_val' {n : Nat} {x : List D} (h : Gd n 41 x) : ∃ v, x = valC v ∧ v.s.size ≤ big := by
  cases n with
  | zero => exact h.elim
  | succ n =>
    rw [Gd, good_struct Tryz.underlying41] at h
    simp only [fieldsG] at h
    obtain ⟨a1, r1, rfl, -, h1, a2, r2, rfl, -, h2, a3, r3, rfl, -, h3, rfl⟩ := h
    obtain ⟨k, rfl⟩ := k_int h1
    obtain ⟨m, rfl⟩ := k_int64 h2
    obtain ⟨s, rfl, hs⟩ := k_str' h3
    exact ⟨⟨k, m, s⟩, rfl, hs⟩
theorem k_item {n : Nat} {x : List D} (h : Gd n 63 x) : ∃ v, x = itemC v := by
  cases n with
  | zero => exact h.elim
  | succ n =>
    rw [Gd, good_struct Tryz.underlying63] at h
    simp only [fieldsG] at h
    obtain ⟨a1, r1, rfl, -, h1, a2, r2, rfl, -, h2, a3, r3, rfl, -, h3, a4, r4, rfl, -, h4, rfl⟩ := h
    obtain ⟨b, rfl⟩ := k_bool h1
    obtain ⟨l, rfl, hl⟩ := k_sl' Tryz.underlying61 (fun _ _ => k_str') h2
    obtain ⟨s, rfl, hs⟩ := k_str' h3
    obtain ⟨k, rfl⟩ := k_int h4
    exact ⟨⟨b, l, s, k, hl, hs⟩, rfl⟩
theorem okEs_of : ∀ {l : List TExpr}, (∀ x ∈ l, okE x) → okEs l
  | [], _ => trivial
  | x :: _l, h => ⟨h x (List.mem_cons_self ..), okEs_of fun y hy => h y (List.mem_cons_of_mem _ hy)⟩
theorem k_expr : ∀ (n : Nat) (x : List D), Gd n 44 x → ∃ e, x = exprC e ∧ okE e
  | 0, x, h => h.elim
  | 1, x, h => by
    rw [Gd, good_struct Tryz.underlying44] at h
    simp only [fieldsG] at h
    obtain ⟨a1, r1, rfl, -, h1, -⟩ := h
    exact h1.elim
  | n + 2, x, h => by
    rw [Gd, good_struct Tryz.underlying44] at h
    simp only [fieldsG] at h
    obtain ⟨a1, r1, rfl, -, h1, a2, r2, rfl, -, h2, a3, r3, rfl, -, h3, a4, r4, rfl, -, h4, a5, r5, rfl, -, h5, rfl⟩ := h
    obtain ⟨k, rfl⟩ := k_int h1
    obtain ⟨v, rfl, hv⟩ := k_val' h2
    obtain ⟨s, rfl, hs⟩ := k_str' h3
    obtain ⟨f, rfl, hf⟩ := k_str' h4
    rw [good_slice Tryz.underlying42] at h5
    obtain ⟨rep, l, rfl, hl, hx⟩ := h5
    obtain ⟨es, rfl⟩ := good_map (c := fun e : {e : TExpr // okE e} => exprC e.1) fun y hy => by
      obtain ⟨e, h1, h2⟩ := k_expr n y (hx y hy).2
      exact ⟨⟨e, h2⟩, h1⟩
    refine ⟨.mk k v s f rep (es.map (·.1)), ?_, ?_, okEs_of fun x hx => ?_, hs, hf, hv⟩
    · rw [exprC_mk]
      simp [intC, valC, strC, List.flatMap]
    · have : maxLen = 9223372036854775807 := by decide
      simp at hl
      show (es.map (·.1)).length ≤ 9223372036854775807
      simp
      omega
    · obtain ⟨e, -, rfl⟩ := List.mem_map.1 hx
      exact e.2
theorem k_pred {n : Nat} {x : List D} (h : Gd n 46 x) : ∃ v, x = predC v := by
  cases n with
  | zero => exact h.elim
  | succ n =>
    rw [Gd, good_struct Tryz.underlying46] at h
    simp only [fieldsG] at h
    obtain ⟨a1, r1, rfl, -, h1, a2, r2, rfl, -, h2, a3, r3, rfl, -, h3, rfl⟩ := h
    obtain ⟨k, rfl⟩ := k_int h1
    obtain ⟨e1, rfl, o1⟩ := k_expr _ _ h2
    obtain ⟨e2, rfl, o2⟩ := k_expr _ _ h3
    exact ⟨⟨k, e1, e2, o1, o2⟩, by simp [predC, intC]⟩
theorem k_query {n : Nat} {x : List D} (h : Gd n 25 x) : ∃ v, x = queryC v := by
  cases n with
  | zero => exact h.elim
  | succ n =>
    rw [Gd, good_struct Tryz.underlying25] at h
    simp only [fieldsG] at h
    obtain ⟨a1, r1, rfl, -, h1, a2, r2, rfl, -, h2, a3, r3, rfl, -, h3, a4, r4, rfl, -, h4, a5, r5, rfl, -, h5, rfl⟩ := h
    obtain ⟨l1, rfl⟩ := k_sl Tryz.underlying22 (fun _ _ => k_item) h1
    obtain ⟨l2, rfl⟩ := k_sl Tryz.underlying23 (fun _ _ => k_pred) h2
    obtain ⟨w, rfl⟩ := k_int64 h3
    obtain ⟨s, rfl, hs⟩ := k_str' h4
    obtain ⟨p, rfl⟩ := k_int h5
    exact ⟨⟨l1, l2, w, s, p, hs⟩, rfl⟩
def kindsAll : List TypeId := [2, 3, 4, 5, 9, 22, 23, 25, 41, 42, 44, 46, 52, 54, 55, 56, 61, 63, 145, 254, 256, 258]
theorem kindsAll_ok : closedB Tryz.prog kindsAll = true := by kernel_rfl
variable {W : World} {H : Type} {enc : TypeId × Value → H} {d : DataW H} {p : List MemPlace} {v : Value}
theorem in_query {cs : Array Value} (h : DataW.Trod enc Tryz.prog W 0 (fun _ => true) true 25 (.agg cs) d p) : ∃ q, relIn W (.agg (queryC q)) (.agg cs) := by
  obtain ⟨fuel, hf⟩ := h
  obtain ⟨ds, h1, h2⟩ := trod_good kindsAll_ok fuel 25 _ _ (by decide) hf
  obtain ⟨q, rfl⟩ := k_query h2
  exact ⟨q, arg_agg h1⟩
end Go.Proofs.YtmfhanoibbmnlaaGreatDoor.Tz
