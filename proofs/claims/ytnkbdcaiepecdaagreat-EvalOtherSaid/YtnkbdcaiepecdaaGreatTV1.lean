/-
The walk of EvalFolds. Conditions: none.
-/
import Derived.Test.YtnkbdcaiepecdaaGreatTX1
import Derived.Test.YtnkbdcaiepecdaaGreatTW6
import Derived.Test.YtnkbdcaiepecdaaGreatTV0
namespace Go.Proofs.YtnkbdcaiepecdaaGreat.Tz
open Go.Aug Go.Aug.Api
set_option maxRecDepth 100000

theorem oL_one : tabL.orc n_augurylaw11_one = none := by kernel_rfl
theorem oL_law : tabL.orc n_augurylaw11_EvalFolds = none := by kernel_rfl
theorem oL_head : tabL.orc n_augurylaw11_head = some orcHead := by kernel_rfl
theorem oL_Value : tabL.orc n_eval_Value = some (pureOrc2 (runSpec tab n_eval_Value)) := by kernel_rfl
theorem tL {f : Nat} {fi : FI} (h : tab.fn f = some fi) : tabL.fn f = some fi := h
theorem zL_one : tabL.fz n_augurylaw11_one = true := z_augurylaw11_one

theorem head_run (H : Heap) : Run tabL (.fn n_augurylaw11_head) [] H (bD true) H :=
  cK.run (cK_orc oL_head ⟨_, rfl, rfl, rfl⟩)

theorem one_run (n : Int) (H : Heap) : Run tabL (.fn n_augurylaw11_one) [i64D n] H (.agg (eventC (ev1 n))) H := by
  refine cK.run (cK_fn oL_one (tL t_augurylaw11_one) (Nat.le_of_ble_eq_true rfl) (by decide) ?_)
  rw [zL_one]
  simp
  rw [finX_frozen (d' := .agg (eventC (ev1 n))) (by simp) (by simp [frz_agg, frz_rs, frz_v, frzL_cons, frzL_nil]; rfl)]
  simp

/-- Memory while the row is laid: the schemas, the query, and the row so far. -/
structure FoldsM (H H' : Heap) (row : D) (pre : List Int) : Prop where
  next : H.next + 5 ≤ H'.next
  low : H.next ≤ H'.low
  low' : H'.low ≤ H'.next
  g0 : H'.get H.next = some (.cells [strD strX, i64D 1])
  g1 : H'.get (H.next + 1) = some (.cells [strD strA, .rs H.next 0 1 (some 1) 2])
  g2 : H'.get (H.next + 2) = some (.cells [strD strA])
  g3 : H'.get (H.next + 3) = some (.cells [bD false, .rs (H.next + 2) 0 1 (some 1) 1, strD strP, i64D 2])
  g4 : H'.get (H.next + 4) = some (.cells [.rs (H.next + 3) 0 1 (some 1) 4, .v (.slice none 0 0), i64D 0, strD emptyS, i64D 1])
  row : (pre = [] ∧ row = .v (.slice none 0 0)) ∨ ∃ rr, row = .rs rr 0 pre.length none 5 ∧ H.next + 5 ≤ rr ∧ rr < H'.next ∧ H'.get rr = some (.cells ((pre.map ev1).flatMap eventC)) ∧ pre ≠ []

theorem FoldsM.add {H H' : Heap} {row : D} {pre : List Int} (h : FoldsM H H' row pre) (o : O) : FoldsM H (H'.add o) row pre := by
  have hn := h.next
  have hl := h.low'
  have hl2 := h.low
  refine ⟨by simp; omega, by simp [h.low], by simp; omega, ?_, ?_, ?_, ?_, ?_, ?_⟩
  · rw [get_add, if_neg (by omega), h.g0]
  · rw [get_add, if_neg (by omega), h.g1]
  · rw [get_add, if_neg (by omega), h.g2]
  · rw [get_add, if_neg (by omega), h.g3]
  · rw [get_add, if_neg (by omega), h.g4]
  · rcases h.row with h' | ⟨rr, h1, h2, h3, h4, h5⟩
    · exact .inl h'
    · exact .inr ⟨rr, h1, h2, by simp; omega, by rw [get_add, if_neg (by omega), h4], h5⟩

theorem roomOk_small {b n : Nat} (hb : b = 64) (h : n ≤ 100) : roomOk b n = true := by
  subst hb
  simp only [roomOk, Bool.and_eq_true, decide_eq_true_eq]
  refine ⟨⟨by omega, by decide⟩, by omega⟩

/-- One more is appended. -/
theorem FoldsM.app {H H' : Heap} {row : D} {pre : List Int} (h : FoldsM H H' row pre) (n : Int) (hp : pre.length < 60) (k : D × Heap → Prop) (hk : ∀ row' H'', FoldsM H H'' row' (pre ++ [n]) → k (row', H'')) :
    oK (evApp (H'.add (.cells (eventC (ev1 n)))) false 5 64 row (.rs H'.next 0 1 (some 1) 5)) k := by
  have hn := h.next
  have hl := h.low'
  have hl2 := h.low
  have hf : firstD (H'.add (.cells (eventC (ev1 n)))) false 5 (.rs H'.next 0 1 (some 1) 5) = some (1, eventC (ev1 n)) := by
    simp [firstD]
    rfl
  have h2 := h.add (.cells (eventC (ev1 n)))
  rcases h.row with ⟨rfl, rfl⟩ | ⟨rr, rfl, r2, r3, r4, r5⟩
  · refine ⟨(.rs (H'.next + 1) 0 1 none 5, (H'.add (.cells (eventC (ev1 n)))).add (.cells (eventC (ev1 n)))), ?_, ?_⟩
    · simp only [evApp, hf]
      rw [if_neg (by decide), if_pos (roomOk_small rfl (by decide))]
      rfl
    · have h3 := h2.add (.cells (eventC (ev1 n)))
      refine hk _ _ ⟨h3.next, h3.low, h3.low', h3.g0, h3.g1, h3.g2, h3.g3, h3.g4, .inr ⟨H'.next + 1, rfl, by omega, by simp, by simp, by simp⟩⟩
  · refine ⟨(.rs (H'.next + 1) 0 (pre.length + 1) none 5, (((H'.add (.cells (eventC (ev1 n)))).del rr).add (.cells ((pre.map ev1).flatMap eventC ++ eventC (ev1 n))))), ?_, ?_⟩
    · have hg : (H'.add (.cells (eventC (ev1 n)))).get rr = some (.cells ((pre.map ev1).flatMap eventC)) := by rw [get_add, if_neg (by omega), r4]
      simp only [evApp, hf, hg]
      rw [if_neg (by decide), if_pos (by decide), if_pos]
      · rfl
      · simp only [Bool.and_eq_true, beq_iff_eq, flatMap_length eventC_len, List.length_map, true_and]
        exact roomOk_small rfl (by omega)
    · refine hk _ _ ⟨by simp; omega, ?_, ?_, ?_, ?_, ?_, ?_, ?_, .inr ⟨H'.next + 1, by simp, by omega, by simp, by simp, by simp⟩⟩
      · simp only [low_add, low_del]; split <;> omega
      · simp only [low_add, low_del, next_add, next_del]; split <;> omega
      · rw [get_add, if_neg (by simp; omega), get_del, if_neg (by omega), h2.g0]
      · rw [get_add, if_neg (by simp; omega), get_del, if_neg (by omega), h2.g1]
      · rw [get_add, if_neg (by simp; omega), get_del, if_neg (by omega), h2.g2]
      · rw [get_add, if_neg (by simp; omega), get_del, if_neg (by omega), h2.g3]
      · rw [get_add, if_neg (by simp; omega), get_del, if_neg (by omega), h2.g4]

theorem under_rs (n r off m : Nat) (c : Option Nat) (s : Nat) : (D.rs r off m c s).under n = decide (r < n) := Eq.trans rfl rfl

/-- The call of eval.Value, with what lies in the law's own memory. -/
theorem value_call {H H2 : Heap} {l : List Int} (hl : l.length ≤ big) (hne : l ≠ []) {rr q0 : Nat} (hm : FoldsM H H2 (.rs rr 0 l.length none 5) l) (gq : H2.get q0 = some (.cells [.rs rr 0 l.length none 5])) (k : Int) (R : D → Heap → Prop)
    (hR : R (valueS (scN l hl) (exK k)).enc H2) :
    cK tabL (.fn n_eval_Value) [.rs (H.next + 1) 0 1 (some 1) 2, .agg [.rs (H.next + 3) 0 1 (some 1) 4, .v (.slice none 0 0), i64D 0, strD emptyS, i64D 1], .rs q0 0 1 (some 1) 1, .agg [i64D k, i64D 0, i64D 0, strD emptyS, strD strP, strD strX, .v (.slice none 0 0)]] H2 R := by
  have gr : H2.get rr = some (.cells ((l.map ev1).flatMap eventC)) := by
    rcases hm.row with ⟨h, -⟩ | ⟨r', h1, -, -, h4, -⟩
    · exact absurd h hne
    · cases h1; exact h4
  have pe : D.under.underAll 0 ((l.map ev1).flatMap eventC) = true := fl_event _
  have fz : frzL (frz2 H2 0 62) ((l.map ev1).flatMap eventC) = some ((l.map ev1).flatMap eventC) := by
    have : ∀ L : List D, D.under.underAll 0 L = true → frzL (frz2 H2 0 62) L = some L := by
      intro L
      induction L with
      | nil => intro _; rfl
      | cons d L ih =>
        intro h
        simp only [under_cons, Bool.and_eq_true] at h
        exact frzL_two _ _ _ _ _ (frz2_under H2 0 61 d h.1) (ih h.2)
    exact this _ pe
  refine cK_frozen oL_Value (args' := [slS.enc schemaC, .agg (queryC qA), (bN l hl).enc rowC, .agg (exprC (exK k))]) (by simp [under_rs]) ?_ (eval_Value_run slS qA (bN l hl) (exK k) H0) (by simp [VE.enc, flat, flat.flatL, valC]) hR
  refine frzL_two _ _ _ _ _ ?_ (frzL_two _ _ _ _ _ ?_ (frzL_two _ _ _ _ _ ?_ (frzL_two _ _ _ _ _ ?_ (frzL_none _))))
  · rw [frz2_rs _ 63 _ _ _ _ _ _ hm.g1]
    simp [frzL_cons, frzL_nil, frz2_under, frz2_rs _ 62 _ _ _ _ _ _ hm.g0]
    rfl
  · rw [frz2_agg _ 63 _ (by simp [under_rs])]
    simp [frzL_cons, frzL_nil, frz2_under, frz2_rs _ 62 _ _ _ _ _ _ hm.g3, frz2_rs _ 61 _ _ _ _ _ _ hm.g2]
    rfl
  · rw [frz2_rs _ 63 _ _ _ _ _ _ gq]
    have hin : frz2 H2 0 63 (.rs rr 0 l.length none 5) = some (.sl l.length ((l.map ev1).flatMap eventC) none) := by
      have hlen : ((l.map ev1).flatMap eventC).length = l.length * 5 := by rw [flatMap_length eventC_len]; simp
      rw [frz2_rs _ 62 _ _ _ _ _ _ gr, if_pos (by omega), List.drop_zero, List.take_of_length_le (by omega), fz]
      rfl
    simp only [frzL_cons, frzL_nil, hin, List.drop_zero, Nat.zero_add, Nat.mul_one, List.take_succ_cons, List.take_zero, List.length_cons, List.length_nil, Nat.le_refl, if_true, Option.map_some]
    simp only [bN, rowN, Sl.enc, rowC, List.flatMap_cons, List.flatMap_nil, List.append_nil, List.length_map, slD_some, List.length_cons, List.length_nil]
  · rw [frz2_under _ _ 63 _ (by simp)]
    simp [exK, exprC_eq, TExpr.kind, TExpr.val, TExpr.var, TExpr.field, TExpr.rep, TExpr.kids, zVal]
    exact ⟨rfl, rfl⟩

set_option maxHeartbeats 2000000 in
theorem law_walk (rep : Option (Option Nat)) (l : List Int) (hl : l.length ≤ big) (H : Heap) : cK tabL (.fn n_augurylaw11_EvalFolds) [slD rep l.length (l.flatMap intC)] H fun d H' => d = bD true ∧ H' = H := by
  refine cK_fn oL_law (tL t_augurylaw11_EvalFolds) (Nat.le_of_ble_eq_true rfl) (by decide) ?_
  simp [(head_run _).cK]
  refine gK_of (fun k1 => ?_) (fun k1 => ?_)
  · have k1' : decide ((60 : Int) < l.length) = false := by simpa using k1
    simp [k1']
    refine gK_of (fun k2 => ?_) (fun k2 => ?_)
    · simp
    · simp
      simp at k1 k2
      obtain ⟨n0, hn0⟩ : ∃ n0, l[0]? = some n0 := by
        cases l with
        | nil => exact absurd rfl k2
        | cons a b => exact ⟨a, rfl⟩
      have e0 := elem_at intC_len rep l .i64 0 n0 hn0
      simp [intC] at e0
      simp [e0]
      refine LR_rule (WR_mono _) (fun j E H' => ∃ pre suf, l = pre ++ suf ∧ j = suf.length ∧ E 0 = slD rep l.length (l.flatMap intC) ∧ E 3 = bD true ∧ E 4 = .rs (H.next + 1) 0 1 (some 1) 2 ∧ E 5 = .rf (H.next + 4) 0 ∧
        E 7 = i64D (pre.foldl (· + ·) 0) ∧ E 8 = i64D (pre.foldl mn n0) ∧ E 9 = i64D (pre.foldl mx n0) ∧ E 10 = i64D pre.length ∧ FoldsM H H' (E 6) pre ∧ (∀ n ∈ pre, -1000000 ≤ n ∧ n ≤ 1000000)) ?_ (j := l.length) ?_
      · rintro j E H' ⟨pre, suf, hl0, rfl, f0, f3, f4, f5, f7, f8, f9, f10, hm, hb0⟩
        cases suf with
        | nil =>
          simp at hl0
          subst hl0
          obtain ⟨ini, lst, hL⟩ : ∃ ini lst, l = ini ++ [lst] := by
            rcases List.eq_nil_or_concat l with h' | ⟨ini, e, h'⟩
            · exact absurd h' k2
            · exact ⟨ini, e, by simpa using h'⟩
          have hlast : l.getLast? = some lst := by simp [hL]
          have hget : l[ini.length]? = some lst := by simp [hL]
          have hlen : l.length = ini.length + 1 := by simp [hL]
          have hw : IntKind.i64.wrap ((l.length : Int) - 1) = (ini.length : Nat) := by
            rw [wrap64 (by omega) (by omega), hlen]; omega
          have he := elem_at intC_len rep l .i64 ini.length lst hget
          simp only [intC] at he
          obtain ⟨rr, r1, r2, r3, r4, -⟩ : ∃ rr, E 6 = .rs rr 0 l.length none 5 ∧ H.next + 5 ≤ rr ∧ rr < H'.next ∧ H'.get rr = some (.cells ((l.map ev1).flatMap eventC)) ∧ l ≠ [] := by
            rcases hm.row with ⟨h', -⟩ | h'
            · exact absurd h' k2
            · exact h'
          simp [f0, f7, f8, f9, f10, r1, hw, he]
          have hm0 : FoldsM H H' (.rs rr 0 l.length none 5) l := by rw [← r1]; exact hm
          refine LR_rule (WR_mono _) (fun j E2 H2 => ∃ k : Int, 2 ≤ k ∧ k ≤ 7 ∧ j = (7 - k).toNat ∧ E2 3 = bD true ∧ E2 4 = .rs (H.next + 1) 0 1 (some 1) 2 ∧ E2 5 = .rf (H.next + 4) 0 ∧ E2 11 = .rs H'.next 0 1 (some 1) 1 ∧ E2 12 = .rs (H'.next + 1) 0 7 (some 7) 1 ∧ E2 13 = i64D k ∧
            FoldsM H H2 (.rs rr 0 l.length none 5) l ∧ H2.get H'.next = some (.cells [.rs rr 0 l.length none 5]) ∧ H2.get (H'.next + 1) = some (.cells [i64D 0, i64D 0, i64D lst, i64D l.length, i64D (l.foldl (· + ·) 0), i64D (l.foldl mn n0), i64D (l.foldl mx n0)]) ∧ H'.next + 2 ≤ H2.next) ?_ (j := 5) ?_
          · rintro j E2 H2 ⟨k, hk, hk', rfl, g3, g4, g5, g11, g12, g13, hm2, gq, gw, hn2⟩
            have hnx := hm2.next
            have hlw := hm2.low'
            simp [g13]
            refine gK_of (fun b1 => ?_) (fun b1 => ?_)
            · simp at b1
              simp [g4, g5, g11, g13, hm2.g4]
              refine value_call hl k2 hm2 gq k _ ?_
              rw [folds_are lst hlast (by omega) hb0 k hk b1]
              have hx0 : (H'.next = H2.next) = False := by simp; omega
              have hx1 : (H'.next + 1 = H2.next) = False := by simp; omega
              have hk5 : k = 2 ∨ k = 3 ∨ k = 4 ∨ k = 5 ∨ k = 6 := by omega
              have hh : l.headD 0 = n0 := by
                cases l with
                | nil => exact absurd rfl k2
                | cons a b => simpa using hn0
              have hwk : IntKind.i64.wrap (k + 1) = k + 1 := wrap64 (by omega) (by omega)
              have hh2 : l.head?.getD 0 = n0 := by simpa using hh
              have hat : ([i64D 0, i64D 0, i64D lst, i64D l.length, i64D (l.foldl (· + ·) 0), i64D (l.foldl mn n0), i64D (l.foldl mx n0)] : List D)[k.toNat]? = some (i64D (wantK l lst k)) := by
                rcases hk5 with rfl | rfl | rfl | rfl | rfl <;> simp [wantK, hh2]
              have hk7 : (0 ≤ k ∧ k < 7) = True := by simp; omega
              simp [VE.enc, valC, numV, hlw, g3, g4, g5, g11, g12, g13, hx1, gw, hk7, hat, hwk]
              refine ⟨(7 - (k + 1)).toNat, by omega, k + 1, by omega, by omega, rfl, rfl, ?_⟩
              refine ⟨hm2.add _, ?_, ?_⟩
              · rw [if_neg (by omega)]
                exact gq
              · omega
            · simp [g3, hm2.low]
          · refine ⟨2, by omega, by omega, rfl, ?_⟩
            have h1 := hm0.add (.cells [.rs rr 0 l.length none 5])
            have h2 := fun c => h1.add (.cells c)
            simp [f3, f4, f5]
            exact h2 _
        | cons x suf =>
          have hx : l[pre.length]? = some x := by rw [hl0]; simp
          have he := elem_at intC_len rep l .i64 pre.length x hx
          simp only [intC] at he
          have hlt : pre.length < l.length := by rw [hl0]; simp
          have hlt' : ((pre.length : Int) < (l.length : Int)) = True := by simp; omega
          simp [f0, f10, hlt', he]
          refine gK_of (fun b1 => ?_) (fun b1 => ?_)
          · have b1' : decide (x < -1000000) = false := by simpa using b1
            simp [b1', f0, f10, he]
            refine gK_of (fun b2 => ?_) (fun b2 => ?_)
            · simp [f3, hm.low]
            · simp at b1 b2
              have hp : pre.length < 60 := by omega
              simp [f0, f3, f4, f5, f7, f8, f9, f10, he, (one_run _ _).cK, eventC, ev1, Sl.enc, valC, numV]
              refine hm.app x hp _ fun row' H'' hm' => ?_
              have hs : ∀ (p : List Int), (∀ n ∈ p, -1000000 ≤ n ∧ n ≤ 1000000) → ∀ a : Int, a - 1000000 * p.length ≤ p.foldl (· + ·) a ∧ p.foldl (· + ·) a ≤ a + 1000000 * p.length := by
                intro p
                induction p with
                | nil => intro _ a; simp
                | cons y p ih =>
                  intro hp a
                  have h1 := hp y (List.mem_cons_self ..)
                  have h2 := ih (fun n hn => hp n (List.mem_cons_of_mem _ hn)) (a + y)
                  simp only [List.foldl_cons, List.length_cons]
                  omega
              have hs0 := hs pre hb0 0
              have hw1 : IntKind.i64.wrap (pre.foldl (· + ·) 0 + x) = pre.foldl (· + ·) 0 + x := wrap64 (by omega) (by omega)
              have hw2 := wrap_len hlt hl
              simp [hw1, hw2]
              refine ⟨suf.length, by omega, pre ++ [x], suf, by simp [hl0], rfl, by simp, by simp [mn], by simp [mx], by simp, hm', fun n hn => ?_⟩
              rcases List.mem_append.1 hn with h' | h'
              · exact hb0 n h'
              · simp at h'; subst h'; omega
          · have b1' : decide (x < -1000000) = true := by simpa using b1
            simp [b1', f3, hm.low]
      · refine ⟨[], l, by simp, by simp, by simp, by simp, by simp, by simp, by simp, by simp, by simp, by simp, ?_, by simp⟩
        refine ⟨by simp, by simp, by simp, ?_, ?_, ?_, ?_, ?_, .inl ⟨rfl, by simp⟩⟩ <;> simp [strX, strA, strP, emptyS]
  · have k1' : decide ((60 : Int) < l.length) = true := by simpa using k1
    simp [k1']

end Go.Proofs.YtnkbdcaiepecdaaGreat.Tz
