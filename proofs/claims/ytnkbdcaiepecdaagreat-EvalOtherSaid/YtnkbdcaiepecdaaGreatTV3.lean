/-
The walk of EvalOther. Conditions: none.
-/
import Derived.Test.YtnkbdcaiepecdaaGreatTV2
namespace Go.Proofs.YtnkbdcaiepecdaaGreat.Tz
open Go.Aug Go.Aug.Api
set_option maxRecDepth 100000

/-- What the law calls with data alone. -/
theorem runL {f : Nat} {args : List D} {d : D} (ho : tabL.orc f = some (pureOrc2 (runSpec tab f))) (hu : D.under.underAll 0 args = true) (hd : Run tab (.fn f) args H0 d H0) (H : Heap) : Run tabL (.fn f) args H d H :=
  cK.run (cK_pure ho hu hd ⟨rfl, rfl⟩)

theorem oL_GreatSchemas : tabL.orc n_augurylaw05_GreatSchemas = some (pureOrc2 (runSpec tab n_augurylaw05_GreatSchemas)) := by kernel_rfl
theorem oL_Great : tabL.orc n_augurylaw08_Great = some (pureOrc2 (runSpec tab n_augurylaw08_Great)) := by kernel_rfl
theorem oL_GreatBound : tabL.orc n_augurylaw11_GreatBound = some (pureOrc2 (runSpec tab n_augurylaw11_GreatBound)) := by kernel_rfl
theorem oL_names : tabL.orc n_augurylaw11_names = some (pureOrc2 (runSpec tab n_augurylaw11_names)) := by kernel_rfl
theorem oL_other : tabL.orc n_augurylaw11_EvalOther = none := by kernel_rfl

theorem sum_const {α : Type} (c : Nat) : ∀ l : List α, (l.map fun _ => c).sum = l.length * c
  | [] => by simp
  | a :: l => by simp [sum_const c l, Nat.add_mul, Nat.add_comm]

theorem eq_val (a b : Int) (s : ByteArray) (a' b' : Int) (s' : ByteArray) : eqAny (.cells [.int, .int, .text]) (.agg [i64D a, i64D b, strD s]) (.agg [i64D a', i64D b', strD s']) = some (decide (a = a') && decide (b = b') && decide (s = s')) := by
  have e1 : (a == a') = decide (a = a') := by by_cases h : a = a' <;> simp [h]
  have e2 : (b == b') = decide (b = b') := by by_cases h : b = b' <;> simp [h]
  have e3 : (s.toList == s'.toList) = decide (s = s') := by
    by_cases h : s = s'
    · simp [h]
    · have : ¬ s.toList = s'.toList := fun e => h ((toList_inj s s').1 e)
      simp [h, this]
  simp only [eqAny, eqL, eqK, if_true, e1, e2, e3]
  cases decide (a = a') <;> cases decide (b = b') <;> cases decide (s = s') <;> rfl

theorem setAll_from : ∀ (c z pre : List D), c.length = z.length → setAll (pre ++ z) pre.length c = pre ++ c
  | [], [], pre, _ => by simp [setAll]
  | d :: c, y :: z, pre, h => by
    have e : (pre ++ y :: z).set pre.length d = (pre ++ [d]) ++ z := by simp
    have e2 : pre.length + 1 = (pre ++ [d]).length := by simp
    rw [setAll, e, e2, setAll_from c z (pre ++ [d]) (by simpa using h)]
    simp

theorem setAll_full (z c : List D) (h : c.length = z.length) : setAll z 0 c = c := setAll_from c z [] h

theorem setAll_one (l : List D) (k : Nat) (d : D) : setAll l k [d] = l.set k d := rfl

theorem set_rows (l : List (Sl TEvent)) (k : Nat) (x : Sl TEvent) : (l.flatMap rowC).set k (x.enc eventC) = (l.set k x).flatMap rowC := by
  have : ∀ l : List (Sl TEvent), l.flatMap rowC = l.map fun r => r.enc eventC := by
    intro l
    induction l with
    | nil => rfl
    | cons a l ih => simp [rowC, ih]
  rw [this, this, List.map_set]

theorem rows_len (l : List (Sl TEvent)) : (l.flatMap rowC).length = l.length := by rw [flatMap_length rowC_len]; simp

/-- b's rows are appended to an empty slice. -/
theorem app_rows {H' : Heap} {r : Nat} (b : Sl (Sl TEvent)) (hb : b.l ≠ []) (hlen : b.l.length < 200) (hg : H'.get r = some (.cells [])) (k : D × Heap → Prop) (hk : k (.rs H'.next 0 b.l.length none 1, H'.add (.cells (b.l.flatMap rowC)))) :
    oK (evApp H' false 1 24 (.rs r 0 0 (some 0) 1) (slD b.rep b.l.length (b.l.flatMap rowC))) k := by
  have hf := sl_first H' 1 b.rep b.l.length (b.l.flatMap rowC) (by rw [flatMap_length rowC_len])
  have hm : 0 < b.l.length := List.length_pos_iff.2 hb
  refine ⟨_, ?_, hk⟩
  simp only [evApp, hf, hg]
  rw [if_neg (by simp; omega), if_pos (by decide), if_neg (by omega), if_pos]
  · simp
  · simp only [roomOk, Bool.and_eq_true, decide_eq_true_eq, List.length_nil]
    refine ⟨by decide, ⟨⟨by omega, by decide⟩, by omega⟩⟩

set_option maxHeartbeats 4000000 in
theorem other_walk (l : Sl TSchema) (q : TQuery) (b : Sl (Sl TEvent)) (a : Nat) (ha : a < 256) (more : Sl TEvent) (H : Heap) :
    cK tabL (.fn n_augurylaw11_EvalOther) [l.enc schemaC, .agg (queryC q), b.enc rowC, .v (.int .u8 a), more.enc eventC] H fun d H' => d = bD true ∧ H' = H := by
  refine cK_fn oL_other (tL t_augurylaw11_EvalOther) (Nat.le_of_ble_eq_true rfl) (by decide) ?_
  obtain ⟨g1, hg1⟩ := (GreatSchemas_run l H0).run
  obtain ⟨g2, hg2⟩ := (Great_run q H0).run
  obtain ⟨d3, H3, hg3, ⟨g3, rfl, hlen⟩, rfl⟩ := GreatBound_run b H0
  obtain ⟨d4, H4, hg4, ⟨g4, rfl, -⟩, rfl⟩ := GreatBound_run ⟨some (some 1), [more], Nat.le_of_ble_eq_true rfl⟩ H0
  have c1 := fun H => (runL oL_GreatSchemas (by simp) hg1 H).cK
  have c2 := fun H => (runL oL_Great (by simp) hg2 H).cK
  have c3 := fun H => (runL oL_GreatBound (by simp) hg3 H).cK
  have c4 : ∀ (H1 : Heap) (r : Nat) (_ : H1.get r = some (.cells [more.enc eventC])) (k : D → Heap → Prop), cK tabL (.fn n_augurylaw11_GreatBound) [.rs r 0 1 (some 1) 1] H1 k = k (bD g4) H1 := by
    intro H1 r hr k
    refine (cK.run (cK_frozen oL_GreatBound (by simp [under_rs]) ?_ hg4 rfl ⟨rfl, rfl⟩)).cK k
    refine frzL_two _ _ _ _ _ ?_ (frzL_none _)
    rw [frz2_row H1 62 r 1 (some 1) 1 _ hr rfl (by simp)]
    rfl
  simp only [Sl.enc, queryC] at c1 c2 c3 c4
  cases g1 with
  | true => simp [queryC, Sl.enc, (head_run _).cK, c1]
  | false =>
  cases g2 with
  | true => simp [queryC, Sl.enc, (head_run _).cK, c1, c2]
  | false =>
  cases g3 with
  | true => simp [queryC, Sl.enc, (head_run _).cK, c1, c2, c3]
  | false =>
  cases g4 with
  | true => simp [queryC, Sl.enc, (head_run _).cK, c1, c2, c3, c4]
  | false =>
  have hlen := hlen rfl
  by_cases hb : b.l = []
  · simp [queryC, Sl.enc, (head_run _).cK, c1, c2, c3, c4]
    simp [hb]
  · have hbl : ¬ ((b.l.length : Int) = 0) := by simp; exact hb
    simp [queryC, Sl.enc, (head_run _).cK, c1, c2, c3, c4, hb]
    have hm : 0 < b.l.length := List.length_pos_iff.2 hb
    have hwa : IntKind.i64.wrap (a : Int) = (a : Int) := wrap64 (by omega) (by omega)
    have hrem : evBin .rem (.v (.int .i64 (IntKind.i64.wrap (a : Int)))) (i64D b.l.length) = some (i64D ((a % b.l.length : Nat) : Int)) := by
      rw [hwa, bin_rem _ _ _ hbl, Int.ofNat_tmod]
    rw [hrem]
    generalize hkk : a % b.l.length = k
    have hk : k < b.l.length := by rw [← hkk]; exact Nat.mod_lt _ hm
    simp only [oK_some]
    refine app_rows b hb hlen (by simp) _ ?_
    have hk1 : ((k : Int) < (b.l.length : Int)) = True := by simp; omega
    have hk2 : (k + 1 ≤ b.l.length) = True := by simp; omega
    simp [hk1, hk2, sum_const]
    have hset : (b.l.flatMap rowC).set k (slD more.rep more.l.length (more.l.flatMap eventC)) = (b.l.set k more).flatMap rowC := set_rows b.l k more
    rw [hset]
    have hcl : (b.l.set k more).length ≤ big := by rw [List.length_set]; exact b.ok
    let c : Sl (Sl TEvent) := ⟨some none, b.l.set k more, hcl⟩
    refine LR_rule (WR_mono _) (fun j E H' => ∃ pre suf, q.preds.l = pre ++ suf ∧ j = suf.length ∧ E 0 = l.enc schemaC ∧ E 2 = b.enc rowC ∧ E 6 = .rf H.next 0 ∧ E 11 = bD true ∧ E 12 = i64D k ∧ E 13 = .rs (H.next + 3) 0 b.l.length none 1 ∧ E 14 = i64D pre.length ∧
      H'.get H.next = some (.cells (queryC q)) ∧ H'.get (H.next + 3) = some (.cells ((b.l.set k more).flatMap rowC)) ∧ H.next + 4 ≤ H'.next ∧ H.next ≤ H'.low ∧ H'.low ≤ H'.next) ?_ (j := q.preds.l.length) ⟨[], q.preds.l, by simp [Sl.enc, queryC]⟩
    rintro j E H' ⟨pre, suf, hl, rfl, e0, e2, e6, e11, e12, e13, e14, gN, gc, hn, hlow, hlw⟩
    cases suf with
    | nil =>
      simp at hl
      simp [queryC, Sl.enc, e6, e11, e14, gN, hl, hlow]
    | cons p suf =>
      have hlt : pre.length < q.preds.l.length := by rw [hl]; simp
      have hlt' : ((pre.length : Int) < (q.preds.l.length : Int)) = True := by simp; omega
      have hw := wrap_more hlt q.preds.ok
      have ep := elem_at predC_len q.preds.rep q.preds.l .i64 pre.length p (by rw [hl]; simp)
      simp only [predC] at ep
      simp at ep
      have hx0 : (H.next = H'.next) = False := by simp; omega
      simp [queryC, Sl.enc, e6, e12, e14, gN, hlt', ep, hlw, hx0]
      have next : ∀ (H1 : Heap), H1.get H.next = some (.cells (queryC q)) → H1.get (H.next + 3) = some (.cells ((b.l.set k more).flatMap rowC)) → H.next + 4 ≤ H1.next → H.next ≤ H1.low → H1.low ≤ H1.next →
          ∃ j', j' < suf.length + 1 ∧ ∃ pre2 suf2, q.preds.l = pre2 ++ suf2 ∧ j' = suf2.length ∧ (pre.length : Int) + 1 = (pre2.length : Int) ∧ H1.get H.next = some (.cells (queryC q)) ∧ H1.get (H.next + 3) = some (.cells ((b.l.set k more).flatMap rowC)) ∧ H.next + 4 ≤ H1.next ∧ H.next ≤ H1.low ∧ H1.low ≤ H1.next :=
        fun H1 a1 a2 a3 a4 a5 => ⟨suf.length, by omega, pre ++ [p], suf, by simp [hl], rfl, by simp, a1, a2, a3, a4, a5⟩
      have cN := fun v H => (runL oL_names (by simp) (names_run p.L p.okL v H0) H).cK
      have cV := fun H => (runL oL_Value (by simp) (eval_Value_run l q b p.L H0) H).cK
      have cW : ∀ (H1 : Heap) (_ : H1.get (H.next + 3) = some (.cells ((b.l.set k more).flatMap rowC))) (k' : D → Heap → Prop),
          cK tabL (.fn n_eval_Value) [l.enc schemaC, .agg (queryC q), .rs (H.next + 3) 0 b.l.length none 1, .agg (exprC p.L)] H1 k' = k' (valueS ⟨l, q, c⟩ p.L).enc H1 := by
        intro H1 hg k'
        refine (cK.run (cK_frozen oL_Value (args' := [l.enc schemaC, .agg (queryC q), c.enc rowC, .agg (exprC p.L)]) (by simp [under_rs]) ?_ (eval_Value_run l q c p.L H0) (by simp [VE.enc, flat, flat.flatL, valC]) ⟨rfl, rfl⟩)).cK k'
        refine frzL_two _ _ _ _ _ (frz2_under _ _ _ _ (by simp)) (frzL_two _ _ _ _ _ (frz2_under _ _ _ _ (by simp)) (frzL_two _ _ _ _ _ ?_ (frzL_two _ _ _ _ _ (frz2_under _ _ _ _ (by simp)) (frzL_none _))))
        rw [frz2_row H1 62 (H.next + 3) b.l.length none 1 _ hg (by rw [rows_len, List.length_set]; omega) (by simp)]
        simp [c, Sl.enc]
      simp only [Sl.enc, queryC, VE.enc, valC] at cV cW gN
      have hx3 : (H.next + 3 = H'.next) = False := by simp; omega
      have hx2 : (H.next + 2 = H'.next) = False := by simp; omega
      have hx1 : (H.next + 1 = H'.next) = False := by simp; omega
      have hxk : ∀ j, (H.next = H'.next + j) = False := by simp; omega
      have hl1 : H'.low ≤ H'.next + 1 := by omega
      have hl2 : H'.low ≤ H'.next + 2 := by omega
      have same : (∀ y, q.items.l[k]? = some y → namesE p.L y.var = false) → valueS ⟨l, q, b⟩ p.L = valueS ⟨l, q, c⟩ p.L := value_other l q b c k more rfl p.L
      refine gK_of (fun h1 => ?_) (fun h1 => ?_)
      · simp at h1
        obtain ⟨y, hy⟩ : ∃ y, q.items.l[k]? = some y := ⟨_, List.getElem?_eq_getElem h1⟩
        have ey := elem_at itemC_len q.items.rep q.items.l .i64 k y hy
        simp only [itemC] at ey
        simp at ey
        simp [h1, e6, e12, e14, gN, hx0, ey, Sl.enc]
        simp [setAll_full, cN]
        refine gK_of (fun h2 => ?_) (fun h2 => ?_)
        · simp [h2, e0, e2, e6, e11, e12, e13, e14, hw, hx0, hx3, gN, gc, hlow, Sl.enc]
          exact ⟨suf.length, by omega, pre ++ [p], suf, by simp [hl], rfl, by simp, by omega⟩
        · have hs := same fun y' hy' => by rw [hy] at hy'; cases hy'; exact h2
          simp [setAll_full, h2, e0, e2, e6, e13, gN, hl1, hl2, hx0, hx2, hx3, hxk, gc, Sl.enc, cV, cW]
          simp [eq_val, hs, e0, e2, e6, e11, e12, e13, e14, hw, hx0, hx1, hx2, hx3, hxk, gN, gc, hlow, Sl.enc]
          exact ⟨suf.length, by omega, pre ++ [p], suf, by simp [hl], rfl, by simp, by omega⟩
      · have h1' : (k < q.items.l.length) = False := by simpa using h1
        have hs := same fun y hy => by have := (List.getElem?_eq_some_iff.1 hy).1; simp at h1; omega
        simp [setAll_full, h1', e0, e2, e6, e12, e13, e14, gN, hl1, hl2, hx0, hx2, hx3, hxk, gc, Sl.enc, cV, cW]
        simp [eq_val, hs, e0, e2, e6, e11, e12, e13, e14, hw, hx0, hx1, hx2, hx3, hxk, gN, gc, hlow, Sl.enc]
        exact ⟨suf.length, by omega, pre ++ [p], suf, by simp [hl], rfl, by simp, by omega⟩

end Go.Proofs.YtnkbdcaiepecdaaGreat.Tz
