/-
The walks of expressions: folds. Conditions: none.
-/
import Derived.Test.YthdkeggdipogoaaGreatDoorGP
namespace Go.Proofs.YthdkeggdipogoaaGreatDoor.Tz
open Go.Aug Go.Aug.Api
set_option maxRecDepth 100000
theorem within_sl {n : Nat} (rep : Option (Option Nat)) (m : Nat) (cells : List D) (h : cells.all (within n) = true) : within (n + 1) (slD rep m cells) = true := by
  cases rep with
  | none =>
    cases m with
    | zero => rfl
    | succ m => simpa [slD, within] using h
  | some c => simpa [slD, within] using h
theorem frz_events (H : Heap) (lo n : Nat) (rep : Option (Option Nat)) (l : List TEvent) : frz H lo (n + 3) (slD rep l.length (l.flatMap eventC)) = some (slD rep l.length (l.flatMap eventC)) := by
  refine frz_within (n + 3) _ (within_sl _ _ _ ?_)
  rw [List.all_flatMap]
  simp only [List.all_eq_true]
  intro e _
  simp only [eventC, List.mem_cons, List.not_mem_nil, or_false]
  rintro d (rfl | rfl | rfl | rfl | rfl) <;> try rfl
  refine within_sl _ _ _ ?_
  rw [List.all_flatMap]
  simp [valC, within]
theorem eval_scope_numbers_run (row : Sl TEvent) (name : ByteArray) (H : Heap) {r : Nat} (hr : r < H.next) :
    Run tab (.fn n_eval_scope_numbers) [.rf r 0, row.enc eventC, strD name] H (.fn (.func n_eval_scope_numbers_1) [] [.cp [row.enc eventC], .cp [.rf r 0], .cp [strD name]]) H := by
  refine cK.run (cK_fn o_eval_scope_numbers t_eval_scope_numbers (Nat.le_of_ble_eq_true rfl) (by decide) ?_)
  rw [z_eval_scope_numbers]
  simp [Sl.enc]
  rw [finX_frozen (d' := .fn (.func n_eval_scope_numbers_1) [] [.cp [slD row.rep row.l.length (row.l.flatMap eventC)], .cp [.rf r 0], .cp [strD name]]) (by simp) (by simp [frz_fn, frz_rf, frz_v, frzL_cons, frzL_nil, frz_events, hr, D.under])]
  simp
theorem eval_scope_numbers_1_c (s : TScope) (row : Sl TEvent) (name : ByteArray) {q r : Nat} (H : Heap) (I : Option (List TEvent) → Heap → Prop) (R : D → Heap → Prop)
    (hst : ∀ o l H', I o H' → I o (H'.add l)) (hok : ∀ o H', I o H' → H'.get r = some (.cells (scopeC s)) ∧ r < H'.next ∧ H'.low ≤ H'.next)
    (hy : ∀ e l H', I (some (e :: l)) H' → cK tab (.yl q) [.agg (valC (numE s e name).1), i64D (numE s e name).2] H' (fun d H'' => (d = bD true ∧ I (some l) H'') ∨ (d = bD false ∧ I none H'')))
    (hend : ∀ o H', (o = none ∨ o = some []) → I o H' → finX (tab.fz n_eval_scope_numbers_1) H (.tup []) H' R) (h0 : I (some row.l) (low0 H)) :
    cK tab (.fn n_eval_scope_numbers_1) [.yl q, .cp [row.enc eventC], .cp [.rf r 0], .cp [strD name]] H R := by
  refine cK_fn o_eval_scope_numbers_1 t_eval_scope_numbers_1 (Nat.le_of_ble_eq_true rfl) (by decide) ?_
  simp [Sl.enc]
  refine LR_rule (WR_mono _) (fun j E H' => ∃ pre suf, row.l = pre ++ suf ∧ j = suf.length ∧ E 0 = .yl q ∧ E 2 = .cp [.rf r 0] ∧ E 3 = .cp [strD name] ∧ E 9 = row.enc eventC ∧ E 10 = i64D row.l.length ∧ E 11 = i64D pre.length ∧ I (some suf) H') ?_
    (j := row.l.length) ⟨[], row.l, by simp [Sl.enc, h0]⟩
  rintro j E H' ⟨pre, suf, hl, rfl, e0, e2, e3, e9, e10, e11, hi⟩
  cases suf with
  | nil =>
    simp at hl
    simp [e10, e11, hl]
    exact hend (some []) H' (.inr rfl) hi
  | cons e suf =>
    have hlt : pre.length < row.l.length := by simp [hl]
    obtain ⟨hg, hr, hlow⟩ := hok _ _ hi
    have hne : (r = H'.next) = False := by simp; omega
    have hne2 : ∀ k, (r = H'.next + k) = False := by simp; omega
    have hr2 : ∀ k, (r < H'.next + k) = True := by simp; omega
    have hF := fun (H1 : Heap) (h1 : H1.get r = some (.cells (scopeC s))) (h2 : r < H1.next) => (eval_scope_field_run s e.ts e.depth e.seq e.name e.vals name H1 h1 h2).cK
    simp only [Sl.enc] at hF
    have hle : H'.low ≤ H'.next + 1 := by omega
    simp [e2, e3, e9, e10, e11, hl, Sl.enc, zip_at eventC_len, load_elem _ _ _ _ (eventC_len e), hlow]
    simp [eventC, Sl.enc, hg, hne, hr2, hF, VE.enc, valC, hle]
    have hw := wrap_len hlt row.ok
    have he : (⟨e.ts, e.depth, e.seq, e.name, e.vals⟩ : TEvent) = e := rfl
    have rest : ∀ d H'', (d = bD true ∧ I (some suf) H'') ∨ (d = bD false ∧ I none H'') → (d = bD true ∧ I (some suf) H'') ∨ (d = bD false ∧ finX (tab.fz n_eval_scope_numbers_1) H (.tup []) H'' R) := by
      rintro d H'' (⟨h1, h2⟩ | ⟨h1, h2⟩)
      · exact .inl ⟨h1, h2⟩
      · exact .inr ⟨h1, hend _ _ (.inl rfl) h2⟩
    have hy2 := fun c1 c2 => (hy e suf _ (hst _ (.cells c2) _ (hst _ (.cells c1) _ hi))).mono rest
    refine gK_of (fun h1 => ?_) (fun h1 => ?_)
    · simp [h1]
      simp at h1
      refine gK_of (fun h2 => ?_) (fun h2 => ?_)
      · simp [h2, e0]
        simp at h2
        have hn : numE s e name = ((fieldE s e name).1, 42) := by simp [numE, he ▸ h1, h2]
        simp only [hn, valC] at hy2
        refine (hy2 _ _).mono ?_
        rintro d H2 (⟨rfl, hI⟩ | ⟨rfl, hI⟩)
        · simp [e0, e2, e3, e9, e10, e11, hw, hl, Sl.enc]
          exact ⟨suf.length, by omega, pre ++ [e], suf, by simp, rfl, by simp, hI⟩
        · simp
          exact hI
      · simp [h2, e0]
        simp at h2
        have hn : numE s e name = fieldE s e name := by simp [numE, he ▸ h1, h2]
        simp only [hn, valC] at hy2
        refine (hy2 _ _).mono ?_
        rintro d H2 (⟨rfl, hI⟩ | ⟨rfl, hI⟩)
        · simp [e0, e2, e3, e9, e10, e11, hw, hl, Sl.enc]
          exact ⟨suf.length, by omega, pre ++ [e], suf, by simp, rfl, by simp, hI⟩
        · simp
          exact hI
    · simp [h1, e0]
      simp at h1
      have hn : numE s e name = fieldE s e name := by simp [numE, he ▸ h1]
      simp only [hn, valC] at hy2
      refine (hy2 _ _).mono ?_
      rintro d H2 (⟨rfl, hI⟩ | ⟨rfl, hI⟩)
      · simp [e0, e2, e3, e9, e10, e11, hw, hl, Sl.enc]
        exact ⟨suf.length, by omega, pre ++ [e], suf, by simp, rfl, by simp, hI⟩
      · simp
        exact hI
structure FoldI (H : Heap) (xc : List D) (H' : Heap) (out : TVal) (first : Bool) (res : TVal) (err : Int) (rc : O) : Prop where
  next : H.next + 7 ≤ H'.next
  low : H.next ≤ H'.low
  low' : H'.low ≤ H'.next
  old : ∀ k, k < H.next → H'.get k = H.get k
  g0 : H'.get H.next = some (.cells xc)
  g1 : H'.get (H.next + 1) = some (.cells (valC res))
  g2 : H'.get (H.next + 2) = some (.cells [i64D err])
  g3 : H'.get (H.next + 3) = some (.cells (valC out))
  g4 : H'.get (H.next + 4) = some (.cells foldsD)
  g5 : H'.get (H.next + 5) = some (.cells [bD first])
  g6 : H'.get (H.next + 6) = some rc
theorem FoldI.add {H : Heap} {xc : List D} {H' : Heap} {out : TVal} {first : Bool} {res : TVal} {err : Int} {rc : O} (h : FoldI H xc H' out first res err rc) (o : O) : FoldI H xc (H'.add o) out first res err rc := by
  have hn := h.next
  have hl := h.low'
  refine ⟨by simp; omega, by simp [h.low], by simp; omega, fun k hk => ?_, ?_, ?_, ?_, ?_, ?_, ?_, ?_⟩
  · rw [get_add, if_neg (by omega), h.old k hk]
  · rw [get_add, if_neg (by omega), h.g0]
  · rw [get_add, if_neg (by omega), h.g1]
  · rw [get_add, if_neg (by omega), h.g2]
  · rw [get_add, if_neg (by omega), h.g3]
  · rw [get_add, if_neg (by omega), h.g4]
  · rw [get_add, if_neg (by omega), h.g5]
  · rw [get_add, if_neg (by omega), h.g6]
theorem FoldI.set1 {H : Heap} {xc : List D} {H' : Heap} {out : TVal} {first : Bool} {res : TVal} {err : Int} {rc : O} (h : FoldI H xc H' out first res err rc) (v : TVal) : FoldI H xc (H'.set (H.next + 1) (.cells (valC v))) out first v err rc := by
  have hn := h.next
  have hl := h.low'
  have hl2 := h.low
  refine ⟨by simp; omega, by rw [low_set]; split <;> omega, by rw [low_set, next_set]; split <;> omega, fun k hk => ?_, ?_, ?_, ?_, ?_, ?_, ?_, ?_⟩
  · rw [get_set, if_neg (by omega), h.old k hk]
  · rw [get_set, if_neg (by omega), h.g0]
  · rw [get_set, if_pos ⟨rfl, by rw [h.g1]; rfl⟩]
  · rw [get_set, if_neg (by omega), h.g2]
  · rw [get_set, if_neg (by omega), h.g3]
  · rw [get_set, if_neg (by omega), h.g4]
  · rw [get_set, if_neg (by omega), h.g5]
  · rw [get_set, if_neg (by omega), h.g6]
theorem FoldI.set2 {H : Heap} {xc : List D} {H' : Heap} {out : TVal} {first : Bool} {res : TVal} {err : Int} {rc : O} (h : FoldI H xc H' out first res err rc) (v : Int) : FoldI H xc (H'.set (H.next + 2) (.cells [i64D v])) out first res v rc := by
  have hn := h.next
  have hl := h.low'
  have hl2 := h.low
  refine ⟨by simp; omega, by rw [low_set]; split <;> omega, by rw [low_set, next_set]; split <;> omega, fun k hk => ?_, ?_, ?_, ?_, ?_, ?_, ?_, ?_⟩
  · rw [get_set, if_neg (by omega), h.old k hk]
  · rw [get_set, if_neg (by omega), h.g0]
  · rw [get_set, if_neg (by omega), h.g1]
  · rw [get_set, if_pos ⟨rfl, by rw [h.g2]; rfl⟩]
  · rw [get_set, if_neg (by omega), h.g3]
  · rw [get_set, if_neg (by omega), h.g4]
  · rw [get_set, if_neg (by omega), h.g5]
  · rw [get_set, if_neg (by omega), h.g6]
theorem FoldI.set3 {H : Heap} {xc : List D} {H' : Heap} {out : TVal} {first : Bool} {res : TVal} {err : Int} {rc : O} (h : FoldI H xc H' out first res err rc) (v : TVal) : FoldI H xc (H'.set (H.next + 3) (.cells (valC v))) v first res err rc := by
  have hn := h.next
  have hl := h.low'
  have hl2 := h.low
  refine ⟨by simp; omega, by rw [low_set]; split <;> omega, by rw [low_set, next_set]; split <;> omega, fun k hk => ?_, ?_, ?_, ?_, ?_, ?_, ?_, ?_⟩
  · rw [get_set, if_neg (by omega), h.old k hk]
  · rw [get_set, if_neg (by omega), h.g0]
  · rw [get_set, if_neg (by omega), h.g1]
  · rw [get_set, if_neg (by omega), h.g2]
  · rw [get_set, if_pos ⟨rfl, by rw [h.g3]; rfl⟩]
  · rw [get_set, if_neg (by omega), h.g4]
  · rw [get_set, if_neg (by omega), h.g5]
  · rw [get_set, if_neg (by omega), h.g6]
theorem FoldI.set5 {H : Heap} {xc : List D} {H' : Heap} {out : TVal} {first : Bool} {res : TVal} {err : Int} {rc : O} (h : FoldI H xc H' out first res err rc) (v : Bool) : FoldI H xc (H'.set (H.next + 5) (.cells [bD v])) out v res err rc := by
  have hn := h.next
  have hl := h.low'
  have hl2 := h.low
  refine ⟨by simp; omega, by rw [low_set]; split <;> omega, by rw [low_set, next_set]; split <;> omega, fun k hk => ?_, ?_, ?_, ?_, ?_, ?_, ?_, ?_⟩
  · rw [get_set, if_neg (by omega), h.old k hk]
  · rw [get_set, if_neg (by omega), h.g0]
  · rw [get_set, if_neg (by omega), h.g1]
  · rw [get_set, if_neg (by omega), h.g2]
  · rw [get_set, if_neg (by omega), h.g3]
  · rw [get_set, if_neg (by omega), h.g4]
  · rw [get_set, if_pos ⟨rfl, by rw [h.g5]; rfl⟩]
  · rw [get_set, if_neg (by omega), h.g6]
theorem FoldI.set6 {H : Heap} {xc : List D} {H' : Heap} {out : TVal} {first : Bool} {res : TVal} {err : Int} {rc : O} (h : FoldI H xc H' out first res err rc) (v : O) : FoldI H xc (H'.set (H.next + 6) v) out first res err v := by
  have hn := h.next
  have hl := h.low'
  have hl2 := h.low
  refine ⟨by simp; omega, by rw [low_set]; split <;> omega, by rw [low_set, next_set]; split <;> omega, fun k hk => ?_, ?_, ?_, ?_, ?_, ?_, ?_, ?_⟩
  · rw [get_set, if_neg (by omega), h.old k hk]
  · rw [get_set, if_neg (by omega), h.g0]
  · rw [get_set, if_neg (by omega), h.g1]
  · rw [get_set, if_neg (by omega), h.g2]
  · rw [get_set, if_neg (by omega), h.g3]
  · rw [get_set, if_neg (by omega), h.g4]
  · rw [get_set, if_neg (by omega), h.g5]
  · rw [get_set, if_pos ⟨rfl, by rw [h.g6]; rfl⟩]
theorem FoldI.setR {H : Heap} {xc : List D} {H' : Heap} {out : TVal} {first : Bool} {res : TVal} {err : Int} {rc : O} (h : FoldI H xc H' out first res err rc) (r : Nat) (hr : H.next + 7 ≤ r) (o : O) : FoldI H xc (H'.set r o) out first res err rc := by
  have hn := h.next
  have hl := h.low'
  have hl2 := h.low
  refine ⟨by simp; omega, by rw [low_set]; split <;> omega, by rw [low_set, next_set]; split <;> omega, fun k hk => ?_, ?_, ?_, ?_, ?_, ?_, ?_, ?_⟩
  · rw [get_set, if_neg (by omega), h.old k hk]
  · rw [get_set, if_neg (by omega), h.g0]
  · rw [get_set, if_neg (by omega), h.g1]
  · rw [get_set, if_neg (by omega), h.g2]
  · rw [get_set, if_neg (by omega), h.g3]
  · rw [get_set, if_neg (by omega), h.g4]
  · rw [get_set, if_neg (by omega), h.g5]
  · rw [get_set, if_neg (by omega), h.g6]
theorem low_set_le (H : Heap) (r : Nat) (o : O) : (H.set r o).low ≤ r := by rw [low_set]; split <;> omega
def FoldAll (s : TScope) (x : TExpr) (row : List TEvent) (e : Env) (H : Heap) (o : Option (List TEvent)) (H' : Heap) : Prop :=
  match o with
  | some rest => ∃ out first, FoldI H (exprC x) H' out first zVal 0 (.loop false false .normal e [19, 20] F_eval_scope_folded.a12 F_eval_scope_folded.b13) ∧ (H'.low ≤ H.next + 6 ∨ rest = row) ∧ (first = true → out = zVal) ∧
      foldedS s x.kind x.field row = (if first = true then foldedS s x.kind x.field rest else foldS s x.kind x.field rest out)
  | none => ∃ out first err, FoldI H (exprC x) H' out first zVal err (.loop false true .ret e [19, 20] F_eval_scope_folded.a12 F_eval_scope_folded.b13) ∧ H'.low ≤ H.next + 6 ∧ foldedS s x.kind x.field row = (zVal, err)
set_option maxHeartbeats 2000000 in
theorem eval_scope_folded_run (s : TScope) (row : Sl TEvent) (hrow : row.l ≠ []) (x : TExpr) (hk : 4 ≤ x.kind ∧ x.kind ≤ 6) (H : Heap) {r : Nat} (h : H.get r = some (.cells (scopeC s))) (hr : r < H.next) :
    Run tab (.fn n_eval_scope_folded) [.rf r 0, row.enc eventC, .agg (exprC x)] H (foldedS s x.kind x.field row.l).enc H := by
  refine cK.run (cK_fn o_eval_scope_folded t_eval_scope_folded (Nat.le_of_ble_eq_true rfl) (by decide) ?_)
  have hne : (r = H.next) = False := by simp; omega
  have hne2 : ∀ k, (r = H.next + k) = False := by simp; omega
  have hr2 : ∀ k, (r < H.next + k) = True := by simp; omega
  have hN := fun (H1 : Heap) (h2 : r < H1.next) => (eval_scope_numbers_run row x.field H1 h2).cK
  simp only [Sl.enc] at hN
  simp [exprC_eq, Sl.enc, hr2, hN, (eval_folds_run _).cK, foldsD]
  refine RX_of rfl fun e he => ?_
  obtain ⟨E0, he, f5, f6, f7, f8, f9, f10⟩ : ∃ E0 : Fr, Fits 43 E0 e ∧ E0 5 = .rf H.next 0 ∧ E0 6 = .rf (H.next + 1) 0 ∧ E0 7 = .rf (H.next + 2) 0 ∧ E0 8 = .rf (H.next + 3) 0 ∧ E0 9 = .rf (H.next + 4) 0 ∧ E0 10 = .rf (H.next + 5) 0 :=
    ⟨_, he, by simp, by simp, by simp, by simp, by simp, by simp⟩
  simp
  have key := eval_scope_numbers_1_c s row x.field (q := H.next + 6) (r := r)
  simp only [Sl.enc] at key
  refine key _ (FoldAll s x row.l e H) _ ?_ ?_ ?_ ?_ ?_
  · intro o l H' hi
    cases o with
    | none => obtain ⟨out, first, err, h1, h2, h3⟩ := hi; exact ⟨out, first, err, h1.add l, h2, h3⟩
    | some rest => obtain ⟨out, first, h1, h2, h0, h3⟩ := hi; exact ⟨out, first, h1.add l, h2, h0, h3⟩
  · intro o H' hi
    have fin : ∀ {out first err rc}, FoldI H (exprC x) H' out first zVal err rc → H'.get r = some (.cells (scopeC s)) ∧ r < H'.next ∧ H'.low ≤ H'.next := fun h1 => ⟨by rw [h1.old r hr, h], by have := h1.next; omega, h1.low'⟩
    cases o with
    | none => obtain ⟨out, first, err, h1, h2, h3⟩ := hi; exact fin h1
    | some rest => obtain ⟨out, first, h1, h2, h0, h3⟩ := hi; exact fin h1
  · intro ev l H' hi
    obtain ⟨out, first, h1, h2, h0, h3⟩ := hi
    refine cK_yl h1.g6 he rfl (by decide) (by decide) (by decide) ?_
    have hnx := h1.next
    have hlw := h1.low'
    have nx : ∀ j, j < 7 → (H.next + j = H'.next) = False := fun j hj => by simp; omega
    have nx0 : (H.next = H'.next) = False := by simp; omega
    simp
    have nx6 := nx 6 (by omega)
    refine assignX_of (jump := .normal) (e := e) (ps := [19, 20]) (a := F_eval_scope_folded.a12) (b := F_eval_scope_folded.b13) ?_ ?_
    · simp [nx6, h1.g6, hlw, valC]
    have nx5 := nx 5 (by omega)
    have nx4 := nx 4 (by omega)
    have nx3 := nx 3 (by omega)
    have nx2 := nx 2 (by omega)
    have nx1 := nx 1 (by omega)
    have hnx2 : ∀ j, j < 7 → (H'.next = H.next + j) = False := fun j hj => by simp; omega
    have hx6 := hnx2 6 (by omega)
    have hx5 := hnx2 5 (by omega)
    have hx4 := hnx2 4 (by omega)
    have hx3 := hnx2 3 (by omega)
    have hx2 := hnx2 2 (by omega)
    have hx1 := hnx2 1 (by omega)
    have hx0 : (H'.next = H.next) = False := by simp; omega
    have g0 := h1.g0
    rw [exprC_eq] at g0
    simp [nx6, hlw, valC]
    refine gK_of (fun k1 => ?_) (fun k1 => ?_)
    · simp [k1, f10, nx5, h1.g5, get_set]
      simp at k1
      cases first with
      | true =>
        have hz := h0 rfl
        simp [k1, f8, f10, nx6, nx5, nx3, h1.g5, h1.g3, h1.g6, get_set, valC]
        refine ⟨(numE s ev x.field).1, false, ((((h1.set6 _).add _).set3 (numE s ev x.field).1).set5 false).set6 _, .inl (low_set_le _ _ _), by simp, ?_⟩
        rw [h3]
        simp [foldedS, k1]
      | false =>
        have hkc : x.kind = 4 ∨ x.kind = 5 ∨ x.kind = 6 := by omega
        have ff : ∀ (v : TVal) (n : Int) (of : VE), foldOf x.kind out (numE s ev x.field).1 = of → True := fun _ _ _ _ => trivial
        rcases hkc with hk4 | hk4 | hk4
        · have hC := fun H1 => (value_Add_run out.kind out.n out.s (numE s ev x.field).1.kind (numE s ev x.field).1.n (numE s ev x.field).1.s H1).cK
          simp [k1, f5, f8, f9, nx4, nx3, g0, h1.g4, h1.g3, h1.g6, get_set, nx0, valC, hk4, foldsD, hC, VE.enc]
          have hfo : foldOf x.kind out (numE s ev x.field).1 = addV out (numE s ev x.field).1 := by simp [foldOf, hk4]
          refine gK_of (fun k2 => ?_) (fun k2 => ?_)
          · simp [f6, f7, nx6, nx2, nx1, h1.g1, h1.g2, h1.g6, get_set, valC, k2]
            simp at k2
            refine ⟨out, false, _, ((((h1.set6 _).add _).setR _ hnx _).set1 zVal |>.set2 _).set6 _, low_set_le _ _ _, ?_⟩
            rw [h3]
            have e1 : (foldOf x.kind out (numE s ev x.field).1).2 = (addV out (numE s ev x.field).1).2 := by rw [hfo]
            rw [hk4] at e1
            simp only [foldS, k1, hk4, e1]
            simp
            intro h; exact absurd h k2
          · simp [f8, f10, nx6, nx5, nx3, h1.g5, h1.g3, h1.g6, get_set, valC, k2]
            simp at k2
            refine ⟨(foldOf x.kind out (numE s ev x.field).1).1, false, ?_, .inl (low_set_le _ _ _), by simp, ?_⟩
            · rw [hfo]
              exact (((((h1.set6 _).add _).setR _ hnx _).set3 _).set5 false).set6 _
            · rw [h3]
              simp only [foldS, k1, hfo]
              simp [k2]
        · have hC := fun H1 => (eval_folds_1_1_run out.kind out.n out.s (numE s ev x.field).1.kind (numE s ev x.field).1.n (numE s ev x.field).1.s (-1) (.inr rfl) H1).cK
          have hfo : foldOf x.kind out (numE s ev x.field).1 = (betterV (-1) out (numE s ev x.field).1, 0) := by simp [foldOf, hk4, betterV, cmpI]; grind
          simp [k1, f5, f8, f9, f10, nx6, nx5, nx4, nx3, g0, h1.g4, h1.g5, h1.g3, h1.g6, get_set, nx0, valC, VE.enc, hk4, foldsD, hC]
          refine ⟨(foldOf x.kind out (numE s ev x.field).1).1, false, ?_, .inl (low_set_le _ _ _), by simp, ?_⟩
          · rw [hfo]
            exact (((((h1.set6 _).add _).setR _ hnx _).set3 _).set5 false).set6 _
          · rw [h3]
            simp only [foldS, k1, hfo]
            simp
        · have hC := fun H1 => (eval_folds_1_1_run out.kind out.n out.s (numE s ev x.field).1.kind (numE s ev x.field).1.n (numE s ev x.field).1.s 1 (.inl rfl) H1).cK
          have hfo : foldOf x.kind out (numE s ev x.field).1 = (betterV 1 out (numE s ev x.field).1, 0) := by simp [foldOf, hk4, betterV, cmpI]; grind
          simp [k1, f5, f8, f9, f10, nx6, nx5, nx4, nx3, g0, h1.g4, h1.g5, h1.g3, h1.g6, get_set, nx0, valC, VE.enc, hk4, foldsD, hC]
          refine ⟨(foldOf x.kind out (numE s ev x.field).1).1, false, ?_, .inl (low_set_le _ _ _), by simp, ?_⟩
          · rw [hfo]
            exact (((((h1.set6 _).add _).setR _ hnx _).set3 _).set5 false).set6 _
          · rw [h3]
            simp only [foldS, k1, hfo]
            simp
    · simp [k1, f6, f7, nx6, nx2, nx1, h1.g1, h1.g2, h1.g6, get_set, valC]
      simp at k1
      refine ⟨out, first, (numE s ev x.field).2, (((h1.set6 _).add _).set1 zVal |>.set2 _).set6 _, low_set_le _ _ _, ?_⟩
      rw [h3]
      cases first <;> simp [foldedS, foldS, k1]
  · intro o H' ho hi
    have hlw : ∀ {out first err rc}, FoldI H (exprC x) H' out first zVal err rc → (if H.next < H'.low then H.next else H'.low) = H.next := fun h1 => by have := h1.low; split <;> omega
    rcases ho with rfl | rfl
    · obtain ⟨out, first, err, h1, h2, h3⟩ := hi
      rw [finX_loud (by simp; omega)]
      refine ⟨true, .ret, e, [19, 20], F_eval_scope_folded.a12, F_eval_scope_folded.b13, by simp [h1.g6], ?_⟩
      simp [h1.g1, h1.g2, get_del, hlw h1, valC, zVal]
      simp [h3, VE.enc, valC, zVal]
    · obtain ⟨out, first, h1, h2, h0, h3⟩ := hi
      have h2 : H'.low ≤ H.next + 6 := by
        rcases h2 with h2 | h2
        · exact h2
        · exact absurd h2.symm hrow
      rw [finX_loud (by simp; omega)]
      refine ⟨false, .normal, e, [19, 20], F_eval_scope_folded.a12, F_eval_scope_folded.b13, by simp [h1.g6], ?_⟩
      simp [h1.g1, h1.g2, h1.g3, get_del, get_set, hlw h1, valC, zVal]
      have e1 : foldedS s x.kind x.field row.l = (out, 0) := by
        rw [h3]
        cases first with
        | true => simp [foldedS, h0 rfl]
        | false => simp [foldS]
      simp [e1, VE.enc, valC]
  · refine ⟨zVal, true, ⟨by simp, by simp, by simp, fun k hk => ?_, ?_, ?_, ?_, ?_, ?_, ?_, ?_⟩, .inr rfl, fun _ => rfl, by simp⟩
    · have e1 : (k = H.next) = False := by simp; omega
      have e2 : ∀ j, (k = H.next + j) = False := by simp; omega
      simp [e1, e2]
    all_goals simp [exprC_eq, valC, zVal, foldsD]
end Go.Proofs.YthdkeggdipogoaaGreatDoor.Tz
