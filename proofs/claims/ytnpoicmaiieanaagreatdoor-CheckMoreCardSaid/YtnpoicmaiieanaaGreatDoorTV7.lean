/-
The walk of CheckKinds. Conditions: none.
-/
import Derived.Test.YtnpoicmaiieanaaGreatDoorTX2
import Derived.Test.YtnpoicmaiieanaaGreatDoorGQ
import Derived.Test.YtnpoicmaiieanaaGreatDoorTWj
namespace Go.Proofs.YtnpoicmaiieanaaGreatDoor.Tz
open Go.Aug Go.Aug.Api
set_option maxRecDepth 100000

/-- What the law calls with data alone. -/
theorem runL {f : Nat} {args : List D} {d : D} (ho : tabL.orc f = some (pureOrc2 (runSpec tab f))) (hu : D.under.underAll 0 args = true) (hd : Run tab (.fn f) args H0 d H0) (H : Heap) : Run tabL (.fn f) args H d H :=
  cK.run (cK_pure ho hu hd ⟨rfl, rfl⟩)
theorem tL {f : Nat} {fi : FI} (h : tab.fn f = some fi) : tabL.fn f = some fi := h
theorem under_rs (n r off m : Nat) (c : Option Nat) (s : Nat) : (D.rs r off m c s).under n = decide (r < n) := Eq.trans rfl rfl

theorem oL_GreatSchemas : tabL.orc n_augurylaw05_GreatSchemas = some (pureOrc2 (runSpec tab n_augurylaw05_GreatSchemas)) := by kernel_rfl
theorem oL_Great : tabL.orc n_augurylaw08_Great = some (pureOrc2 (runSpec tab n_augurylaw08_Great)) := by kernel_rfl
theorem oL_Kind : tabL.orc n_check_Kind = some (pureOrc2 (runSpec tab n_check_Kind)) := by kernel_rfl
theorem oL_Check : tabL.orc n_check_Check = some (pureOrc2 (runSpec tab n_check_Check)) := by kernel_rfl
theorem oL_Right : tabL.orc n_auguryref08_Right = some (pureOrc2 (runSpec tab n_auguryref08_Right)) := by kernel_rfl
theorem oL_head : tabL.orc n_augurylaw09_head = some orcHead := by kernel_rfl
theorem head_run (H : Heap) : Run tabL (.fn n_augurylaw09_head) [] H (bD true) H := cK.run (cK_orc oL_head ⟨_, rfl, rfl, rfl⟩)

theorem build15 (x y : TExpr) : setAll (setAll [(.v (.int .i64 0)), (.v (.int .i64 0)), (.v (.int .i64 0)), (.v (.int .i64 0)), (.v (.string ⟨#[]⟩)), (.v (.string ⟨#[]⟩)), (.v (.string ⟨#[]⟩)), (.v (.slice none 0 0)), (.v (.int .i64 0)), (.v (.int .i64 0)), (.v (.int .i64 0)), (.v (.string ⟨#[]⟩)), (.v (.string ⟨#[]⟩)), (.v (.string ⟨#[]⟩)), (.v (.slice none 0 0))] 1 (exprC x)) 8 (exprC y) = i64D 0 :: (exprC x ++ exprC y) := by
  rw [exprC_eq x, exprC_eq y]
  rfl
theorem build15_len (x : TExpr) : (setAll [(.v (.int .i64 0)), (.v (.int .i64 0)), (.v (.int .i64 0)), (.v (.int .i64 0)), (.v (.string ⟨#[]⟩)), (.v (.string ⟨#[]⟩)), (.v (.string ⟨#[]⟩)), (.v (.slice none 0 0)), (.v (.int .i64 0)), (.v (.int .i64 0)), (.v (.int .i64 0)), (.v (.string ⟨#[]⟩)), (.v (.string ⟨#[]⟩)), (.v (.string ⟨#[]⟩)), (.v (.slice none 0 0))] 1 (exprC x)).length = 15 := by
  rw [exprC_eq x]
  rfl
theorem build14 (x y : TExpr) : setAll (setAll [(.v (.int .i64 0)), (.v (.int .i64 0)), (.v (.int .i64 0)), (.v (.string ⟨#[]⟩)), (.v (.string ⟨#[]⟩)), (.v (.string ⟨#[]⟩)), (.v (.slice none 0 0)), (.v (.int .i64 0)), (.v (.int .i64 0)), (.v (.int .i64 0)), (.v (.string ⟨#[]⟩)), (.v (.string ⟨#[]⟩)), (.v (.string ⟨#[]⟩)), (.v (.slice none 0 0))] 0 (exprC x)) 7 (exprC y) = exprC x ++ exprC y := by
  rw [exprC_eq x, exprC_eq y]
  rfl
theorem build14_len (x : TExpr) : (setAll [(.v (.int .i64 0)), (.v (.int .i64 0)), (.v (.int .i64 0)), (.v (.string ⟨#[]⟩)), (.v (.string ⟨#[]⟩)), (.v (.string ⟨#[]⟩)), (.v (.slice none 0 0)), (.v (.int .i64 0)), (.v (.int .i64 0)), (.v (.int .i64 0)), (.v (.string ⟨#[]⟩)), (.v (.string ⟨#[]⟩)), (.v (.string ⟨#[]⟩)), (.v (.slice none 0 0))] 0 (exprC x)).length = 14 := by
  rw [exprC_eq x]
  rfl
theorem set15 (x y : TExpr) : setAll [(.v (.int .i64 0)), (.v (.int .i64 0)), (.v (.int .i64 0)), (.v (.int .i64 0)), (.v (.string ⟨#[]⟩)), (.v (.string ⟨#[]⟩)), (.v (.string ⟨#[]⟩)), (.v (.slice none 0 0)), (.v (.int .i64 0)), (.v (.int .i64 0)), (.v (.int .i64 0)), (.v (.string ⟨#[]⟩)), (.v (.string ⟨#[]⟩)), (.v (.string ⟨#[]⟩)), (.v (.slice none 0 0))] 0 (i64D 0 :: (exprC x ++ exprC y)) = i64D 0 :: (exprC x ++ exprC y) := by
  rw [exprC_eq x, exprC_eq y]
  rfl

theorem set15' (x y : TExpr) : setAll [i64D 0, (.v (.int .i64 0)), (.v (.int .i64 0)), (.v (.int .i64 0)), (.v (.string ⟨#[]⟩)), (.v (.string ⟨#[]⟩)), (.v (.string ⟨#[]⟩)), (.v (.slice none 0 0)), (.v (.int .i64 0)), (.v (.int .i64 0)), (.v (.int .i64 0)), (.v (.string ⟨#[]⟩)), (.v (.string ⟨#[]⟩)), (.v (.string ⟨#[]⟩)), (.v (.slice none 0 0))] 1 (exprC x ++ exprC y) = i64D 0 :: (exprC x ++ exprC y) := by
  rw [exprC_eq x, exprC_eq y]
  rfl

/-- A query with one predicate alone. -/
def qOne (x y : TExpr) (hx : okE x) (hy : okE y) : TQuery := ⟨.nil, ⟨some (some 1), [⟨0, x, y, hx, hy⟩], by simp [big]⟩, 0, ⟨#[]⟩, 0, by show (0:Nat) ≤ _; exact Nat.zero_le _⟩

theorem great_own {x y : TExpr} {hx : okE x} {hy : okE y} {g : Bool} (hg : Run tab (.fn n_augurylaw08_Great) [.agg (queryC (qOne x y hx hy))] H0 (bD g) H0) (H1 : Heap) (r : Nat) (hr : H1.get r = some (.cells (i64D 0 :: (exprC x ++ exprC y)))) (k : D → Heap → Prop) :
    cK tabL (.fn n_augurylaw08_Great) [.agg [.v (.slice none 0 0), .rs r 0 1 (some 1) 15, i64D 0, strD ⟨#[]⟩, i64D 0]] H1 k = k (bD g) H1 := by
  refine (cK.run (cK_frozen oL_Great (by simp [under_agg, under_cons]; rfl) ?_ hg rfl ⟨rfl, rfl⟩)).cK k
  refine frzL_two _ _ _ _ _ ?_ (frzL_none _)
  have h1 := frz2_row H1 61 r 1 (some 1) 15 _ hr (by simp) (by simp [under_cons, under_append])
  simp only [frz2] at h1
  simp [frz_agg, frzL_cons, frzL_nil, h1, frz_v, qOne, queryC, Sl.enc, Sl.nil, slD, predC, frz2]
  rfl

theorem kind_own (l : Sl TSchema) (q : TQuery) (x y : TExpr) (H1 : Heap) (r : Nat) (hr : H1.get r = some (.cells (exprC x ++ exprC y))) (k : D → Heap → Prop) :
    cK tabL (.fn n_check_Kind) [l.enc schemaC, .agg (queryC q), .agg [i64D 7, i64D 0, i64D 0, strD ⟨#[]⟩, strD ⟨#[]⟩, strD ⟨#[]⟩, .rs r 0 2 (some 2) 7]] H1 k = k (i64D (if kindS l.l q.items.l x = 1 ∧ kindS l.l q.items.l y = 1 then 1 else 0)) H1 := by
  have hd := check_Kind_run l q (.mk 7 zVal ⟨#[]⟩ ⟨#[]⟩ (some (some 2)) [x, y]) H0
  have e : kindS l.l q.items.l (.mk 7 zVal ⟨#[]⟩ ⟨#[]⟩ (some (some 2)) [x, y]) = if kindS l.l q.items.l x = 1 ∧ kindS l.l q.items.l y = 1 then 1 else 0 := by simp [kindS, kindTwo]
  rw [e] at hd
  refine (cK.run (cK_frozen oL_Kind (by simp [under_agg, under_cons]; rfl) ?_ hd rfl ⟨rfl, rfl⟩)).cK k
  have h1 := frz2_row H1 61 r 2 (some 2) 7 _ hr (by simp) (by simp [under_append])
  simp only [frz2] at h1
  refine frzL_two _ _ _ _ _ (frz2_under _ _ _ _ (by simp)) (frzL_two _ _ _ _ _ (frz2_under _ _ _ _ (by simp)) (frzL_two _ _ _ _ _ ?_ (frzL_none _)))
  simp [frz_agg, frzL_cons, frzL_nil, h1, frz_v, exprC_mk, zVal, slD, frz2]
  rfl

/-- A query without its predicates, with another time and pick. -/
def qBare (q : TQuery) (w : Int) : TQuery := ⟨q.items, .nil, w, q.by_, 3, q.okBy⟩
theorem qBare_eq (q : TQuery) (w : Int) : (((queryC q).set 1 (.v (.slice none 0 0))).set 2 (.v (.int .i64 w))).set 4 (.v (.int .i64 3)) = queryC (qBare q w) := rfl
theorem set5 (q : TQuery) : setAll [(.v (.slice none 0 0)), (.v (.slice none 0 0)), (.v (.int .i64 0)), (.v (.string ⟨#[]⟩)), (.v (.int .i64 0))] 0 (queryC q) = queryC q := rfl

theorem oL_CheckKinds : tabL.orc n_augurylaw09_CheckKinds = none := by kernel_rfl

set_option maxHeartbeats 4000000 in
theorem kinds_walk (l : Sl TSchema) (q : TQuery) (x : TExpr) (hx : okE x) (y : TExpr) (hy : okE y) (w : Int) (H : Heap) :
    cK tabL (.fn n_augurylaw09_CheckKinds) [l.enc schemaC, .agg (queryC q), .agg (exprC x), .agg (exprC y), i64D w] H fun d H' => d = bD true ∧ H' = H := by
  refine cK_fn oL_CheckKinds (tL t_augurylaw09_CheckKinds) (Nat.le_of_ble_eq_true rfl) (by decide) ?_
  obtain ⟨g1, hg1⟩ := (GreatSchemas_run l H0).run
  obtain ⟨g2, hg2⟩ := (Great_run q H0).run
  obtain ⟨g3, hg3⟩ := (Great_run (qOne x y hx hy) H0).run
  have c1 := fun H => (runL oL_GreatSchemas (by simp) hg1 H).cK
  have c2 := fun H => (runL oL_Great (by simp) hg2 H).cK
  have c3 := great_own hg3
  have hq5 : ∀ q : TQuery, (queryC q).take 5 = queryC q := fun q => List.take_of_length_le (by rw [queryC_len]; exact Nat.le_refl _)
  have kx := fun H => (runL oL_Kind (by simp) (check_Kind_run l q x H0) H).cK
  have ky := fun H => (runL oL_Kind (by simp) (check_Kind_run l q y H0) H).cK
  have ks := kind_own l q x y
  have kpx := fun H => (runL oL_Kind (by simp) (check_Kind_run l (qBare q w) x H0) H).cK
  have kpy := fun H => (runL oL_Kind (by simp) (check_Kind_run l (qBare q w) y H0) H).cK
  have eI : (qBare q w).items = q.items := rfl
  simp only [eI] at kpx kpy
  cases g1 with
  | true =>
    simp [(head_run _).cK, fillX, setAll_full, build15, build15_len, build14, build14_len, set15, set15', c1]
  | false =>
  cases g2 with
  | true =>
    simp [(head_run _).cK, fillX, setAll_full, build15, build15_len, build14, build14_len, set15, set15', c1, c2, hq5]
  | false =>
  cases g3 with
  | true =>
    simp [(head_run _).cK, fillX, setAll_full, build15, build15_len, build14, build14_len, set15, set15', c1, c2, c3, hq5]
  | false =>
    simp [(head_run _).cK, fillX, setAll_full, build15, build15_len, build14, build14_len, set15, set15', c1, c2, c3, hq5, set5, qBare_eq, kx, ky, ks, kpx, kpy]
    have heq : ∀ a b, eqAny .bool (bD a) (bD b) = some (a == b) := fun a b => by cases a <;> cases b <;> rfl
    by_cases ha : kindS l.l q.items.l x = 1 <;> by_cases hb : kindS l.l q.items.l y = 1 <;> simp [ha, hb, heq]

end Go.Proofs.YtnpoicmaiieanaaGreatDoor.Tz
