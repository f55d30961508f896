/-
A right query's text says its items, its time, what parts it and its pick. Conditions: none; plain.
-/
import Derived.Test.YtmfhanoibbmnlaaGreatDoorTX5
namespace Go.Aug.Api
open Go.Aug
end Go.Aug.Api

namespace Go.Aug.Api
open Go.Aug
def isAdd (x : TExpr) : Prop := x.kind = 7 ∨ x.kind = 8
instance (x : TExpr) : Decidable (isAdd x) := by unfold isAdd; infer_instance
def Stop (s : List UInt8) : Prop := s = [] ∨ (∃ t, s = 41 :: t) ∨ ∃ c t, s = 32 :: c :: t ∧ c ≠ 43 ∧ c ≠ 45
theorem Stop.weak {s : List UInt8} (h : Stop s) : Weak s := by
  rcases h with rfl | ⟨t, rfl⟩ | ⟨c, t, rfl, -, -⟩
  · exact .inl rfl
  · exact .inr ⟨41, t, rfl, .inl rfl⟩
  · exact .inr ⟨32, _, rfl, .inr rfl⟩
end Go.Aug.Api

namespace Go.Aug.Api
open Go.Aug
end Go.Aug.Api

namespace Go.Proofs.YtmfhanoibbmnlaaGreatDoor.Tz
open Go.Aug Go.Aug.Api
set_option maxRecDepth 100000
def plainQ (q : TQuery) : Bool := decide (q.pick = 1) && !(q.items.l.any fun x => x.not)
def normW (q : TQuery) (w : Int) : TQuery := { normQ q with within := w }
def classS (a b : TQuery) : Int := if rightP a = true ∧ rightP b = true then (if textR (normW a b.within) = textR (normQ b) then (if a.within = b.within then 1 else if plainQ a = true then (if b.within < a.within then 2 else 3) else 4) else 4) else 0
theorem normW_right {q : TQuery} (h : rightP q = true) {w : Int} (h0 : 0 ≤ w) (h1 : w ≤ maxNum) : rightP (normW q w) = true := by
  have hn : rightP (normQ q) = true := by
    rw [normQ_right h]
    obtain ⟨a1, a2, a3, a4, a5, a6, a7, a8, a9, a10⟩ := right_parts h
    refine right_of h rfl rfl rfl rfl ?_ ?_
    · refine List.all_eq_true.2 fun x hx => ?_
      obtain ⟨p, hp, rfl⟩ := normL_mem hx
      exact (predX_norm (List.all_eq_true.1 a2 p hp)).1
    · have := normL_length q.items.l (textS q) q.preds.l
      simp only
      omega
  obtain ⟨a1, a2, a3, a4, a5, a6, a7, a8, a9, a10⟩ := right_parts hn
  unfold rightP normW
  simp only [a1, a2, Bool.true_and]
  have e : decide (8 < (normQ q).preds.l.length) = false := by simp; omega
  have e1 : decide ((normQ q).items.l.length = 0) = false := by simpa using a3
  have e2 : decide (6 < (normQ q).items.l.length) = false := by simp; omega
  have e3 : decide (w < 0) = false := by simp; omega
  have e4 : decide (maxNum < w) = false := by simp; omega
  have e5 : decide ((normQ q).pick < 1) = false := by simp; omega
  have e6 : decide (3 < (normQ q).pick) = false := by simp; omega
  rw [e, e1, e2, e3, e4, e5, e6]
  rcases a10 with h | h
  · simp [h]
  · simp [h]
theorem normW_self {q : TQuery} (h : rightP q = true) : normW q q.within = normQ q := by
  unfold normW
  rw [normQ_right h]
theorem class_self {a : TQuery} (ha : rightP a = true) : classS a a = 1 := by
  unfold classS
  rw [if_pos ⟨ha, ha⟩, normW_self ha, if_pos rfl, if_pos rfl]
end Go.Proofs.YtmfhanoibbmnlaaGreatDoor.Tz

namespace Go.Proofs.YtmfhanoibbmnlaaGreatDoor.Tz
open Go.Aug Go.Aug.Api
set_option maxRecDepth 100000
end Go.Proofs.YtmfhanoibbmnlaaGreatDoor.Tz

namespace Go.Aug.Api
open Go.Aug
end Go.Aug.Api
namespace Go.Proofs.YtmfhanoibbmnlaaGreatDoor.Tz
open Go.Aug Go.Aug.Api
set_option maxRecDepth 100000
end Go.Proofs.YtmfhanoibbmnlaaGreatDoor.Tz

namespace Go.Proofs.YtmfhanoibbmnlaaGreatDoor.Tz
open Go.Aug Go.Aug.Api
set_option maxRecDepth 100000
theorem ContainsFunc_Item_run {α : Type} {c : α → List D} (hc : ∀ x, (c x).length = 4) (p : α → Bool) (rep : Option (Option Nat)) (l : List α) (hl : l.length ≤ big) (g : FuncId) (first caps : List D) (H : Heap)
    (hp : ∀ x, Run tab (.fn g) (first ++ .agg (c x) :: caps) (low0 (low0 H)) (bD (p x)) (low0 (low0 H))) :
    Run tab (.fn n_q87) [slD rep l.length (l.flatMap c), .fn (.func g) first caps] H (bD (l.any p)) H := by
  refine cK.run (cK_fn o_q87 t_q87 (Nat.le_of_ble_eq_true rfl) (by decide) ?_)
  have hI := (IndexFunc_Item_run hc p rep l hl g first caps (low0 H) hp).cK
  simp [-List.any_eq_true, hI]
  rcases idx_cases p l with ⟨h1, h2, -⟩ | ⟨pre, x, suf, h1, -, h3, h4, -⟩
  · have : l.any p = false := by rw [List.any_eq_false]; intro x hx; simp [h2 x hx]
    rw [h1, this]
    rfl
  · have : l.any p = true := by rw [List.any_eq_true]; exact ⟨x, by rw [h1]; simp, h3⟩
    rw [h4, this]
    simp
theorem diff_plain_1_run (x : TItem) (H : Heap) : Run tab (.fn n_q67) [.agg (itemC x)] H (bD x.not) H := by
  refine cK.run (cK_fn o_q67 t_q67 (Nat.le_of_ble_eq_true rfl) (by decide) ?_)
  simp [itemC]
theorem diff_plain_run (q : TQuery) (H : Heap) : Run tab (.fn n_q66) [.agg (queryC q)] H (bD (plainQ q)) H := by
  refine cK.run (cK_fn o_q66 t_q66 (Nat.le_of_ble_eq_true rfl) (by decide) ?_)
  have hC := fun H => (ContainsFunc_Item_run itemC_len (fun x : TItem => x.not) q.items.rep q.items.l q.items.ok n_q67 [] [] H fun x => diff_plain_1_run x _).cK
  unfold plainQ
  by_cases c : q.pick = 1
  · simp [-List.any_eq_true, queryC, Sl.enc, c, hC]
  · simp [-List.any_eq_true, queryC, Sl.enc, c]
def lawFnsD : List Nat := [n_q111, n_q66]
noncomputable def orcsD (f : Nat) : Option (List D → Heap → Option (D × Heap)) := cond (Nat.beq f n_q76) (some (pureOrc2 (runSpec tabN n_q76))) (cond (Nat.beq f n_q108) (some (orcPrintBy (runSpec tab))) (cond (isLaw f lawFnsD) (some (pureOrc2 (runSpec tab f))) (orcs f)))
noncomputable def tabD : Tab := ⟨findF rows, frozen, orcsD⟩
theorem orcsD_ok (f : Nat) (g : List D → Heap → Option (D × Heap)) (h : orcsD f = some g) : OrcOk Tryz.prog f g := by
  unfold orcsD at h
  cases hk : Nat.beq f n_q76 with
  | true =>
    rw [hk] at h
    simp only [cond_true, Option.some.injEq] at h
    rw [← h, Nat.eq_of_beq_eq_true hk]
    exact runSpec_orc tabN_ok _
  | false =>
    rw [hk] at h
    simp only [cond_false] at h
    cases hk : Nat.beq f n_q108 with
    | true =>
      rw [hk] at h
      simp only [cond_true, Option.some.injEq] at h
      rw [← h, Nat.eq_of_beq_eq_true hk]
      exact printG
    | false =>
      rw [hk] at h
      simp only [cond_false] at h
      cases hk : isLaw f lawFnsD with
      | true =>
        rw [hk] at h
        simp only [cond_true, Option.some.injEq] at h
        rw [← h]
        exact runSpec_orc tab_ok _
      | false => rw [hk] at h; exact orcs_ok f g h
theorem tabD_ok : TabOk Tryz.prog tabD := tab_ok' _ _ orcsD_ok
theorem tLD {f : Nat} {fi : FI} (h : tab.fn f = some fi) : tabD.fn f = some fi := h
theorem oD_Norm : tabD.orc n_q76 = some (pureOrc2 (runSpec tabN n_q76)) := by kernel_rfl
theorem oD_Print : tabD.orc n_q108 = some (orcPrintBy (runSpec tab)) := by kernel_rfl
theorem oD_Right : tabD.orc n_q111 = some (pureOrc2 (runSpec tab n_q111)) := by kernel_rfl
theorem oD_plain : tabD.orc n_q66 = some (pureOrc2 (runSpec tab n_q66)) := by kernel_rfl
theorem oD_Class : tabD.orc n_q58 = none := by kernel_rfl
theorem runD {T : Tab} {f : FuncId} {args : List D} {d : D} (ho : tabD.orc f = some (pureOrc2 (runSpec T f))) (hu : D.under.underAll 0 args = true) (hd : Run T (.fn f) args H0 d H0) (H : Heap) : Run tabD (.fn f) args H d H := cK.run (cK_pure ho hu hd ⟨rfl, rfl⟩)
set_option maxHeartbeats 1000000 in
theorem diff_Class_run (a b : TQuery) (H : Heap) : Run tabD (.fn n_q58) [.agg (queryC a), .agg (queryC b)] H (i64D (classS a b)) H := by
  refine cK.run (cK_fn oD_Class (tLD t_q58) (Nat.le_of_ble_eq_true rfl) (by decide) ?_)
  have hq5 : ∀ q : TQuery, (queryC q).take 5 = queryC q := fun q => List.take_of_length_le (by rw [queryC_len]; exact Nat.le_refl _)
  have hR0 : ∀ (q : TQuery) H, Run tabD (.fn n_q111) [.agg (queryC q)] H (bD (rightP q)) H := fun q H => runD oD_Right (by simp) (tree_Right_run q H0) H
  have hR := fun q H => (hR0 q H).cK
  have hN0 : ∀ (q : TQuery) H, Run tabD (.fn n_q76) [.agg (queryC q)] H (.agg (queryC (normQ q))) H := fun q H => runD oD_Norm (by simp) (norm_Norm_run q H0) H
  have hN := fun q H => (hN0 q H).cK
  have hP0 : ∀ (q : TQuery) H, Run tabD (.fn n_q66) [.agg (queryC q)] H (bD (plainQ q)) H := fun q H => runD oD_plain (by simp) (diff_plain_run q H0) H
  have hP := fun q H => (hP0 q H).cK
  cases ha : rightP a with
  | false =>
    have hc : classS a b = 0 := if_neg (by rw [ha]; simp)
    simp [hq5, hR, ha, hc]
  | true =>
  cases hb : rightP b with
  | false =>
    have hc : classS a b = 0 := if_neg (by rw [hb]; simp)
    simp [hq5, hR, ha, hb, hc]
  | true =>
  obtain ⟨-, -, -, -, -, wb, wb', -⟩ := right_parts hb
  have hA := fun H R => cK_printG oD_Print (normW_right ha wb wb') H R
  have hB := fun H R => cK_printG oD_Print (q := normQ b) (by rw [← normW_self hb]; exact normW_right hb wb wb') H R
  have hc : classS a b = if textR (normW a b.within) = textR (normQ b) then (if a.within = b.within then 1 else if plainQ a = true then (if b.within < a.within then 2 else 3) else 4) else 4 := if_pos ⟨ha, hb⟩
  have h2 : ∀ (q : TQuery), (queryC q)[2]? = some (i64D q.within) := fun _ => rfl
  have h2' : ∀ (q : TQuery) (h : 2 < (queryC q).length), (queryC q)[2] = i64D q.within := fun _ _ => rfl
  have hset : (queryC (normQ a)).set 2 (i64D b.within) = queryC (normW a b.within) := rfl
  have hfull : ∀ (z : List D) (q : TQuery), z.length = 5 → setAll z 0 (queryC q) = queryC q := fun z q h => setAll_full z _ (by rw [h]; rfl)
  rw [hc]
  by_cases e : textR (normW a b.within) = textR (normQ b)
  · rw [if_pos e]
    by_cases w : a.within = b.within
    · rw [if_pos w]
      simp [hq5, hR, ha, hb, hN, hfull, h2, h2', hset, hA, hB, e, w]
    · rw [if_neg w]
      cases hp : plainQ a with
      | false => simp [hq5, hR, ha, hb, hN, hfull, h2, h2', hset, hA, hB, e, w, hP, hp]
      | true =>
        by_cases l : b.within < a.within
        · simp [hq5, hR, ha, hb, hN, hfull, h2, h2', hset, hA, hB, e, w, hP, hp, l]
        · simp [hq5, hR, ha, hb, hN, hfull, h2, h2', hset, hA, hB, e, w, hP, hp, l]
  · rw [if_neg e]
    simp [hq5, hR, ha, hb, hN, hfull, h2, h2', hset, hA, hB, e]
end Go.Proofs.YtmfhanoibbmnlaaGreatDoor.Tz

namespace Go.Aug.Api
open Go.Aug
structure TMatch where
  done : Int
  bound : Sl (Sl TEvent)
def matchC (m : TMatch) : List D := [i64D m.done, m.bound.enc rowC]
theorem matchC_len (m : TMatch) : (matchC m).length = 2 := rfl
theorem matchC_pure (m : TMatch) : pureL (matchC m) := by simp [pureL, matchC, under_cons, under_nil, under_v]
@[simp] theorem fl_match (l : List TMatch) : D.under.underAll 0 (l.flatMap matchC) = true := under_flatMap 0 _ matchC_pure l
def firstM (b : List (Sl TEvent)) : Int := match b with
  | [] => 0
  | r :: _ => match r.l with
    | [] => 0
    | e :: _ => e.ts
def noneM (b : List (Sl TEvent)) : Bool := match b with
  | [] => true
  | r :: _ => r.l.isEmpty
def delM (w : Int) (m : TMatch) : Bool := noneM m.bound.l || decide (firstM m.bound.l < 0) || decide (m.done < 0) || decide (firstM m.bound.l < IntKind.i64.wrap (m.done - w))
def takenS (c w : Int) (l : List TMatch) : List TMatch × Bool := if c = 1 then (l, true) else if c = 2 then (l.filter fun m => !delM w m, true) else ([], false)
def sameL {α : Type} (R : α → α → Bool) : List α → List α → Bool
  | [], [] => true
  | a :: l, b :: m => R a b && sameL R l m
  | _, _ => false
theorem sameL_refl {α : Type} {R : α → α → Bool} (h : ∀ x, R x x = true) : ∀ l : List α, sameL R l l = true
  | [] => rfl
  | a :: l => by simp [sameL, h a, sameL_refl h l]
theorem sameL_length {α : Type} {R : α → α → Bool} : ∀ {a b : List α}, a.length ≠ b.length → sameL R a b = false
  | [], [], h => absurd rfl h
  | [], _ :: _, _ => rfl
  | _ :: _, [], _ => rfl
  | a :: l, b :: m, h => by simp [sameL, sameL_length (R := R) (a := l) (b := m) (by simpa using h)]
theorem sameL_append {α : Type} {R : α → α → Bool} : ∀ {pa pb : List α} (sa sb : List α), pa.length = pb.length → sameL R (pa ++ sa) (pb ++ sb) = (sameL R pa pb && sameL R sa sb)
  | [], [], _, _, _ => by simp [sameL]
  | [], _ :: _, _, _, h => by simp at h
  | _ :: _, [], _, _, h => by simp at h
  | a :: pa, b :: pb, sa, sb, h => by
    simp only [List.cons_append, sameL, sameL_append sa sb (by simpa using h : pa.length = pb.length), Bool.and_assoc]
def sameEv (a b : TEvent) : Bool := decide (a.ts = b.ts) && decide (a.depth = b.depth) && decide (a.seq = b.seq) && decide (a.name = b.name) && sameL (fun x y : TVal => decide (x = y)) a.vals.l b.vals.l
def sameRow (a b : Sl TEvent) : Bool := sameL sameEv a.l b.l
def sameM (a b : TMatch) : Bool := decide (a.done = b.done) && sameL sameRow a.bound.l b.bound.l
theorem sameEv_refl (a : TEvent) : sameEv a a = true := by simp [sameEv, sameL_refl]
theorem sameRow_refl (a : Sl TEvent) : sameRow a a = true := sameL_refl sameEv_refl _
theorem sameM_refl (m : TMatch) : sameM m m = true := by simp [sameM, sameL_refl sameRow_refl]
end Go.Aug.Api
