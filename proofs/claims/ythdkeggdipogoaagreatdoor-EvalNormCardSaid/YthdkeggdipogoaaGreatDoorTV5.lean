/-
EvalTurned in plain terms: comparisons turned about, and their opposites. Conditions: none.
-/
import Derived.Test.YthdkeggdipogoaaGreatDoorGS
import Derived.Test.YthdkeggdipogoaaGreatDoorTSf
import Derived.Test.YthdkeggdipogoaaGreatDoorTW6
import Derived.Test.YthdkeggdipogoaaGreatDoorTW7
import Derived.Test.YthdkeggdipogoaaGreatDoorGU
namespace Go.Aug.Api
open Go.Aug
def turnI (op : Int) : Int := if op = 1 then 1 else if op = 2 then 2 else if op = 3 then 5 else if op = 4 then 6 else if op = 5 then 3 else 4
theorem six {op : Int} (h1 : 1 ≤ op) (h6 : op ≤ 6) : op = 1 ∨ op = 2 ∨ op = 3 ∨ op = 4 ∨ op = 5 ∨ op = 6 := by omega
theorem cmpI_turn (a b : Int) : cmpI b a = - cmpI a b := by unfold cmpI; grind
theorem cmpV_turn (a b : TVal) (h : a.kind = b.kind) : cmpV b a = - cmpV a b := by
  unfold cmpV
  rw [h]
  split
  · exact cmp_turn _ _
  · exact cmpI_turn _ _
theorem sign_turn {op : Int} (h1 : 1 ≤ op) (h6 : op ≤ 6) (c : Int) : signOf (turnI op) (-c) = signOf op c := by
  rcases six h1 h6 with rfl | rfl | rfl | rfl | rfl | rfl <;> simp [turnI, signOf]
theorem compare_turn {op : Int} (h1 : 1 ≤ op) (h6 : op ≤ 6) (a b : TVal) : compareV (turnI op) b a = compareV op a b := by
  have t1 : ¬ turnI op < 1 := by unfold turnI; grind
  have t6 : ¬ 6 < turnI op := by unfold turnI; grind
  have t2 : 2 < turnI op ↔ 2 < op := by unfold turnI; grind
  unfold compareV
  cases ha : rightV a
  · simp
  cases hb : rightV b
  · simp
  have hA : ¬ (true = false ∨ true = false ∨ turnI op < 1 ∨ 6 < turnI op) := by simp only [Bool.true_eq_false, false_or]; omega
  have hB : ¬ (true = false ∨ true = false ∨ op < 1 ∨ 6 < op) := by simp only [Bool.true_eq_false, false_or]; omega
  rw [if_neg hA, if_neg hB]
  by_cases hk : a.kind = b.kind
  · have hC : ¬ (b.kind ≠ a.kind) := fun h => h hk.symm
    have hD : ¬ (a.kind ≠ b.kind) := fun h => h hk
    rw [if_neg hC, if_neg hD, cmpV_turn a b hk, sign_turn h1 h6]
    simp only [hk, t2]
  · have hC : b.kind ≠ a.kind := fun h => hk h.symm
    rw [if_pos hC, if_pos hk]
theorem holds_turn {op : Int} (h1 : 1 ≤ op) (h6 : op ≤ 6) (s : TScope) (L R : TExpr) : holdsS s (turnI op) R L = holdsS s op L R := by
  unfold holdsS
  rw [compare_turn h1 h6]
  by_cases c1 : (valueS s L).2 = 12 <;> by_cases c2 : (valueS s R).2 = 12 <;> simp [c1, c2]
  by_cases c3 : (valueS s L).2 = 0 <;> by_cases c4 : (valueS s R).2 = 0 <;> simp [c3, c4]
end Go.Aug.Api

namespace Go.Aug.Api
open Go.Aug
theorem value_valE (s : TScope) (v : TVal) (h : rightV v = true) : valueS s (valE v) = (v, 0) := by
  unfold valE valueS leafS
  simp [h]
theorem reck_right {k : Int} {a b : TVal} (h : (reckV k a b).2 = 0) : rightV a = true ∧ rightV b = true := by
  have key : ∀ a b : TVal, bothV a b ≠ 0 → (zVal, bothV a b).2 ≠ 0 := fun _ _ h => h
  unfold reckV at h
  by_cases hb : bothV a b = 0
  · have := both_zero hb
    exact ⟨this.1, this.2.1⟩
  · exfalso
    split at h
    · unfold subV at h
      rw [if_neg hb] at h
      exact hb h
    · unfold addV at h
      rw [if_neg hb] at h
      exact hb h
theorem kind_val {x : TExpr} (s : TScope) (h : x.kind = 1) (hr : rightV x.val = true) : valueS s x = (x.val, 0) := by
  obtain ⟨k, v, var, f, rep, kids⟩ := x
  simp only [TExpr.kind] at h
  simp only [TExpr.val] at hr ⊢
  subst h
  unfold valueS leafS
  simp [hr]
theorem fold_value (s : TScope) : ∀ x : TExpr, valueS s (foldX x) = valueS s x
  | .mk k v var f rep kids => by
    have ih : ∀ x ∈ kids, valueS s (foldX x) = valueS s x := fun x _ => fold_value s x
    by_cases k7 : k = 7 ∨ k = 8
    · by_cases h2 : kids.length = 2
      · obtain ⟨a, b, rfl⟩ : ∃ a b, kids = [a, b] := by
          match kids, h2 with
          | [a, b], _ => exact ⟨a, b, rfl⟩
        have ha := ih a (by simp)
        have hb := ih b (by simp)
        rw [foldX_two k7]
        unfold foldedTwo
        by_cases hf : (foldX a).kind = 1 ∧ (foldX b).kind = 1 ∧ (reckV k (foldX a).val (foldX b).val).2 = 0
        · rw [if_pos hf]
          obtain ⟨r1, r2⟩ := reck_right hf.2.2
          have va := kind_val s hf.1 r1
          have vb := kind_val s hf.2.1 r2
          rw [value_valE s _ (rightV_reck hf.2.2)]
          have e : reckV k (foldX a).val (foldX b).val = ((reckV k (foldX a).val (foldX b).val).1, 0) := Prod.ext rfl hf.2.2
          rw [ha] at va
          rw [hb] at vb
          rcases k7 with rfl | rfl
          · have hvs : valueS s (.mk 7 v var f rep [a, b]) = twoKids s addV [a, b] := by
              unfold valueS
              rw [if_pos rfl]
            rw [hvs]
            simp only [twoKids, twoS, va, vb]
            simpa [reckV] using e.symm
          · have hvs : valueS s (.mk 8 v var f rep [a, b]) = twoKids s subV [a, b] := by
              unfold valueS
              rw [if_neg (by decide), if_pos rfl]
            rw [hvs]
            simp only [twoKids, twoS, va, vb]
            simpa [reckV] using e.symm
        · rw [if_neg hf]
          unfold valueS
          simp only [twoKids, ha, hb]
      · rw [foldX_not h2]
    · rw [foldX_other k7]
theorem fold_each : ∀ x : TExpr, eachV (foldX x) = eachV x
  | .mk k v var f rep kids => by
    have ih : ∀ x ∈ kids, eachV (foldX x) = eachV x := fun x _ => fold_each x
    by_cases k7 : k = 7 ∨ k = 8
    · by_cases h2 : kids.length = 2
      · obtain ⟨a, b, rfl⟩ : ∃ a b, kids = [a, b] := by
          match kids, h2 with
          | [a, b], _ => exact ⟨a, b, rfl⟩
        have ha := ih a (by simp)
        have hb := ih b (by simp)
        rw [foldX_two k7]
        have k26 : ¬ (2 ≤ k ∧ k ≤ 6) := by omega
        have one : ∀ x : TExpr, x.kind = 1 → eachV x = [] := fun x hx => by
          obtain ⟨k, v, var, f, rep, kids⟩ := x
          simp only [TExpr.kind] at hx
          subst hx
          simp [eachV]
        unfold foldedTwo
        split
        · rename_i hf
          have h1 := one _ hf.1
          have h2 := one _ hf.2.1
          rw [ha] at h1
          rw [hb] at h2
          rw [one (valE _) rfl]
          simp [eachV, k26, k7, eachVs, h1, h2]
        · simp [eachV, k26, k7, eachVs, ha, hb]
      · rw [foldX_not h2]
    · rw [foldX_other k7]
mutual
theorem same_value (s : TScope) : ∀ x y : TExpr, sameX x y = true → valueS s x = valueS s y
  | .mk k v var f rep kids, .mk k' v' var' f' rep' kids', h => by
    simp only [sameX, Bool.and_eq_true, decide_eq_true_eq] at h
    obtain ⟨⟨⟨⟨⟨rfl, rfl⟩, rfl⟩, rfl⟩, hl⟩, hk⟩ := h
    have h1 := same_kids s addV kids kids' hl hk
    have h2 := same_kids s subV kids kids' hl hk
    simp only [valueS, h1, h2]
theorem same_kids (s : TScope) (of : TVal → TVal → VE) : ∀ l m : List TExpr, l.length = m.length → sameXs l m = true → twoKids s of l = twoKids s of m
  | [a, b], [a', b'], _, h => by
    simp only [sameXs, Bool.and_eq_true] at h
    simp only [twoKids, same_value s a a' h.1, same_value s b b' h.2.1]
  | [], [], _, _ => rfl
  | [_], [_], _, _ => rfl
  | _ :: _ :: _ :: _, _ :: _ :: _ :: _, _, _ => rfl
  | [], _ :: _, h, _ => by simp at h
  | _ :: _, [], h, _ => by simp at h
  | [_], _ :: _ :: _, h, _ => by simp at h
  | _ :: _ :: _, [_], h, _ => by simp at h
  | [_, _], _ :: _ :: _ :: _, h, _ => by simp at h
  | _ :: _ :: _ :: _, [_, _], h, _ => by simp at h
end
abbrev holdsP (s : TScope) (p : TPred) : Bool := holdsS s p.cmp p.L p.R
theorem holds_value (s : TScope) (op : Int) (L R L' R' : TExpr) (h1 : valueS s L = valueS s L') (h2 : valueS s R = valueS s R') : holdsS s op L R = holdsS s op L' R' := by
  unfold holdsS
  rw [h1, h2]
theorem same_holds (s : TScope) {a b : TPred} (h : sameP a b = true) : holdsP s a = holdsP s b := by
  simp only [sameP, Bool.and_eq_true, decide_eq_true_eq] at h
  show holdsS s a.cmp a.L a.R = _
  rw [h.1.1]
  exact holds_value s _ _ _ _ _ (same_value s _ _ h.1.2) (same_value s _ _ h.2)
theorem norm_holds (s : TScope) {p : TPred} (h1 : 1 ≤ p.cmp) (h6 : p.cmp ≤ 6) : holdsP s (normP p) = holdsP s p := by
  unfold normP
  by_cases h5 : 5 ≤ p.cmp
  · rw [if_pos h5]
    show holdsS s (p.cmp - 2) (foldX p.R) (foldX p.L) = holdsS s p.cmp p.L p.R
    rw [holds_value s _ _ _ _ _ (fold_value s p.R) (fold_value s p.L)]
    have := holds_turn h1 h6 s p.L p.R
    have e : turnI p.cmp = p.cmp - 2 := by unfold turnI; grind
    rw [e] at this
    exact this
  · rw [if_neg h5]
    exact holds_value s _ _ _ _ _ (fold_value s p.L) (fold_value s p.R)
theorem maxI_ub : ∀ (l : List Int), ∀ x ∈ l, x ≤ maxI l
  | [], x, h => by simp at h
  | a :: l, x, h => by
    have : ∀ (l : List Int) (a : Int), a ≤ l.foldl (fun m x => if m < x then x else m) a ∧ ∀ x ∈ l, x ≤ l.foldl (fun m x => if m < x then x else m) a := by
      intro l
      induction l with
      | nil => intro a; simp
      | cons y l ih =>
        intro a
        obtain ⟨h1, h2⟩ := ih (if a < y then y else a)
        have g1 : a ≤ (if a < y then y else a) := by split <;> omega
        have g2 : y ≤ (if a < y then y else a) := by split <;> omega
        simp only [List.foldl_cons]
        refine ⟨Int.le_trans g1 h1, fun x hx => ?_⟩
        rcases List.mem_cons.1 hx with rfl | hx
        · exact Int.le_trans g2 h1
        · exact h2 x hx
    obtain ⟨h1, h2⟩ := this l a
    rcases List.mem_cons.1 h with rfl | h
    · exact h1
    · exact h2 x h
theorem place_norm (q : List TItem) (p : TPred) : placeN q (normP p) = placeN q p := by
  have hv : ∀ x : TExpr, varsS q [foldX x] = varsS q [x] := fun x => by
    unfold varsS
    simp only [eachVs, fold_each]
  unfold normP
  split
  · unfold placeN
    simp only [hv]
    have h1 := maxI_mem (varsS q [p.R] ++ varsS q [p.L] ++ [0]) (by simp)
    have h2 := maxI_mem (varsS q [p.L] ++ varsS q [p.R] ++ [0]) (by simp)
    have h3 := maxI_ub (varsS q [p.L] ++ varsS q [p.R] ++ [0]) _ (by
      rcases List.mem_append.1 h1 with h | h
      · rcases List.mem_append.1 h with h | h
        · exact List.mem_append_left _ (List.mem_append_right _ h)
        · exact List.mem_append_left _ (List.mem_append_left _ h)
      · exact List.mem_append_right _ h)
    have h4 := maxI_ub (varsS q [p.R] ++ varsS q [p.L] ++ [0]) _ (by
      rcases List.mem_append.1 h2 with h | h
      · rcases List.mem_append.1 h with h | h
        · exact List.mem_append_left _ (List.mem_append_right _ h)
        · exact List.mem_append_left _ (List.mem_append_left _ h)
      · exact List.mem_append_right _ h)
    omega
  · unfold placeN
    simp only [hv]
def allS (s : TScope) (q : List TItem) (ps : List TPred) (i : Int) : Bool := ps.all fun p => !(decide (placeN q p = i) && !holdsP s p)
theorem norm_all (s : TScope) {q : List TItem} {tx : TPred → ByteArray} {ps : List TPred} (hx : ∀ p ∈ ps, predX p = true) (htx : ∀ a b, predX a = true → predX b = true → tx a = tx b → sameP a b = true) (i : Int) : allS s q (normL q tx ps) i = allS s q ps i := by
  have h16 : ∀ p ∈ ps, 1 ≤ p.cmp ∧ p.cmp ≤ 6 := fun p hp => by
    have := hx p hp
    unfold predX at this
    simp only [Bool.and_eq_true, decide_eq_true_eq] at this
    exact this.1.1
  rw [Bool.eq_iff_iff]
  unfold allS
  rw [List.all_eq_true, List.all_eq_true]
  constructor
  · intro h p hp
    obtain ⟨k, h1, h2⟩ := onceN_has (List.mem_map.2 ⟨p, hp, rfl⟩ : keyN q tx p ∈ ps.map (keyN q tx))
    have hk : k.pred ∈ normL q tx ps := List.mem_map.2 ⟨k, (sortN_perm _).mem_iff.2 h1, rfl⟩
    obtain ⟨p', hp', e⟩ := List.mem_map.1 (onceN_mem h1)
    subst e
    have hs : sameP (normP p') (normP p) = true := htx _ _ (predX_norm (hx p' hp')).1 (predX_norm (hx p hp)).1 h2
    have := h _ hk
    have e1 : placeN q (keyN q tx p').pred = placeN q p := (same_place q hs).trans (place_norm q p)
    have e2 : holdsP s (keyN q tx p').pred = holdsP s p := (same_holds s hs).trans (norm_holds s (h16 p hp).1 (h16 p hp).2)
    rw [e1, e2] at this
    exact this
  · intro h x hxn
    obtain ⟨p, hp, rfl⟩ := normL_mem hxn
    have := h p hp
    rw [place_norm, norm_holds s (h16 p hp).1 (h16 p hp).2]
    exact this
end Go.Aug.Api

namespace Go.Proofs.YthdkeggdipogoaaGreatDoor.Tz
open Go.Aug Go.Aug.Api
set_option maxRecDepth 100000
def lawFnsB : List Nat := [n_norm_Fold, n_norm_Place, n_augurylaw08_Great, n_augurylaw05_GreatSchemas, n_augurylaw11_GreatBound, n_auguryref08_Right, n_eval_Holds, n_eval_Value]
noncomputable def orcsB (f : Nat) : Option (List D → Heap → Option (D × Heap)) := cond (Nat.beq f n_norm_Norm) (some (pureOrc2 (runSpec tabN n_norm_Norm))) (cond (isLaw f lawFnsB) (some (pureOrc2 (runSpec tab f))) (orcs f))
noncomputable def tabB : Tab := ⟨findF rows, frozen, orcsB⟩
theorem orcsB_ok (f : Nat) (g : List D → Heap → Option (D × Heap)) (h : orcsB f = some g) : OrcOk Tryz.prog f g := by
  unfold orcsB at h
  cases hk : Nat.beq f n_norm_Norm with
  | true =>
    rw [hk] at h
    simp only [cond_true, Option.some.injEq] at h
    rw [← h, Nat.eq_of_beq_eq_true hk]
    exact runSpec_orc tabN_ok _
  | false =>
    rw [hk] at h
    simp only [cond_false] at h
    cases hk : isLaw f lawFnsB with
    | true =>
      rw [hk] at h
      simp only [cond_true, Option.some.injEq] at h
      rw [← h]
      exact runSpec_orc tab_ok _
    | false => rw [hk] at h; exact orcs_ok f g h
theorem tabB_ok : TabOk Tryz.prog tabB := tab_ok' _ _ orcsB_ok
theorem tLB {f : Nat} {fi : FI} (h : tab.fn f = some fi) : tabB.fn f = some fi := h
theorem oB_Norm : tabB.orc n_norm_Norm = some (pureOrc2 (runSpec tabN n_norm_Norm)) := by kernel_rfl
theorem oB_Fold : tabB.orc n_norm_Fold = some (pureOrc2 (runSpec tab n_norm_Fold)) := by kernel_rfl
theorem oB_Place : tabB.orc n_norm_Place = some (pureOrc2 (runSpec tab n_norm_Place)) := by kernel_rfl
theorem oB_Great : tabB.orc n_augurylaw08_Great = some (pureOrc2 (runSpec tab n_augurylaw08_Great)) := by kernel_rfl
theorem oB_GreatS : tabB.orc n_augurylaw05_GreatSchemas = some (pureOrc2 (runSpec tab n_augurylaw05_GreatSchemas)) := by kernel_rfl
theorem oB_GreatB : tabB.orc n_augurylaw11_GreatBound = some (pureOrc2 (runSpec tab n_augurylaw11_GreatBound)) := by kernel_rfl
theorem oB_Right : tabB.orc n_auguryref08_Right = some (pureOrc2 (runSpec tab n_auguryref08_Right)) := by kernel_rfl
theorem oB_Holds : tabB.orc n_eval_Holds = some (pureOrc2 (runSpec tab n_eval_Holds)) := by kernel_rfl
theorem oB_Value : tabB.orc n_eval_Value = some (pureOrc2 (runSpec tab n_eval_Value)) := by kernel_rfl
theorem oB_head11 : tabB.orc n_augurylaw11_head = some orcHead := by kernel_rfl
theorem oB_EvalNorm : tabB.orc n_augurylaw11_EvalNorm = none := by kernel_rfl
theorem oB_All : tabB.orc n_eval_All = none := by kernel_rfl
theorem oB_All_1 : tabB.orc n_eval_All_1 = none := by kernel_rfl
theorem oB_Contains : tabB.orc n_slices_ContainsFunc_Pred = none := by kernel_rfl
theorem oB_Index : tabB.orc n_slices_IndexFunc_Pred = none := by kernel_rfl
theorem runB {T : Tab} {f : FuncId} {args : List D} {d : D} (ho : tabB.orc f = some (pureOrc2 (runSpec T f))) (hu : D.under.underAll 0 args = true) (hd : Run T (.fn f) args H0 d H0) (H : Heap) : Run tabB (.fn f) args H d H := cK.run (cK_pure ho hu hd ⟨rfl, rfl⟩)
theorem head11B_run (H : Heap) : Run tabB (.fn n_augurylaw11_head) [] H (bD true) H :=
  cK.run (cK_orc oB_head11 ⟨_, rfl, rfl, rfl⟩)
theorem rightE_X : ∀ (x : TExpr) (n : Nat), rightE n x = true → rightX n x = true
  | .mk k v var f rep kids, n, h => by
    have ih : ∀ x ∈ kids, ∀ n : Nat, rightE n x = true → rightX n x = true := fun x _ n h => rightE_X x n h
    unfold rightE at h
    by_cases b1 : (n : Int) < 1 ∨ (¬ (k = 7 ∨ k = 8) ∧ kids ≠ []) ∨ (k ≠ 1 ∧ v ≠ zVal)
    · rw [if_pos b1] at h; cases h
    rw [if_neg b1] at h
    have n1 : ¬ (n : Int) < 1 := fun h => b1 (.inl h)
    have n2 : ¬ (k = 7 ∨ k = 8) → kids = [] := fun h1 => by
      by_cases hk : kids = []
      · exact hk
      · exact absurd (.inr (.inl ⟨h1, hk⟩)) b1
    have n3 : k ≠ 1 → v = zVal := fun h1 => by
      by_cases hv : v = zVal
      · exact hv
      · exact absurd (.inr (.inr ⟨h1, hv⟩)) b1
    have m0 : ¬ (n : Int) = 0 := by omega
    unfold rightX
    rw [if_neg m0]
    by_cases k26 : k = 2 ∨ k = 4 ∨ k = 5 ∨ k = 6
    · rw [if_pos k26] at h
      rw [if_neg (by omega), if_neg (by omega), if_pos (by omega)]
      simp only [Bool.and_eq_true] at h
      simp [n3 (by omega), n2 (by omega), h.1, h.2]
    · rw [if_neg k26] at h
      by_cases k3 : k = 3
      · rw [if_pos k3] at h
        rw [if_neg (by omega), if_pos k3]
        simp only [Bool.and_eq_true, decide_eq_true_eq] at h
        simp [n3 (by omega), n2 (by omega), h.1, h.2]
      · rw [if_neg k3] at h
        by_cases b2 : var ≠ emptyS ∨ f ≠ emptyS
        · rw [if_pos b2] at h; cases h
        rw [if_neg b2] at h
        have v1 : var = emptyS := by
          by_cases e : var = emptyS
          · exact e
          · exact absurd (.inl e) b2
        have v2 : f = emptyS := by
          by_cases e : f = emptyS
          · exact e
          · exact absurd (.inr e) b2
        by_cases k7 : k = 7 ∨ k = 8
        · rw [if_pos k7] at h
          have k1 : ¬ k = 1 := by omega
          have k26' : ¬ (2 ≤ k ∧ k ≤ 6) := by omega
          rw [if_neg k1, if_neg k3, if_neg k26', if_pos k7]
          obtain ⟨m, rfl⟩ : ∃ m, n = m + 1 := ⟨n - 1, by omega⟩
          have hm : ((m + 1 : Nat) : Int) - 1 = (m : Nat) := by omega
          rw [hm] at h ⊢
          match kids, ih, h with
          | [a, b], ih, h =>
            simp only [rightTwo, Bool.and_eq_true] at h
            simp [rightTwoX, v1, v2, n3 k1, ih a (by simp) m h.1, ih b (by simp) m h.2]
          | [], _, h => cases h
          | [_], _, h => cases h
          | _ :: _ :: _ :: _, _, h => cases h
        · rw [if_neg k7] at h
          simp only [Bool.and_eq_true, decide_eq_true_eq] at h
          rw [if_pos h.2.1]
          simp [v1, v2, n2 k7, h.1, h.2.2]
theorem rightQ_P {q : TQuery} (h : rightQ q = true) : rightP q = true := by
  unfold rightQ at h
  split at h
  · cases h
  rename_i hl
  simp only [Bool.and_eq_true, decide_eq_true_eq] at h
  obtain ⟨⟨h1, h2⟩, ⟨⟨⟨h3, h4⟩, h5⟩, h6⟩, h7⟩ := h
  have hp : q.preds.l.all predX = true := by
    refine List.all_eq_true.2 fun p hp => ?_
    have := List.all_eq_true.1 h2 p hp
    unfold predOk at this
    simp only [Bool.and_eq_true, decide_eq_true_eq] at this
    unfold predX
    simp only [Bool.and_eq_true, decide_eq_true_eq]
    exact ⟨⟨this.1.1, rightE_X p.L 6 this.1.2⟩, rightE_X p.R 6 this.2⟩
  unfold rightP
  rw [h1, hp, h5]
  have e1 : decide (q.items.l.length = 0) = false := by rw [decide_eq_false_iff_not]; omega
  have e2 : decide (6 < q.items.l.length) = false := by rw [decide_eq_false_iff_not]; omega
  have e3 : decide (8 < q.preds.l.length) = false := by rw [decide_eq_false_iff_not]; omega
  have e4 : decide (q.within < 0) = false := by rw [decide_eq_false_iff_not]; omega
  have e5 : decide (maxNum < q.within) = false := by rw [decide_eq_false_iff_not]; omega
  have e6 : decide (q.pick < 1) = false := by rw [decide_eq_false_iff_not]; omega
  have e7 : decide (3 < q.pick) = false := by rw [decide_eq_false_iff_not]; omega
  rw [e1, e2, e3, e4, e5, e6, e7]
  rfl
theorem foldS_q (s s' : TScope) (h : ∀ e n, fieldE s' e n = fieldE s e n) (kind : Int) (name : ByteArray) : ∀ (l : List TEvent) (out : TVal), foldS s' kind name l out = foldS s kind name l out
  | [], out => rfl
  | e :: l, out => by
    have hn : numE s' e name = numE s e name := by unfold numE; rw [h]
    unfold foldS
    rw [hn, foldS_q s s' h kind name l]
theorem valueS_q (s s' : TScope) (h1 : ∀ v, rowS s' v = rowS s v) (h2 : ∀ e n, fieldE s' e n = fieldE s e n) : ∀ x : TExpr, valueS s' x = valueS s x
  | .mk k v var f rep kids => by
    have ih : ∀ x ∈ kids, valueS s' x = valueS s x := fun x _ => valueS_q s s' h1 h2 x
    have hl : leafS s' k v var f = leafS s k v var f := by
      have hf : ∀ l : List TEvent, foldedS s' k f l = foldedS s k f l := fun l => by
        cases l with
        | nil => rfl
        | cons e l =>
          have hn : numE s' e f = numE s e f := by unfold numE; rw [h2]
          simp only [foldedS, hn, foldS_q s s' h2]
      unfold leafS
      rw [h1]
      simp only [h2, hf]
    have hk : ∀ of, twoKids s' of kids = twoKids s of kids := fun of => by
      match kids, ih with
      | [a, b], ih => simp only [twoKids, ih a (by simp), ih b (by simp)]
      | [], _ => rfl
      | [_], _ => rfl
      | _ :: _ :: _ :: _, _ => rfl
    simp only [valueS, hl, hk]
theorem holds_q (l : Sl TSchema) (q n : TQuery) (b : Sl (Sl TEvent)) (h : n.items = q.items) (p : TPred) : holdsP ⟨l, n, b⟩ p = holdsP ⟨l, q, b⟩ p := by
  have hv := valueS_q ⟨l, q, b⟩ ⟨l, n, b⟩ (fun v => by unfold rowS; simp only [h]) fun e n => rfl
  unfold holdsP holdsS
  rw [hv, hv]
end Go.Proofs.YthdkeggdipogoaaGreatDoor.Tz
