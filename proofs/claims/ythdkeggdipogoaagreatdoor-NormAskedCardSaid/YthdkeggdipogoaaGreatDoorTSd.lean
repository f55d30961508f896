/-
What says whether expressions and predicates are the same. Conditions: none; definitions and plain lemmas.
-/
import Derived.Test.YthdkeggdipogoaaGreatDoorTWy
namespace Go.Aug.Api
open Go.Aug
mutual
def sameX : TExpr → TExpr → Bool
  | .mk k v var f _ kids, .mk k' v' var' f' _ kids' => decide (k = k') && decide (v = v') && decide (var = var') && decide (f = f') && decide (kids.length = kids'.length) && sameXs kids kids'
def sameXs : List TExpr → List TExpr → Bool
  | a :: l, b :: m => sameX a b && sameXs l m
  | _, _ => true
end
def sameP (a b : TPred) : Bool := decide (a.cmp = b.cmp) && sameX a.L b.L && sameX a.R b.R
def samePs : List TPred → List TPred → Bool
  | a :: l, b :: m => sameP a b && samePs l m
  | _, _ => true
mutual
theorem sameX_refl : ∀ x : TExpr, sameX x x = true
  | .mk k v var f rep kids => by simp [sameX, sameXs_refl kids]
theorem sameXs_refl : ∀ l : List TExpr, sameXs l l = true
  | [] => rfl
  | x :: l => by simp [sameXs, sameX_refl x, sameXs_refl l]
end
theorem sameP_refl (p : TPred) : sameP p p = true := by simp [sameP, sameX_refl]
theorem samePs_refl : ∀ l : List TPred, samePs l l = true
  | [] => rfl
  | x :: l => by simp [samePs, sameP_refl x, samePs_refl l]
end Go.Aug.Api

namespace Go.Proofs.YthdkeggdipogoaaGreatDoor.Tz
open Go.Aug Go.Aug.Api
set_option maxRecDepth 100000
theorem sameXs_split : ∀ (pre pre' : List TExpr) (a b : TExpr) (suf suf' : List TExpr), pre.length = pre'.length → sameXs (pre ++ a :: suf) (pre' ++ b :: suf') = (sameXs pre pre' && (sameX a b && sameXs suf suf'))
  | [], [], a, b, suf, suf', _ => by simp [sameXs]
  | x :: pre, y :: pre', a, b, suf, suf', h => by
    have := sameXs_split pre pre' a b suf suf' (by simpa using h)
    simp only [List.cons_append, sameXs, this, Bool.and_assoc]
  | [], _ :: _, _, _, _, _, h => by simp at h
  | _ :: _, [], _, _, _, _, h => by simp at h
theorem SameExpr_run : ∀ (x y : TExpr) (_hx : okE x) (_hy : okE y) (H : Heap), Run tab (.fn n_q21) [.agg (exprC x), .agg (exprC y)] H (bD (sameX x y)) H
  | .mk k v var f rep kids, .mk k' v' var' f' rep' kids', hx, hy, H => by
    have ih : ∀ x ∈ kids, ∀ y ∈ kids', ∀ (H : Heap), Run tab (.fn n_q21) [.agg (exprC x), .agg (exprC y)] H (bD (sameX x y)) H := fun x hm y hm' H => SameExpr_run x y (okEs_mem hx.2.1 hm) (okEs_mem hy.2.1 hm') H
    have hok : kids.length ≤ big := hx.1
    refine cK.run (cK_fn o_q21 t_q21 (Nat.le_of_ble_eq_true rfl) (by decide) ?_)
    rw [exprC_mk, exprC_mk]
    have hv : (decide (v.kind = v'.kind) && decide (v.n = v'.n) && decide (v.s = v'.s)) = decide (v = v') := by
      obtain ⟨a, b, c⟩ := v
      obtain ⟨a', b', c'⟩ := v'
      simp
      grind
    simp only [sameX]
    by_cases c1 : k = k'
    · subst c1
      generalize hZ : decide (v = v') = Z at hv ⊢
      clear hZ
      cases Z with
      | false => simp [eq_val, hv]
      | true =>
        by_cases c3 : var = var'
        · subst c3
          by_cases c4 : f = f'
          · subst c4
            by_cases c5 : kids.length = kids'.length
            · simp [eq_val, hv, c5]
              refine LR_rule (WR_mono _) (fun j E H' => ∃ pre suf pre' suf', kids = pre ++ suf ∧ kids' = pre' ++ suf' ∧ pre.length = pre'.length ∧ j = suf.length ∧ E 2 = .rf H.next 0 ∧ E 3 = .rf (H.next + 1) 0 ∧ E 5 = i64D pre.length ∧ sameXs pre pre' = true ∧
                H' = ((low0 H).add (.cells [i64D k, i64D v.kind, i64D v.n, strD v.s, strD var, strD f, slD rep kids.length (kids.flatMap exprC)])).add (.cells [i64D k, i64D v'.kind, i64D v'.n, strD v'.s, strD var, strD f, slD rep' kids'.length (kids'.flatMap exprC)])) ?_ (j := kids.length) ⟨[], kids, [], kids', rfl, rfl, rfl, rfl, by simp, by simp, by simp, rfl, by simp [c5]⟩
              rintro j E H' ⟨pre, suf, pre', suf', h0, h0', hpl, rfl, e2, e3, e5, hs, rfl⟩
              cases suf with
              | nil =>
                have hsuf' : suf' = [] := by
                  have h1 := congrArg List.length h0
                  have h2 := congrArg List.length h0'
                  simp at h1 h2
                  exact List.length_eq_zero_iff.1 (by omega)
                subst hsuf'
                simp at h0 h0'
                subst h0 h0'
                simp [e2, e3, e5, hs]
              | cons a suf =>
                obtain ⟨b, suf', rfl⟩ : ∃ b t, suf' = b :: t := by
                  cases suf' with
                  | nil =>
                    have h1 := congrArg List.length h0
                    have h2 := congrArg List.length h0'
                    simp at h1 h2
                    omega
                  | cons b t => exact ⟨b, t, rfl⟩
                have hlt : pre.length < kids.length := by rw [h0]; simp
                have hlt' : ((pre.length : Int) < (kids.length : Int)) = True := by simp; omega
                have hw := wrap_more hlt hok
                have ea := elem_at exprC_len rep kids .i64 pre.length a (by rw [h0]; simp)
                have eb := elem_at exprC_len rep' kids' .i64 pre.length b (by rw [h0', hpl]; simp)
                have hr := fun H => (ih a (by rw [h0]; simp) b (by rw [h0']; simp) H).cK
                have hsp : sameXs kids kids' = (sameX a b && sameXs suf suf') := by rw [h0, h0', sameXs_split _ _ _ _ _ _ hpl, hs, Bool.true_and]
                rw [hsp]
                cases c6 : sameX a b with
                | true =>
                  rw [c6] at hr
                  have c5' : (kids.length : Int) = (kids'.length : Int) := by omega
                  simp [e2, e3, e5, hlt', ea, eb, load_elem _ _ _ _ (exprC_len a), load_elem _ _ _ _ (exprC_len b), hr, hw]
                  refine ⟨suf.length, by omega, pre ++ [a], suf, by simp [h0], pre' ++ [b], ⟨suf', by simp [h0']⟩, by simp [hpl], rfl, by simp, ?_⟩
                  have := sameXs_split pre pre' a b [] [] hpl
                  simp [this, hs, c6, sameXs]
                | false =>
                  rw [c6] at hr
                  simp [e2, e3, e5, hlt', ea, eb, load_elem _ _ _ _ (exprC_len a), load_elem _ _ _ _ (exprC_len b), hr, hw]
            · have c5' : ¬ ((kids.length : Int) = (kids'.length : Int)) := by omega
              simp [eq_val, hv, c5, c5']
          · simp [eq_val, hv, c4]
        · simp [eq_val, hv, c3]
    · simp [c1]
theorem SamePred_run (a b : TPred) (H : Heap) : Run tab (.fn n_q23) [.agg (predC a), .agg (predC b)] H (bD (sameP a b)) H := by
  refine cK.run (cK_fn o_q23 t_q23 (Nat.le_of_ble_eq_true rfl) (by decide) ?_)
  have hL := fun H => (SameExpr_run a.L b.L a.okL b.okL H).cK
  have hR := fun H => (SameExpr_run a.R b.R a.okR b.okR H).cK
  unfold sameP
  by_cases c1 : a.cmp = b.cmp
  · cases c2 : sameX a.L b.L
    · simp [c1, hL, c2]
    · cases c3 : sameX a.R b.R <;> simp [c1, hL, c2, hR, c3]
  · simp [c1]
end Go.Proofs.YthdkeggdipogoaaGreatDoor.Tz

namespace Go.Proofs.YthdkeggdipogoaaGreatDoor.Tz
open Go.Aug Go.Aug.Api
set_option maxRecDepth 100000
@[simp] theorem DO_gstill (T : Tab) (base i : Nat) (op : AOp) (t : Nat) (b : Bool) (a : List Nat) (l : Nat) (ps : List POp) (E : Fr) (rank : Nat) (pend : PendX) (Hs : ChainX) (Q : Fr → Heap → Prop) :
    DO T base (⟨some i, op, some (t, b), .acts, a, l, true⟩ :: ps) E rank pend Hs Q = @gK ((E t).says b) ⟨opK T E (low0 (wake base a pend (topC Hs).2 (topC Hs).1)) op fun d H' =>
      @gK (decide (stillLim l (atC Hs 0).1.next (wake base a pend (topC Hs).2 (topC Hs).1).next ≤ H'.low)) ⟨DO T base ps (upd E i d) rank pend ((relow H' (wake base a pend (topC Hs).2 (topC Hs).1).low, a ++ (topC Hs).2) :: Hs) Q⟩ ⟨False⟩⟩ ⟨DO T base ps (upd E i uD) rank pend (topC Hs :: Hs) Q⟩ := by simp only [DO, saysX]; rfl
theorem normQ_right {q : TQuery} (h : rightP q = true) : normQ q = { q with preds := ⟨repL (normL q.items.l (textS q) q.preds.l), normL q.items.l (textS q) q.preds.l, Nat.le_trans (normL_length ..) q.preds.ok⟩ } := by
  unfold normQ
  rw [dif_pos h]
end Go.Proofs.YthdkeggdipogoaaGreatDoor.Tz

namespace Go.Aug.Api
open Go.Aug
theorem bytes_eq {a b : ByteArray} (h : a.data.toList = b.data.toList) : a = b := by
  obtain ⟨⟨a⟩⟩ := a
  obtain ⟨⟨b⟩⟩ := b
  simp at h
  rw [h]
inductive Shape where
  | num (n : Int)
  | txt (s : List UInt8)
  | word (w rest : List UInt8)
def Shape.text : Shape → List UInt8
  | .num n => Lib.itoa n
  | .txt s => 39 :: (s ++ [39])
  | .word w rest => w ++ rest
def Weak (s : List UInt8) : Prop := s = [] ∨ ∃ c r, s = c :: r ∧ (c = 41 ∨ c = 32)
inductive Cls : TExpr → Prop where
  | num (n : Int) (rep : Option (Option Nat)) : Cls (.mk 1 ⟨1, n, emptyS⟩ emptyS emptyS rep [])
  | txt (s : ByteArray) (rep : Option (Option Nat)) (hp : plainL s.data.toList = true) : Cls (.mk 1 ⟨2, 0, s⟩ emptyS emptyS rep [])
  | boo (b : Int) (rep : Option (Option Nat)) (hb : b = 0 ∨ b = 1) : Cls (.mk 1 ⟨3, b, emptyS⟩ emptyS emptyS rep [])
  | fld (var f : ByteArray) (rep : Option (Option Nat)) (h1 : nameS var = true) (h2 : nameS f = true) : Cls (.mk 2 zVal var f rep [])
  | cnt (var : ByteArray) (rep : Option (Option Nat)) (h1 : nameS var = true) : Cls (.mk 3 zVal var emptyS rep [])
  | fol (k : Int) (var f : ByteArray) (rep : Option (Option Nat)) (hk : k = 4 ∨ k = 5 ∨ k = 6) (h1 : nameS var = true) (h2 : nameS f = true) : Cls (.mk k zVal var f rep [])
theorem cls_of {x : TExpr} {n : Nat} (h : rightX n x = true) (h7 : ¬ (x.kind = 7 ∨ x.kind = 8)) : Cls x := by
  obtain ⟨k, v, var, f, rep, kids⟩ := x
  simp only [TExpr.kind] at h7
  unfold rightX at h
  by_cases m0 : (n : Int) = 0
  · rw [if_pos m0] at h; cases h
  rw [if_neg m0] at h
  by_cases k1 : k = 1
  · rw [if_pos k1] at h
    simp only [Bool.and_eq_true, decide_eq_true_eq, List.isEmpty_iff] at h
    obtain ⟨⟨⟨⟨rfl, rfl⟩, rfl⟩, hv⟩, hp⟩ := h
    subst k1
    obtain ⟨vk, vn, vs⟩ := v
    unfold rightV at hv
    simp only at hv hp
    by_cases v1 : vk = 1
    · rw [if_pos v1] at hv
      simp only [Bool.and_eq_true, decide_eq_true_eq] at hv
      obtain ⟨-, rfl⟩ := hv
      subst v1
      exact .num vn rep
    · rw [if_neg v1] at hv
      by_cases v3 : vk = 3
      · rw [if_pos v3] at hv
        simp only [Bool.and_eq_true, decide_eq_true_eq] at hv
        obtain ⟨⟨h1, h2⟩, rfl⟩ := hv
        subst v3
        exact .boo vn rep (by omega)
      · rw [if_neg v3] at hv
        by_cases v2 : vk = 2
        · rw [if_pos v2] at hv
          simp only [Bool.and_eq_true, decide_eq_true_eq] at hv
          obtain ⟨rfl, -⟩ := hv
          subst v2
          exact .txt vs rep hp
        · rw [if_neg v2] at hv; cases hv
  · rw [if_neg k1] at h
    by_cases k3 : k = 3
    · rw [if_pos k3] at h
      simp only [Bool.and_eq_true, decide_eq_true_eq, List.isEmpty_iff] at h
      obtain ⟨⟨⟨rfl, rfl⟩, h1⟩, rfl⟩ := h
      subst k3
      exact .cnt var rep h1
    · rw [if_neg k3] at h
      by_cases k26 : 2 ≤ k ∧ k ≤ 6
      · rw [if_pos k26] at h
        simp only [Bool.and_eq_true, decide_eq_true_eq, List.isEmpty_iff] at h
        obtain ⟨⟨⟨rfl, rfl⟩, h1⟩, h2⟩ := h
        by_cases k2 : k = 2
        · subst k2
          exact .fld var f rep h1 h2
        · exact .fol k var f rep (by omega) h1 h2
      · rw [if_neg k26, if_neg h7] at h
        cases h
end Go.Aug.Api

namespace Go.Aug.Api
open Go.Aug
def isAdd (x : TExpr) : Prop := x.kind = 7 ∨ x.kind = 8
instance (x : TExpr) : Decidable (isAdd x) := by unfold isAdd; infer_instance
def Stop (s : List UInt8) : Prop := s = [] ∨ (∃ t, s = 41 :: t) ∨ ∃ c t, s = 32 :: c :: t ∧ c ≠ 43 ∧ c ≠ 45
theorem Stop.weak {s : List UInt8} (h : Stop s) : Weak s := by
  rcases h with rfl | ⟨t, rfl⟩ | ⟨c, t, rfl, -, -⟩
  · exact .inl rfl
  · exact .inr ⟨41, t, rfl, .inl rfl⟩
  · exact .inr ⟨32, _, rfl, .inr rfl⟩
end Go.Aug.Api

namespace Go.Aug.Api
open Go.Aug
end Go.Aug.Api

namespace Go.Aug.Api
open Go.Aug
end Go.Aug.Api

namespace Go.Aug.Api
open Go.Aug
theorem fold_each : ∀ x : TExpr, eachV (foldX x) = eachV x
  | .mk k v var f rep kids => by
    have ih : ∀ x ∈ kids, eachV (foldX x) = eachV x := fun x _ => fold_each x
    by_cases k7 : k = 7 ∨ k = 8
    · by_cases h2 : kids.length = 2
      · obtain ⟨a, b, rfl⟩ : ∃ a b, kids = [a, b] := by
          match kids, h2 with
          | [a, b], _ => exact ⟨a, b, rfl⟩
        have ha := ih a (by simp)
        have hb := ih b (by simp)
        rw [foldX_two k7]
        have k26 : ¬ (2 ≤ k ∧ k ≤ 6) := by omega
        have one : ∀ x : TExpr, x.kind = 1 → eachV x = [] := fun x hx => by
          obtain ⟨k, v, var, f, rep, kids⟩ := x
          simp only [TExpr.kind] at hx
          subst hx
          simp [eachV]
        unfold foldedTwo
        split
        · rename_i hf
          have h1 := one _ hf.1
          have h2 := one _ hf.2.1
          rw [ha] at h1
          rw [hb] at h2
          rw [one (valE _) rfl]
          simp [eachV, k26, k7, eachVs, h1, h2]
        · simp [eachV, k26, k7, eachVs, ha, hb]
      · rw [foldX_not h2]
    · rw [foldX_other k7]
end Go.Aug.Api

namespace Go.Aug.Api
open Go.Aug
theorem mem_addP {l : List Int} {n k : Int} : k ∈ addP l n ↔ k ∈ l ∨ (k = n ∧ 0 ≤ n) := by
  unfold addP
  split
  · split
    · rename_i h1 h2
      have := List.contains_iff_mem.1 h2
      constructor
      · exact .inl
      · rintro (h | ⟨rfl, -⟩)
        · exact h
        · exact this
    · rename_i h1 h2
      simp [h1]
  · rename_i h1
    simp [h1]
theorem mem_places (q : List TItem) (k : Int) (vs : List ByteArray) : k ∈ placesS q vs ↔ 0 ≤ k ∧ ∃ v ∈ vs, placeS q v = k := by
  have : ∀ (vs : List ByteArray) (l : List Int), k ∈ vs.foldl (fun l v => addP l (placeS q v)) l ↔ k ∈ l ∨ (0 ≤ k ∧ ∃ v ∈ vs, placeS q v = k) := by
    intro vs
    induction vs with
    | nil => intro l; simp
    | cons v vs ih =>
      intro l
      rw [List.foldl_cons, ih, mem_addP]
      constructor
      · rintro ((h | ⟨rfl, h⟩) | ⟨h, w, h1, h2⟩)
        · exact .inl h
        · exact .inr ⟨h, v, by simp, rfl⟩
        · exact .inr ⟨h, w, by simp [h1], h2⟩
      · rintro (h | ⟨h, w, h1, h2⟩)
        · exact .inl (.inl h)
        · rcases List.mem_cons.1 h1 with rfl | h1
          · exact .inl (.inr ⟨h2.symm, by omega⟩)
          · exact .inr ⟨h, w, h1, h2⟩
  have := this vs []
  simpa [placesS] using this
end Go.Aug.Api
