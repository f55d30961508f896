/-
Of predicates whose normal texts are the same ones, in any order, the normal forms are the same. Conditions: none; plain lemmas.
-/
import Derived.Test.YthdkeggdipogoaaGreatDoorTSe
import Derived.Test.YthdkeggdipogoaaGreatDoorTWy
import Derived.Test.YthdkeggdipogoaaGreatDoorTSd
import Derived.Test.YthdkeggdipogoaaGreatDoorTW6
namespace Go.Aug.Api
open Go.Aug
mutual
theorem sameX_each : ∀ x y : TExpr, sameX x y = true → eachV x = eachV y
  | .mk k v var f rep kids, .mk k' v' var' f' rep' kids', h => by
    simp only [sameX, Bool.and_eq_true, decide_eq_true_eq] at h
    obtain ⟨⟨⟨⟨⟨rfl, rfl⟩, rfl⟩, rfl⟩, hl⟩, hk⟩ := h
    have := sameXs_each kids kids' hl hk
    simp only [eachV, this]
theorem sameXs_each : ∀ l m : List TExpr, l.length = m.length → sameXs l m = true → eachVs l = eachVs m
  | [], [], _, _ => rfl
  | a :: l, b :: m, hl, h => by
    simp only [sameXs, Bool.and_eq_true] at h
    simp only [eachVs, sameX_each a b h.1, sameXs_each l m (by simpa using hl) h.2]
  | [], _ :: _, h, _ => by simp at h
  | _ :: _, [], h, _ => by simp at h
end
theorem same_place (q : List TItem) {a b : TPred} (h : sameP a b = true) : placeN q a = placeN q b := by
  simp only [sameP, Bool.and_eq_true] at h
  unfold placeN varsS
  simp only [eachVs, sameX_each _ _ h.1.2, sameX_each _ _ h.2]
theorem onceN_has {l : List TKeyed} {k : TKeyed} (h : k ∈ l) : ∃ x ∈ onceN l, x.text = k.text := by
  have add : ∀ (a : List TKeyed) (x : TKeyed), (∃ y ∈ addN a x, y.text = x.text) ∧ ∀ y ∈ a, y ∈ addN a x := fun a x => by
    unfold addN
    split
    · rename_i h
      obtain ⟨y, h1, h2⟩ := List.any_eq_true.1 h
      exact ⟨⟨y, h1, by simpa using h2⟩, fun y hy => hy⟩
    · exact ⟨⟨x, by simp, rfl⟩, fun y hy => by simp [hy]⟩
  have keep : ∀ (l a : List TKeyed), ∀ y ∈ a, y ∈ l.foldl addN a := by
    intro l
    induction l with
    | nil => intro a y hy; exact hy
    | cons x l ih => intro a y hy; exact ih _ y ((add a x).2 y hy)
  have : ∀ (l a : List TKeyed), k ∈ l → ∃ x ∈ l.foldl addN a, x.text = k.text := by
    intro l
    induction l with
    | nil => intro a h; simp at h
    | cons x l ih =>
      intro a h
      rcases List.mem_cons.1 h with rfl | h
      · obtain ⟨y, h1, h2⟩ := (add a k).1
        exact ⟨y, keep l _ y h1, h2⟩
      · exact ih _ h
  exact this l [] h
end Go.Aug.Api

namespace Go.Proofs.YthdkeggdipogoaaGreatDoor.Tz
open Go.Aug Go.Aug.Api
set_option maxRecDepth 100000
@[simp] theorem DO_gstill (T : Tab) (base i : Nat) (op : AOp) (t : Nat) (b : Bool) (a : List Nat) (l : Nat) (ps : List POp) (E : Fr) (rank : Nat) (pend : PendX) (Hs : ChainX) (Q : Fr → Heap → Prop) :
    DO T base (⟨some i, op, some (t, b), .acts, a, l, true⟩ :: ps) E rank pend Hs Q = @gK ((E t).says b) ⟨opK T E (low0 (wake base a pend (topC Hs).2 (topC Hs).1)) op fun d H' =>
      @gK (decide (stillLim l (atC Hs 0).1.next (wake base a pend (topC Hs).2 (topC Hs).1).next ≤ H'.low)) ⟨DO T base ps (upd E i d) rank pend ((relow H' (wake base a pend (topC Hs).2 (topC Hs).1).low, a ++ (topC Hs).2) :: Hs) Q⟩ ⟨False⟩⟩ ⟨DO T base ps (upd E i uD) rank pend (topC Hs :: Hs) Q⟩ := by simp only [DO, saysX]; rfl
theorem normQ_right {q : TQuery} (h : rightP q = true) : normQ q = { q with preds := ⟨repL (normL q.items.l (textS q) q.preds.l), normL q.items.l (textS q) q.preds.l, Nat.le_trans (normL_length ..) q.preds.ok⟩ } := by
  unfold normQ
  rw [dif_pos h]
end Go.Proofs.YthdkeggdipogoaaGreatDoor.Tz

namespace Go.Proofs.YthdkeggdipogoaaGreatDoor.Tz
open Go.Aug Go.Aug.Api
set_option maxRecDepth 100000
theorem text_inj {q : TQuery} {a b : TPred} (ha : predX a = true) (hb : predX b = true) (h : textS q a = textS q b) : sameP a b = true := by
  refine pred_unique ha hb ?_
  unfold textS textP at h
  have h := congrArg (fun b : ByteArray => b.data.toList) h
  simp only [List.toList_toArray] at h
  refine Go.Aug.Api.bytes_eq ?_
  unfold partsT at h
  split at h
  · simpa using h
  · simpa using h
theorem norm_same' {q : TQuery} (h : rightP q = true) : (normQ q).items = q.items ∧ (normQ q).within = q.within ∧ (normQ q).by_ = q.by_ ∧ (normQ q).pick = q.pick := by
  rw [normQ_right h]
  exact ⟨rfl, rfl, rfl, rfl⟩
structure OrdAt (q : TQuery) (A : List TPred) (p : TPred) (C Lc : List TPred) (b : Nat) (E : Fr) (H' : Heap) : Prop where
  e2 : E 2 = .rf b 0
  e5 : E 5 = bD true
  e7 : E 7 = .rf (b + 1) 0
  g0 : H'.get b = some (.cells (qC q (q.preds.enc predC)))
  fa : ∃ r, H'.get (b + 1) = some (.cells (qC q (.rs r 0 q.preds.l.length none 15))) ∧ H'.get r = some (.cells ((p :: C ++ A).flatMap predC)) ∧ r < H'.next
  fb : ∃ x d, E 8 = .rf x 0 ∧ x < H'.next ∧ H'.get x = some (.cells (qC q d)) ∧ Own ((q.preds.l ++ [p]).flatMap predC) (q.preds.l.length + 1) 15 0 H' d
  fc : ∃ x r, E 9 = .rf x 0 ∧ x < H'.next ∧ H'.get x = some (.cells (qC q (.rs r 0 q.preds.l.length none 15))) ∧ H'.get r = some (.cells (Lc.flatMap predC)) ∧ r < H'.next
  w1 : b ≤ H'.low
  w2 : H'.low ≤ H'.next
  w3 : b + 2 ≤ H'.next
end Go.Proofs.YthdkeggdipogoaaGreatDoor.Tz

namespace Go.Proofs.YthdkeggdipogoaaGreatDoor.Tz
open Go.Aug Go.Aug.Api
set_option maxRecDepth 100000
theorem strings_Compare_run (a b : ByteArray) (H : Heap) : Run tab (.fn n_strings_Compare) [strD a, strD b] H (i64D (cmpB a b)) H := by
  refine cK.run (cK_fn o_strings_Compare t_strings_Compare (Nat.le_of_ble_eq_true rfl) (by decide) ?_)
  have h0 : ∀ H1 k, cK tab (.fn n_bytealg_CompareString) [strD a, strD b] H1 k = k (i64D (cmpB a b)) H1 := fun H1 k => (cK.run (cK_orc o_bytealg_CompareString ⟨(i64D (cmpB a b), H1), rfl, rfl, rfl⟩)).cK k
  simp [h0]
def bools (l : List Bool) : List D := l.map bD
def signsD : List D := bools [false, false, false, false, true, false, true, false, true, true, false, false, true, true, false, false, false, true, false, true, true]
theorem value_signs_run (H : Heap) : Run tab (.fn n_value_signs) [] H (.agg signsD) H := by
  refine cK.run (cK_fn o_value_signs t_value_signs (Nat.le_of_ble_eq_true rfl) (by decide) ?_)
  simp [signsD, bools]
theorem signs_at (op c : Int) (ho : 1 ≤ op ∧ op ≤ 6) (hc : c = -1 ∨ c = 0 ∨ c = 1) : ∃ d, evIdxA (some 3) 3 7 (.agg signsD) (i64D op) = some d ∧ evIdxA none 1 3 d (i64D (c + 1)) = some (bD (signOf op c)) := by
  have hop : op = 1 ∨ op = 2 ∨ op = 3 ∨ op = 4 ∨ op = 5 ∨ op = 6 := by omega
  rcases hop with rfl | rfl | rfl | rfl | rfl | rfl <;> rcases hc with rfl | rfl | rfl <;> exact ⟨_, rfl, rfl⟩
theorem value_Compare_run (op k n : Int) (s : ByteArray) (k' n' : Int) (s' : ByteArray) (H : Heap) : Run tab (.fn n_value_Compare) [i64D op, .agg [i64D k, i64D n, strD s], .agg [i64D k', i64D n', strD s']] H
    (.tup [bD (compareV op ⟨k, n, s⟩ ⟨k', n', s'⟩).1, i64D (compareV op ⟨k, n, s⟩ ⟨k', n', s'⟩).2]) H := by
  refine cK.run (cK_fn o_value_Compare t_value_Compare (Nat.le_of_ble_eq_true rfl) (by decide) ?_)
  have hR := fun k n s H => (value_Right_run k n s H).cK
  have hS := fun H => (value_signs_run H).cK
  have hC := fun a b H => (cmp_Compare_int64_run a b H).cK
  have hT := fun a b H => (strings_Compare_run a b H).cK
  have bad : (rightV ⟨k, n, s⟩ = false ∨ rightV ⟨k', n', s'⟩ = false ∨ op < 1 ∨ 6 < op) → compareV op ⟨k, n, s⟩ ⟨k', n', s'⟩ = (false, 1) := fun h => by unfold compareV; rw [if_pos h]
  cases c1 : rightV ⟨k, n, s⟩
  · rw [bad (.inl c1)]; simp [hR, c1]
  cases c2 : rightV ⟨k', n', s'⟩
  · rw [bad (.inr (.inl c2))]; simp [hR, c1, c2]
  by_cases c3 : op < 1
  · rw [bad (.inr (.inr (.inl c3)))]; simp [hR, c1, c2, c3]
  by_cases c4 : 6 < op
  · rw [bad (.inr (.inr (.inr c4)))]; simp [hR, c1, c2, c3, c4]
  have e : compareV op ⟨k, n, s⟩ ⟨k', n', s'⟩ = if k ≠ k' then (false, 42) else if k = 3 ∧ 2 < op then (false, 42) else (signOf op (cmpV ⟨k, n, s⟩ ⟨k', n', s'⟩), 0) := by
    unfold compareV; rw [if_neg (by rw [c1, c2]; simp; omega)]
  have hop : 1 ≤ op ∧ op ≤ 6 := by omega
  have o1 : 1 ≤ op := hop.1
  have o6 : op ≤ 6 := hop.2
  have hw : ∀ c, c = -1 ∨ c = 0 ∨ c = 1 → IntKind.i64.wrap (c + 1) = c + 1 := fun c hc => wrap64 (by omega) (by omega)
  by_cases c5 : k = k'
  · subst c5
    have hk : k = 1 ∨ k = 2 ∨ k = 3 := by unfold rightV at c1; grind
    rcases hk with rfl | rfl | rfl
    · rw [e]
      have hv : cmpV ⟨1, n, s⟩ ⟨1, n', s'⟩ = cmpI n n' := by simp [cmpV]
      obtain ⟨d, s1, s2⟩ := signs_at op (cmpI n n') hop (cmpI_range _ _)
      simp [hR, c1, c2, c3, c4, hS, hC, hw _ (cmpI_range n n'), s1, s2, hv]
    · rw [e]
      have hv : cmpV ⟨2, n, s⟩ ⟨2, n', s'⟩ = cmpB s s' := by simp [cmpV]
      obtain ⟨d, s1, s2⟩ := signs_at op (cmpB s s') hop (cmp_range _ _)
      simp [hR, c1, c2, c3, c4, hS, hT, hw _ (cmp_range s.data.toList s'.data.toList), s1, s2, hv]
    · rw [e]
      have hv : cmpV ⟨3, n, s⟩ ⟨3, n', s'⟩ = cmpI n n' := by simp [cmpV]
      obtain ⟨d, s1, s2⟩ := signs_at op (cmpI n n') hop (cmpI_range _ _)
      by_cases c6 : 2 < op
      · simp [hR, c1, c2, c3, c4, c6]
      · simp [hR, c1, c2, c3, c4, c6, hS, hC, hw _ (cmpI_range n n'), s1, s2, hv]
  · rw [e]; simp [hR, c1, c2, c3, c4, c5]
theorem eval_Holds_run (l : Sl TSchema) (q : TQuery) (b : Sl (Sl TEvent)) (p : TPred) (H : Heap) : Run tab (.fn n_eval_Holds) [l.enc schemaC, .agg (queryC q), b.enc rowC, .agg (predC p)] H (bD (holdsS ⟨l, q, b⟩ p.cmp p.L p.R)) H := by
  refine cK.run (cK_fn o_eval_Holds t_eval_Holds (Nat.le_of_ble_eq_true rfl) (by decide) ?_)
  have hL := fun (H1 : Heap) (r : Nat) (h1 : H1.get r = some (.cells (scopeC ⟨l, q, b⟩))) (h2 : r < H1.next) => (eval_scope_value_run ⟨l, q, b⟩ p.L H1 r h1 h2).cK
  have hR := fun (H1 : Heap) (r : Nat) (h1 : H1.get r = some (.cells (scopeC ⟨l, q, b⟩))) (h2 : r < H1.next) => (eval_scope_value_run ⟨l, q, b⟩ p.R H1 r h1 h2).cK
  have hC := fun op k n s k' n' s' H => (value_Compare_run op k n s k' n' s' H).cK
  simp only [scopeC, Sl.enc, VE.enc, valC] at hL hR hC
  generalize hx : valueS ⟨l, q, b⟩ p.L = x at hL
  generalize hy : valueS ⟨l, q, b⟩ p.R = y at hR
  obtain ⟨⟨xk, xn, xs⟩, xe⟩ := x
  obtain ⟨⟨yk, yn, ys⟩, ye⟩ := y
  unfold holdsS
  rw [hx, hy]
  by_cases c1 : xe = 12
  · simp [queryC, Sl.enc, hL, hR, c1]
  by_cases c2 : ye = 12
  · simp [queryC, Sl.enc, hL, hR, c1, c2]
  by_cases c3 : xe = 0
  · by_cases c4 : ye = 0
    · simp [queryC, Sl.enc, hL, hR, c3, c4, hC]
    · simp [queryC, Sl.enc, hL, hR, c2, c3, c4]
  · simp [queryC, Sl.enc, hL, hR, c1, c2, c3]
end Go.Proofs.YthdkeggdipogoaaGreatDoor.Tz
