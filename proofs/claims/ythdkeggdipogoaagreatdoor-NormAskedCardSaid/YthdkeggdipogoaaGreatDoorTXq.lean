/-
What can be asked can be asked in its normal form. Conditions: none; plain.
-/
import Derived.Test.YthdkeggdipogoaaGreatDoorTSd
namespace Go.Proofs.YthdkeggdipogoaaGreatDoor.Tz
open Go.Aug Go.Aug.Api
set_option maxRecDepth 100000
theorem kind_one (l : List TSchema) (q : List TItem) {x : TExpr} (h : x.kind = 1) : kindS l q x = x.val.kind := by
  obtain ⟨k, v, var, f, rep, kids⟩ := x
  simp only [TExpr.kind] at h
  subst h
  simp [kindS, leafK, TExpr.val]
theorem reck_one {k : Int} {a b : TVal} (h : (reckV k a b).2 = 0) : a.kind = 1 ∧ b.kind = 1 ∧ (reckV k a b).1.kind = 1 := by
  have key : ∀ n, (ofSum n).2 = 0 → (ofSum n).1.kind = 1 := fun n h => by
    unfold ofSum at h ⊢
    split
    · rfl
    · rename_i hn
      rw [if_neg hn] at h
      cases h
  unfold reckV at h ⊢
  by_cases hb : bothV a b = 0
  · refine ⟨(both_zero hb).2.2.1, (both_zero hb).2.2.2, ?_⟩
    split
    · rename_i hk
      rw [if_pos hk] at h
      unfold subV at h ⊢
      rw [if_pos hb] at h ⊢
      exact key _ h
    · rename_i hk
      rw [if_neg hk] at h
      unfold addV at h ⊢
      rw [if_pos hb] at h ⊢
      exact key _ h
  · exfalso
    split at h
    · unfold subV at h
      rw [if_neg hb] at h
      exact hb h
    · unfold addV at h
      rw [if_neg hb] at h
      exact hb h
theorem fold_kind (l : List TSchema) (q : List TItem) : ∀ x : TExpr, kindS l q (foldX x) = kindS l q x
  | .mk k v var f rep kids => by
    have ih : ∀ x ∈ kids, kindS l q (foldX x) = kindS l q x := fun x _ => fold_kind l q x
    by_cases k7 : k = 7 ∨ k = 8
    · by_cases h2 : kids.length = 2
      · obtain ⟨a, b, rfl⟩ : ∃ a b, kids = [a, b] := by
          match kids, h2 with
          | [a, b], _ => exact ⟨a, b, rfl⟩
        have ha := ih a (by simp)
        have hb := ih b (by simp)
        rw [foldX_two k7]
        unfold foldedTwo
        split
        · rename_i hf
          obtain ⟨r1, r2, r3⟩ := reck_one hf.2.2
          have h1 := kind_one l q hf.1
          have h2 := kind_one l q hf.2.1
          rw [ha, r1] at h1
          rw [hb, r2] at h2
          rw [kind_one l q (x := valE _) rfl]
          simp only [kindS, if_pos k7, kindTwo, h1, h2]
          exact r3
        · simp only [kindS, if_pos k7, kindTwo, ha, hb]
      · rw [foldX_not h2]
    · rw [foldX_other k7]
theorem rise_eq : ∀ {a b : List Int}, a.Pairwise (· ≤ ·) → b.Pairwise (· ≤ ·) → a.Nodup → b.Nodup → (∀ k, k ∈ a ↔ k ∈ b) → a = b
  | [], [], _, _, _, _, _ => rfl
  | [], y :: b, _, _, _, _, h => by have := (h y).2 (by simp); simp at this
  | x :: a, [], _, _, _, _, h => by have := (h x).1 (by simp); simp at this
  | x :: a, y :: b, ha, hb, na, nb, h => by
    obtain ⟨a1, a2⟩ := List.pairwise_cons.1 ha
    obtain ⟨b1, b2⟩ := List.pairwise_cons.1 hb
    obtain ⟨a3, a4⟩ := List.nodup_cons.1 na
    obtain ⟨b3, b4⟩ := List.nodup_cons.1 nb
    have hxy : x = y := by
      have h1 : y ≤ x := by
        rcases List.mem_cons.1 ((h x).1 (by simp)) with e | e
        · omega
        · exact b1 x e
      have h2 : x ≤ y := by
        rcases List.mem_cons.1 ((h y).2 (by simp)) with e | e
        · omega
        · exact a1 y e
      omega
    subst hxy
    refine congrArg _ (rise_eq a2 b2 a4 b4 fun k => ?_)
    constructor
    · intro hk
      rcases List.mem_cons.1 ((h k).1 (by simp [hk])) with e | e
      · subst e; exact absurd hk a3
      · exact e
    · intro hk
      rcases List.mem_cons.1 ((h k).2 (by simp [hk])) with e | e
      · subst e; exact absurd hk b3
      · exact e
theorem places_nodup (q : List TItem) (vs : List ByteArray) : (placesS q vs).Nodup := (addPs_ok q vs [] (by simp) (by simp)).1
theorem vars_turn (q : List TItem) (a b : TExpr) : varsS q [a, b] = varsS q [b, a] := by
  unfold varsS
  refine rise_eq (sortI_sorted _) (sortI_sorted _) ((sortI_perm _).nodup_iff.2 (places_nodup _ _)) ((sortI_perm _).nodup_iff.2 (places_nodup _ _)) fun k => ?_
  rw [(sortI_perm _).mem_iff, (sortI_perm _).mem_iff, mem_places, mem_places]
  simp only [eachVs, List.append_nil, List.mem_append]
  constructor
  · rintro ⟨h, v, h1 | h1, h2⟩
    · exact ⟨h, v, .inr h1, h2⟩
    · exact ⟨h, v, .inl h1, h2⟩
  · rintro ⟨h, v, h1 | h1, h2⟩
    · exact ⟨h, v, .inr h1, h2⟩
    · exact ⟨h, v, .inl h1, h2⟩
theorem vars_fold (q : List TItem) (a b : TExpr) : varsS q [foldX a, foldX b] = varsS q [a, b] := by
  unfold varsS
  simp only [eachVs, fold_each]
def okKind (l : List TSchema) (q : List TItem) (p : TPred) : Prop := ¬ (kindS l q p.L = 0 ∨ kindS l q p.L ≠ kindS l q p.R ∨ (kindS l q p.L = 3 ∧ 2 < p.cmp))
def okNot (q : List TItem) (p : TPred) : Prop := ¬ (1 < (varsS q [p.L, p.R]).length ∧ ((varsS q [p.L, p.R]).dropLast.any (notAt q)) = true)
theorem kindsR_none (l : List TSchema) (q : List TItem) : ∀ (ps : List TPred) (i : Nat), kindsR l q i ps = none ↔ ∀ p ∈ ps, okKind l q p
  | [], i => by simp [kindsR]
  | p :: ps, i => by
    unfold kindsR
    have ih := kindsR_none l q ps (i + 1)
    split
    · rename_i h
      simp only [reduceCtorEq, List.mem_cons, forall_eq_or_imp, false_iff, not_and]
      exact fun h2 => absurd h h2
    · rename_i h
      rw [ih]
      simp only [List.mem_cons, forall_eq_or_imp]
      exact ⟨fun h2 => ⟨h, h2⟩, fun h2 => h2.2⟩
theorem notsR_none (q : List TItem) : ∀ (ps : List TPred) (i : Nat), notsR q i ps = none ↔ ∀ p ∈ ps, okNot q p
  | [], i => by simp [notsR]
  | p :: ps, i => by
    unfold notsR
    have ih := notsR_none q ps (i + 1)
    split
    · rename_i h
      simp only [reduceCtorEq, List.mem_cons, forall_eq_or_imp, false_iff, not_and]
      exact fun h2 => absurd h h2
    · rename_i h
      rw [ih]
      simp only [List.mem_cons, forall_eq_or_imp]
      exact ⟨fun h2 => ⟨h, h2⟩, fun h2 => h2.2⟩
theorem okKind_norm {l : List TSchema} {q : List TItem} {p : TPred} (h : okKind l q p) : okKind l q (normP p) := by
  unfold okKind at h ⊢
  simp only [not_or, not_and, Decidable.not_not] at h ⊢
  obtain ⟨h1, h2, h3⟩ := h
  unfold normP
  split
  · rename_i h5
    simp only [fold_kind]
    exact ⟨by rw [← h2]; exact h1, h2.symm, fun h => absurd (by omega) (h3 (by rw [h2]; exact h))⟩
  · simp only [fold_kind]
    exact ⟨h1, h2, h3⟩
theorem okNot_norm {q : List TItem} {p : TPred} (h : okNot q p) : okNot q (normP p) := by
  unfold okNot at h ⊢
  unfold normP
  split
  · simp only [vars_fold]
    rw [vars_turn q p.R p.L]
    exact h
  · simp only [vars_fold]
    exact h
theorem names_err (l : List TSchema) : ∀ (q : List TItem) (i : Nat) (p : Int × Int), namesR l i q = some p → p.2 ≠ 0
  | [], i, p, h => by simp [namesR] at h
  | x :: q, i, p, h => by
    unfold namesR at h
    split at h
    · exact names_err l q _ p h
    · cases h; simp
theorem byL_err (l : List TSchema) (f : ByteArray) (k : Int) : ∀ (q : List TItem) (i : Nat) (p : Int × Int), byL l f k i q = some p → p.2 ≠ 0
  | [], i, p, h => by simp [byL] at h
  | x :: q, i, p, h => by
    unfold byL at h
    split at h
    · cases h; simp
    · exact byL_err l f k q _ p h
theorem kinds_err (l : List TSchema) (q : List TItem) : ∀ (ps : List TPred) (i : Nat) (p : Int × Int), kindsR l q i ps = some p → p.2 ≠ 0
  | [], i, p, h => by simp [kindsR] at h
  | x :: ps, i, p, h => by
    unfold kindsR at h
    split at h
    · cases h; simp
    · exact kinds_err l q ps _ p h
theorem nots_err (q : List TItem) : ∀ (ps : List TPred) (i : Nat) (p : Int × Int), notsR q i ps = some p → p.2 ≠ 0
  | [], i, p, h => by simp [notsR] at h
  | x :: ps, i, p, h => by
    unfold notsR at h
    split at h
    · cases h; simp
    · exact nots_err q ps _ p h
theorem firstE_zero : ∀ {l : List (Option (Int × Int))}, (∀ o ∈ l, ∀ p, o = some p → p.2 ≠ 0) → (firstE l).1 = 0 → ∀ o ∈ l, o = none
  | [], _, _ => by simp
  | none :: l, h, h0 => by
    intro o ho
    rcases List.mem_cons.1 ho with rfl | ho
    · rfl
    · exact firstE_zero (l := l) (fun o ho => h o (List.mem_cons_of_mem _ ho)) h0 o ho
  | some (i, e) :: l, h, h0 => absurd h0 (h (some (i, e)) (List.mem_cons_self ..) (i, e) rfl)
theorem firstE_nones : ∀ {l : List (Option (Int × Int))}, (∀ o ∈ l, o = none) → (firstE l).1 = 0
  | [], _ => rfl
  | o :: l, h => by
    rw [h o (List.mem_cons_self ..)]
    exact firstE_nones (l := l) fun o ho => h o (List.mem_cons_of_mem _ ho)
theorem byR_err (l : List TSchema) (f : ByteArray) (q : List TItem) (p : Int × Int) (h : byR l f q = some p) : p.2 ≠ 0 := by
  unfold byR at h
  split at h
  · cases h
  · exact byL_err _ _ _ _ _ p h
theorem check_norm {l : List TSchema} {q : TQuery} (hq : rightP q = true) (h : (checkR l q).1 = 0) : (checkR l (normQ q)).1 = 0 := by
  have hn : rightP (normQ q) = true := by
    rw [normQ_right hq]
    obtain ⟨a1, a2, a3, a4, a5, a6, a7, a8, a9, a10⟩ := right_parts hq
    refine right_of hq rfl rfl rfl rfl ?_ ?_
    · refine List.all_eq_true.2 fun x hx => ?_
      obtain ⟨p, hp, rfl⟩ := normL_mem hx
      exact (predX_norm (List.all_eq_true.1 a2 p hp)).1
    · have := normL_length q.items.l (textS q) q.preds.l
      simp only
      omega
  unfold checkR at h ⊢
  rw [if_pos hq] at h
  rw [if_pos hn]
  have hs := firstE_zero (fun o ho p e => by
    simp only [List.mem_cons, List.not_mem_nil, or_false] at ho
    rcases ho with rfl | rfl | rfl | rfl
    · exact names_err _ _ _ p e
    · exact byR_err _ _ _ p e
    · exact kinds_err _ _ _ _ p e
    · exact nots_err _ _ _ p e) h
  have h1 := hs _ (List.mem_cons_self ..)
  have h2 := hs (byR l q.by_ q.items.l) (by simp)
  have h3 := (kindsR_none _ _ _ _).1 (hs (kindsR l q.items.l 0 q.preds.l) (by simp))
  have h4 := (notsR_none _ _ _).1 (hs (notsR q.items.l 0 q.preds.l) (by simp))
  rw [normQ_right hq]
  refine firstE_nones fun o ho => ?_
  simp only [List.mem_cons, List.not_mem_nil, or_false] at ho
  rcases ho with rfl | rfl | rfl | rfl
  · exact h1
  · exact h2
  · refine (kindsR_none _ _ _ _).2 fun p hp => ?_
    obtain ⟨p', hp', rfl⟩ := normL_mem hp
    exact okKind_norm (h3 p' hp')
  · refine (notsR_none _ _ _).2 fun p hp => ?_
    obtain ⟨p', hp', rfl⟩ := normL_mem hp
    exact okNot_norm (h4 p' hp')
end Go.Proofs.YthdkeggdipogoaaGreatDoor.Tz
