/-
Right expressions of one text are the same; so are right predicates. Conditions: none; definitions and plain lemmas.
-/
import Derived.Test.YtmfhanoibbmnlaaGreatDoorTSc
namespace Go.Aug.Api
open Go.Aug
def isAdd (x : TExpr) : Prop := x.kind = 7 ∨ x.kind = 8
instance (x : TExpr) : Decidable (isAdd x) := by unfold isAdd; infer_instance
def spine : TExpr → TExpr × List (Int × TExpr)
  | .mk k v var f rep [a, b] => if k = 7 ∨ k = 8 then ((spine a).1, (spine a).2 ++ [(k, b)]) else (.mk k v var f rep [a, b], [])
  | x => (x, [])
def opL (k : Int) : UInt8 := if k = 7 then 43 else 45
def wL (x : TExpr) : List UInt8 := (writtenS x).data.toList
def secL (b : TExpr) : List UInt8 := if 7 ≤ b.kind then 40 :: (wL b ++ [41]) else wL b
def segL : List (Int × TExpr) → List UInt8
  | [] => []
  | p :: l => 32 :: opL p.1 :: 32 :: (secL p.2 ++ segL l)
theorem segL_append : ∀ a b : List (Int × TExpr), segL (a ++ b) = segL a ++ segL b
  | [], _ => rfl
  | p :: a, b => by simp [segL, segL_append a b]
theorem right_zero (x : TExpr) : rightX ((0 : Nat) : Int) x = false := by
  obtain ⟨k, v, var, f, rep, kids⟩ := x
  simp [rightX]
theorem add_parts {x : TExpr} {n : Nat} (h : rightX n x = true) (ha : isAdd x) : ∃ k rep a b m, x = .mk k zVal emptyS emptyS rep [a, b] ∧ (k = 7 ∨ k = 8) ∧ n = m + 1 ∧ rightX m a = true ∧ rightX m b = true := by
  obtain ⟨k, v, var, f, rep, kids⟩ := x
  have k7 : k = 7 ∨ k = 8 := ha
  unfold rightX at h
  by_cases m0 : (n : Int) = 0
  · rw [if_pos m0] at h; cases h
  have k1 : ¬ k = 1 := by omega
  have k3 : ¬ k = 3 := by omega
  have k26 : ¬ (2 ≤ k ∧ k ≤ 6) := by omega
  rw [if_neg m0, if_neg k1, if_neg k3, if_neg k26, if_pos k7] at h
  simp only [Bool.and_eq_true, decide_eq_true_eq] at h
  obtain ⟨⟨⟨rfl, rfl⟩, rfl⟩, h⟩ := h
  obtain ⟨m, rfl⟩ : ∃ m, n = m + 1 := ⟨n - 1, by omega⟩
  have hm : ((m + 1 : Nat) : Int) - 1 = (m : Nat) := by omega
  rw [hm] at h
  match kids, h with
  | [a, b], h =>
    simp only [rightTwoX, Bool.and_eq_true] at h
    exact ⟨k, rep, a, b, m, rfl, k7, rfl, h.1, h.2⟩
  | [], h => cases h
  | [_], h => cases h
  | _ :: _ :: _ :: _, h => cases h
theorem kind_right {x : TExpr} {n : Nat} (h : rightX n x = true) : 7 ≤ x.kind ↔ isAdd x := by
  obtain ⟨k, v, var, f, rep, kids⟩ := x
  constructor
  · intro h7
    by_cases ha : k = 7 ∨ k = 8
    · exact ha
    · exfalso
      have h7 : 7 ≤ k := h7
      unfold rightX at h
      by_cases m0 : (n : Int) = 0
      · rw [if_pos m0] at h; cases h
      have k1 : ¬ k = 1 := by omega
      have k3 : ¬ k = 3 := by omega
      have k26 : ¬ (2 ≤ k ∧ k ≤ 6) := by omega
      rw [if_neg m0, if_neg k1, if_neg k3, if_neg k26, if_neg ha] at h
      cases h
  · intro ha
    have : k = 7 ∨ k = 8 := ha
    show 7 ≤ k
    omega
theorem wL_add (k : Int) (rep : Option (Option Nat)) (a b : TExpr) (hk : k = 7 ∨ k = 8) : wL (.mk k zVal emptyS emptyS rep [a, b]) = wL a ++ (32 :: opL k :: 32 :: secL b) := by
  have k1 : ¬ k = 1 := by omega
  have k2 : ¬ k = 2 := by omega
  have k3 : ¬ k = 3 := by omega
  unfold wL secL
  rw [writtenS, if_neg k1, if_neg k2, if_neg k3, if_pos hk, writtenTwo]
  rcases hk with rfl | rfl
  · by_cases h : 7 ≤ b.kind <;> simp [h, opL, wL]
  · by_cases h : 7 ≤ b.kind <;> simp [h, opL, wL]
theorem spine_add (k : Int) (rep : Option (Option Nat)) (a b : TExpr) (hk : k = 7 ∨ k = 8) : spine (.mk k zVal emptyS emptyS rep [a, b]) = ((spine a).1, (spine a).2 ++ [(k, b)]) := by
  rw [spine, if_pos hk]
theorem spine_not (x : TExpr) (h : ¬ isAdd x) : spine x = (x, []) := by
  obtain ⟨k, v, var, f, rep, kids⟩ := x
  have hk : ¬ (k = 7 ∨ k = 8) := h
  match kids with
  | [a, b] => rw [spine, if_neg hk]
  | [] => rfl
  | [_] => rfl
  | _ :: _ :: _ :: _ => rfl
theorem spine_right : ∀ (n : Nat) (x : TExpr), rightX n x = true → wL x = wL (spine x).1 ++ segL (spine x).2 ∧ (rightX n (spine x).1 = true ∨ ∃ m, m < n ∧ rightX m (spine x).1 = true) ∧ ¬ isAdd (spine x).1 ∧ ∀ p ∈ (spine x).2, (p.1 = 7 ∨ p.1 = 8) ∧ ∃ m, m < n ∧ rightX m p.2 = true
  | 0, x, h => by
    rw [right_zero] at h
    cases h
  | n + 1, x, h => by
    by_cases ha : isAdd x
    · obtain ⟨k, rep, a, b, m, rfl, hk, hm, h1, h2⟩ := add_parts h ha
      obtain rfl : m = n := by omega
      obtain ⟨i1, i2, i3, i4⟩ := spine_right m a h1
      rw [spine_add k rep a b hk, wL_add k rep a b hk]
      refine ⟨?_, ?_, i3, ?_⟩
      · rw [i1, segL_append]
        simp [segL]
      · rcases i2 with i2 | ⟨j, hj, i2⟩
        · exact .inr ⟨m, by omega, i2⟩
        · exact .inr ⟨j, by omega, i2⟩
      · intro p hp
        rcases List.mem_append.1 hp with hp | hp
        · obtain ⟨j1, j, j2, j3⟩ := i4 p hp
          exact ⟨j1, j, by omega, j3⟩
        · rw [List.mem_singleton.1 hp]
          exact ⟨hk, m, by omega, h2⟩
    · rw [spine_not x ha]
      exact ⟨by simp [segL], .inl h, ha, fun p hp => by simp at hp⟩
def sameSegs : List (Int × TExpr) → List (Int × TExpr) → Prop
  | [], [] => True
  | p :: l, q :: m => p.1 = q.1 ∧ sameX p.2 q.2 = true ∧ sameSegs l m
  | _, _ => False
theorem sameSegs_snoc : ∀ (a b : List (Int × TExpr)) (p q : Int × TExpr), sameSegs (a ++ [p]) (b ++ [q]) → sameSegs a b ∧ p.1 = q.1 ∧ sameX p.2 q.2 = true
  | [], [], p, q, h => ⟨trivial, h.1, h.2.1⟩
  | x :: a, y :: b, p, q, h => by
    obtain ⟨h1, h2, h3⟩ := h
    obtain ⟨i1, i2, i3⟩ := sameSegs_snoc a b p q h3
    exact ⟨⟨h1, h2, i1⟩, i2, i3⟩
  | [], [y], p, q, h => by simp [sameSegs] at h
  | [], _ :: _ :: _, p, q, h => by simp [sameSegs] at h
  | [x], [], p, q, h => by simp [sameSegs] at h
  | _ :: _ :: _, [], p, q, h => by simp [sameSegs] at h
theorem spine_same : ∀ (n : Nat) (x y : TExpr) (m : Nat), rightX n x = true → rightX m y = true → sameX (spine x).1 (spine y).1 = true → sameSegs (spine x).2 (spine y).2 → sameX x y = true
  | 0, x, y, m, h, _, _, _ => by
    rw [right_zero] at h
    cases h
  | n + 1, x, y, m, hx, hy, h1, h2 => by
    by_cases ax : isAdd x
    · obtain ⟨k, rep, a, b, n', rfl, hk, hn, xa, xb⟩ := add_parts hx ax
      obtain rfl : n' = n := by omega
      rw [spine_add k rep a b hk] at h1 h2
      by_cases ay : isAdd y
      · obtain ⟨k', rep', a', b', m', rfl, hk', hm, ya, yb⟩ := add_parts hy ay
        rw [spine_add k' rep' a' b' hk'] at h1 h2
        obtain ⟨s1, s2, s3⟩ := sameSegs_snoc _ _ _ _ h2
        have := spine_same n' a a' m' xa ya h1 s1
        simp only at s2 s3
        subst s2
        simp [sameX, sameXs, this, s3]
      · rw [spine_not y ay] at h2
        exfalso
        cases h : (spine a).2 with
        | nil => rw [h] at h2; exact h2
        | cons p l => rw [h] at h2; exact h2
    · rw [spine_not x ax] at h1 h2
      by_cases ay : isAdd y
      · obtain ⟨k', rep', a', b', m', rfl, hk', hm, ya, yb⟩ := add_parts hy ay
        rw [spine_add k' rep' a' b' hk'] at h2
        exfalso
        cases h : (spine a').2 with
        | nil => rw [h] at h2; exact h2
        | cons p l => rw [h] at h2; exact h2
      · rw [spine_not y ay] at h1
        exact h1
def Stop (s : List UInt8) : Prop := s = [] ∨ (∃ t, s = 41 :: t) ∨ ∃ c t, s = 32 :: c :: t ∧ c ≠ 43 ∧ c ≠ 45
theorem Stop.weak {s : List UInt8} (h : Stop s) : Weak s := by
  rcases h with rfl | ⟨t, rfl⟩ | ⟨c, t, rfl, -, -⟩
  · exact .inl rfl
  · exact .inr ⟨41, t, rfl, .inl rfl⟩
  · exact .inr ⟨32, _, rfl, .inr rfl⟩
theorem seg_weak {l : List (Int × TExpr)} {s : List UInt8} (h : Weak s) : Weak (segL l ++ s) := by
  cases l with
  | nil => exact h
  | cons p l => exact .inr ⟨32, _, rfl, .inr rfl⟩
theorem opL_inj {k k' : Int} (h : k = 7 ∨ k = 8) (h' : k' = 7 ∨ k' = 8) (e : opL k = opL k') : k = k' := by
  rcases h with rfl | rfl <;> rcases h' with rfl | rfl <;> first | rfl | (exfalso; revert e; decide)
theorem opL_sign {k : Int} (h : k = 7 ∨ k = 8) : opL k = 43 ∨ opL k = 45 := by
  rcases h with rfl | rfl
  · exact .inl rfl
  · exact .inr rfl
theorem term_first {x : TExpr} {n : Nat} (h : rightX n x = true) (h7 : ¬ isAdd x) : ∃ c r, wL x = c :: r ∧ c ≠ 40 := by
  have hc := cls_of h h7
  have ok := shape_ok hc
  have e : wL x = (shapeX x).text := shape_text x h7
  cases hs : shapeX x with
  | num n =>
    obtain ⟨-, c, r, h1, h2⟩ := itoa_chars n
    refine ⟨c, r, by rw [e, hs]; exact h1, fun e => ?_⟩
    rw [e] at h2
    revert h2; decide
  | txt s => exact ⟨39, _, by rw [e, hs]; rfl, by decide⟩
  | word w r =>
    rw [hs] at ok
    obtain ⟨-, ⟨c, r', rfl, h1, h2⟩, -⟩ := ok
    refine ⟨c, _, by rw [e, hs]; rfl, fun e => ?_⟩
    rw [e] at h1
    revert h1; decide
theorem expr_unique : ∀ (N n m : Nat) (x y : TExpr) (s t : List UInt8), n ≤ N → m ≤ N → rightX n x = true → rightX m y = true → Stop s → Stop t → wL x ++ s = wL y ++ t → sameX x y = true ∧ s = t
  | 0, n, m, x, y, s, t, hn, _, hx, _, _, _, _ => by
    obtain rfl : n = 0 := by omega
    rw [right_zero] at hx
    cases hx
  | N + 1, n, m, x, y, s, t, hn, hm, hx, hy, hs, ht, h => by
    obtain ⟨x1, x2, x3, x4⟩ := spine_right n x hx
    obtain ⟨y1, y2, y3, y4⟩ := spine_right m y hy
    rw [x1, y1, List.append_assoc, List.append_assoc] at h
    obtain ⟨nx, hx2⟩ : ∃ n : Nat, rightX n (spine x).1 = true := by rcases x2 with h | ⟨j, -, h⟩; exact ⟨_, h⟩; exact ⟨_, h⟩
    obtain ⟨ny, hy2⟩ : ∃ n : Nat, rightX n (spine y).1 = true := by rcases y2 with h | ⟨j, -, h⟩; exact ⟨_, h⟩; exact ⟨_, h⟩
    obtain ⟨h1, h2⟩ := term_unique hx2 hy2 x3 y3 (seg_weak hs.weak) (seg_weak ht.weak) h
    have segs : ∀ (l l' : List (Int × TExpr)), (∀ p ∈ l, (p.1 = 7 ∨ p.1 = 8) ∧ ∃ m, m ≤ N ∧ rightX m p.2 = true) → (∀ p ∈ l', (p.1 = 7 ∨ p.1 = 8) ∧ ∃ m, m ≤ N ∧ rightX m p.2 = true) → segL l ++ s = segL l' ++ t → sameSegs l l' ∧ s = t := by
      intro l
      induction l with
      | nil =>
        intro l' _ hl' e
        cases l' with
        | nil => exact ⟨trivial, e⟩
        | cons q l' =>
          exfalso
          simp only [segL, List.nil_append, List.cons_append] at e
          rcases hs with rfl | ⟨u, rfl⟩ | ⟨c, u, rfl, c1, c2⟩
          · cases e
          · simp at e
          · simp at e
            rcases opL_sign (hl' q (by simp)).1 with o | o
            · exact c1 (e.1.trans o)
            · exact c2 (e.1.trans o)
      | cons p l ih =>
        intro l' hl hl' e
        cases l' with
        | nil =>
          exfalso
          simp only [segL, List.nil_append, List.cons_append] at e
          rcases ht with rfl | ⟨u, rfl⟩ | ⟨c, u, rfl, c1, c2⟩
          · cases e
          · simp at e
          · simp at e
            rcases opL_sign (hl p (by simp)).1 with o | o
            · exact c1 (e.1.symm.trans o)
            · exact c2 (e.1.symm.trans o)
        | cons q l' =>
          obtain ⟨p1, mp, p2, p3⟩ := hl p (by simp)
          obtain ⟨q1, mq, q2, q3⟩ := hl' q (by simp)
          simp only [segL, List.cons_append, List.cons.injEq, true_and, List.append_assoc] at e
          obtain ⟨e1, e2⟩ := e
          have ek := opL_inj p1 q1 e1
          have rest : sameX p.2 q.2 = true ∧ segL l ++ s = segL l' ++ t := by
            unfold secL at e2
            by_cases ap : isAdd p.2
            · by_cases aq : isAdd q.2
              · rw [if_pos ((kind_right p3).2 ap), if_pos ((kind_right q3).2 aq)] at e2
                simp only [List.cons_append, List.cons.injEq, true_and, List.append_assoc, List.nil_append] at e2
                obtain ⟨i1, i2⟩ := expr_unique N mp mq p.2 q.2 (41 :: (segL l ++ s)) (41 :: (segL l' ++ t)) p2 q2 p3 q3 (.inr (.inl ⟨_, rfl⟩)) (.inr (.inl ⟨_, rfl⟩)) e2
                simp at i2
                exact ⟨i1, i2⟩
              · exfalso
                rw [if_pos ((kind_right p3).2 ap), if_neg (fun h => aq ((kind_right q3).1 h))] at e2
                obtain ⟨c, r, hc, hc4⟩ := term_first q3 aq
                rw [hc] at e2
                simp at e2
                exact hc4 e2.1.symm
            · by_cases aq : isAdd q.2
              · exfalso
                rw [if_neg (fun h => ap ((kind_right p3).1 h)), if_pos ((kind_right q3).2 aq)] at e2
                obtain ⟨c, r, hc, hc4⟩ := term_first p3 ap
                rw [hc] at e2
                simp at e2
                exact hc4 e2.1
              · rw [if_neg (fun h => ap ((kind_right p3).1 h)), if_neg (fun h => aq ((kind_right q3).1 h))] at e2
                exact term_unique p3 q3 ap aq (seg_weak hs.weak) (seg_weak ht.weak) e2
          obtain ⟨i1, i2⟩ := ih l' (fun p hp => hl p (List.mem_cons_of_mem _ hp)) (fun p hp => hl' p (List.mem_cons_of_mem _ hp)) rest.2
          exact ⟨⟨ek, rest.1, i1⟩, i2⟩
    obtain ⟨h3, h4⟩ := segs (spine x).2 (spine y).2 (fun p hp => ⟨(x4 p hp).1, by obtain ⟨j, j1, j2⟩ := (x4 p hp).2; exact ⟨j, by omega, j2⟩⟩) (fun p hp => ⟨(y4 p hp).1, by obtain ⟨j, j1, j2⟩ := (y4 p hp).2; exact ⟨j, by omega, j2⟩⟩) h2
    exact ⟨spine_same n x y m hx hy h1 h3, h4⟩
theorem pred_unique {a b : TPred} (ha : predX a = true) (hb : predX b = true) (h : predS a = predS b) : sameP a b = true := by
  unfold predX at ha hb
  simp only [Bool.and_eq_true, decide_eq_true_eq] at ha hb
  have e := congrArg (fun b : ByteArray => b.data.toList) h
  unfold predS at e
  simp only [ByteArray.data_append, Array.toList_append, List.append_assoc] at e
  have six : ∀ c : Int, 1 ≤ c ∧ c ≤ 6 → c = 1 ∨ c = 2 ∨ c = 3 ∨ c = 4 ∨ c = 5 ∨ c = 6 := fun c h => by omega
  have first : ∀ c : Int, 1 ≤ c ∧ c ≤ 6 → ∀ r, Stop ([32] ++ ((signS c).data.toList ++ r)) := fun c hc r => by
    rcases six c hc with rfl | rfl | rfl | rfl | rfl | rfl
    · exact .inr (.inr ⟨61, r, rfl, by decide, by decide⟩)
    · exact .inr (.inr ⟨33, 61 :: r, rfl, by decide, by decide⟩)
    · exact .inr (.inr ⟨60, r, rfl, by decide, by decide⟩)
    · exact .inr (.inr ⟨60, 61 :: r, rfl, by decide, by decide⟩)
    · exact .inr (.inr ⟨62, r, rfl, by decide, by decide⟩)
    · exact .inr (.inr ⟨62, 61 :: r, rfl, by decide, by decide⟩)
  have hl := expr_unique 6 6 6 a.L b.L _ _ (Nat.le_refl _) (Nat.le_refl _) ha.1.2 hb.1.2 (first a.cmp ⟨ha.1.1.1, ha.1.1.2⟩ _) (first b.cmp ⟨hb.1.1.1, hb.1.1.2⟩ _) e
  obtain ⟨l1, l2⟩ := hl
  have hc : a.cmp = b.cmp ∧ wL a.R = wL b.R := by
    rcases six a.cmp ⟨ha.1.1.1, ha.1.1.2⟩ with h1 | h1 | h1 | h1 | h1 | h1 <;> rcases six b.cmp ⟨hb.1.1.1, hb.1.1.2⟩ with h2 | h2 | h2 | h2 | h2 | h2 <;> rw [h1, h2] at l2 ⊢ <;> simp [signS, wL] at l2 ⊢ <;> exact l2
  have hr := expr_unique 6 6 6 a.R b.R [] [] (Nat.le_refl _) (Nat.le_refl _) ha.2 hb.2 (.inl rfl) (.inl rfl) (by rw [hc.2])
  simp [sameP, hc.1, l1, hr.1]
end Go.Aug.Api
