/-
Right expressions of one text are the same; so are right predicates. Conditions: none; definitions and plain lemmas.
-/
import Derived.Test.YtmfhanoibbmnlaaGreatDoorTSh
namespace Go.Aug.Api
open Go.Aug
def valD (l : List UInt8) : Nat := l.foldl (fun a c => 10 * a + (c.toNat - 48)) 0
theorem valD_snoc (l : List UInt8) (c : UInt8) : valD (l ++ [c]) = 10 * valD l + (c.toNat - 48) := by simp [valD]
theorem ofNat_digit {u : Nat} (h : u < 10) : (UInt8.ofNat (48 + u)).toNat = 48 + u := by
  rw [UInt8.toNat_ofNat']
  omega
theorem digits_ok : ∀ u : Nat, valD (Lib.decDigits u) = u ∧ (∀ c ∈ Lib.decDigits u, 48 ≤ c.toNat ∧ c.toNat ≤ 57) ∧ Lib.decDigits u ≠ [] := by
  intro u
  induction u using Nat.strongRecOn with
  | _ u ih =>
    by_cases h : u < 10
    · rw [Lib.decDigits, dif_pos h]
      have := ofNat_digit h
      refine ⟨?_, ?_, by simp⟩
      · show 10 * 0 + ((UInt8.ofNat (48 + u)).toNat - 48) = u
        rw [this]
        omega
      · intro c hc
        rw [List.mem_singleton.1 hc, this]
        omega
    · rw [Lib.decDigits, dif_neg h]
      obtain ⟨h1, h2, h3⟩ := ih (u / 10) (by omega)
      have hm : u % 10 < 10 := Nat.mod_lt _ (by decide)
      have := ofNat_digit hm
      refine ⟨?_, ?_, by simp⟩
      · rw [valD_snoc, h1, this]; omega
      · intro c hc
        rcases List.mem_append.1 hc with hc | hc
        · exact h2 c hc
        · rw [List.mem_singleton.1 hc, this]; omega
theorem digits_inj {u v : Nat} (h : Lib.decDigits u = Lib.decDigits v) : u = v := by
  have := (digits_ok u).1
  rw [h, (digits_ok v).1] at this
  exact this.symm
theorem itoa_inj {n m : Int} (h : Lib.itoa n = Lib.itoa m) : n = m := by
  have no : ∀ u l, (45 : UInt8) :: l ≠ Lib.decDigits u := fun u l e => by
    have := (digits_ok u).2.1 45 (by rw [← e]; simp)
    have h45 : (45 : UInt8).toNat = 45 := rfl
    omega
  unfold Lib.itoa at h
  split at h <;> split at h
  · have := digits_inj (List.cons.inj h).2
    omega
  · exact absurd h (no _ _)
  · exact absurd h.symm (no _ _)
  · have := digits_inj h
    omega
def isW (c : UInt8) : Bool := okB false (c.toNat : Int)
def isN (c : UInt8) : Bool := decide (c.toNat = 45) || (decide (48 ≤ c.toNat) && decide (c.toNat ≤ 57))
def Ends (P : UInt8 → Bool) (s : List UInt8) : Prop := s = [] ∨ ∃ c r, s = c :: r ∧ P c = false
theorem span_unique (P : UInt8 → Bool) : ∀ (a b s t : List UInt8), (∀ c ∈ a, P c = true) → (∀ c ∈ b, P c = true) → Ends P s → Ends P t → a ++ s = b ++ t → a = b ∧ s = t
  | [], [], s, t, _, _, _, _, h => ⟨rfl, h⟩
  | [], y :: b, s, t, _, hb, hs, _, h => by
    rcases hs with rfl | ⟨c, r, rfl, hc⟩
    · simp at h
    · simp at h
      rw [h.1, hb y (by simp)] at hc
      cases hc
  | x :: a, [], s, t, ha, _, _, ht, h => by
    rcases ht with rfl | ⟨c, r, rfl, hc⟩
    · simp at h
    · simp at h
      rw [← h.1, ha x (by simp)] at hc
      cases hc
  | x :: a, y :: b, s, t, ha, hb, hs, ht, h => by
    simp only [List.cons_append, List.cons.injEq] at h
    obtain ⟨h1, h2⟩ := span_unique P a b s t (fun c hc => ha c (List.mem_cons_of_mem _ hc)) (fun c hc => hb c (List.mem_cons_of_mem _ hc)) hs ht h.2
    exact ⟨by rw [h.1, h1], h2⟩
theorem word_chars {f : Bool} : ∀ {l : List UInt8}, wordL f l = true → ∀ c ∈ l, isW c = true
  | [], _, c, hc => by simp at hc
  | b :: l, h, c, hc => by
    simp only [wordL, Bool.and_eq_true] at h
    rcases List.mem_cons.1 hc with rfl | hc
    · have := h.1
      unfold okB at this
      unfold isW okB
      cases f <;> simp_all
    · exact word_chars h.2 c hc
theorem name_parts {s : ByteArray} (h : nameS s = true) : (∀ c ∈ s.data.toList, isW c = true) ∧ (∃ c r, s.data.toList = c :: r ∧ 97 ≤ c.toNat ∧ c.toNat ≤ 122) ∧ keyS s = false := by
  unfold nameS wordS at h
  simp only [Bool.and_eq_true, decide_eq_true_eq, Bool.not_eq_true'] at h
  obtain ⟨⟨⟨h1, h2⟩, h3⟩, h4⟩ := h
  refine ⟨word_chars h1, ?_, h4⟩
  cases hl : s.data.toList with
  | nil =>
    have := size_list s
    rw [hl] at this
    simp only [List.length_nil] at this
    omega
  | cons c r =>
    rw [hl] at h1
    simp only [wordL, Bool.and_eq_true] at h1
    have := h1.1
    unfold okB at this
    simp at this
    exact ⟨c, r, rfl, by omega, by omega⟩
theorem bytes_eq {a b : ByteArray} (h : a.data.toList = b.data.toList) : a = b := by
  obtain ⟨⟨a⟩⟩ := a
  obtain ⟨⟨b⟩⟩ := b
  simp at h
  rw [h]
inductive Shape where
  | num (n : Int)
  | txt (s : List UInt8)
  | word (w rest : List UInt8)
def Shape.text : Shape → List UInt8
  | .num n => Lib.itoa n
  | .txt s => 39 :: (s ++ [39])
  | .word w rest => w ++ rest
def trueL : List UInt8 := [116, 114, 117, 101]
def falseL : List UInt8 := [102, 97, 108, 115, 101]
def countL : List UInt8 := [99, 111, 117, 110, 116]
def shapeX : TExpr → Shape
  | .mk k v var f _ _ =>
    if k = 1 then (if v.kind = 1 then .num v.n else if v.kind = 2 then .txt v.s.data.toList else .word (if v.n = 1 then trueL else falseL) [])
    else if k = 2 then .word var.data.toList (46 :: f.data.toList)
    else if k = 3 then .word countL (40 :: (var.data.toList ++ [41]))
    else .word (foldW k).data.toList (40 :: (var.data.toList ++ 46 :: (f.data.toList ++ [41])))
theorem shape_text (x : TExpr) (h : ¬ (x.kind = 7 ∨ x.kind = 8)) : (writtenS x).data.toList = (shapeX x).text := by
  obtain ⟨k, v, var, f, rep, kids⟩ := x
  simp only [TExpr.kind] at h
  unfold writtenS shapeX
  by_cases k1 : k = 1
  · simp only [if_pos k1]
    unfold valW
    by_cases v1 : v.kind = 1
    · simp [v1, Shape.text]
    · by_cases v2 : v.kind = 2
      · simp [v2, Shape.text]
      · by_cases n1 : v.n = 1 <;> simp [v1, v2, n1, Shape.text, trueL, falseL]
  · by_cases k2 : k = 2
    · simp [k2, Shape.text]
    · by_cases k3 : k = 3
      · simp [k3, Shape.text, countL]
      · simp [k1, k2, k3, h, Shape.text]
def Weak (s : List UInt8) : Prop := s = [] ∨ ∃ c r, s = c :: r ∧ (c = 41 ∨ c = 32)
theorem Weak.ends {s : List UInt8} (h : Weak s) : Ends isW s ∧ Ends isN s := by
  rcases h with rfl | ⟨c, r, rfl, hc⟩
  · exact ⟨.inl rfl, .inl rfl⟩
  · rcases hc with rfl | rfl
    · exact ⟨.inr ⟨_, _, rfl, by decide⟩, .inr ⟨_, _, rfl, by decide⟩⟩
    · exact ⟨.inr ⟨_, _, rfl, by decide⟩, .inr ⟨_, _, rfl, by decide⟩⟩
def shapeOk : Shape → Prop
  | .num _ => True
  | .txt s => plainL s = true
  | .word w rest => (∀ c ∈ w, isW c = true) ∧ (∃ c r, w = c :: r ∧ 97 ≤ c.toNat ∧ c.toNat ≤ 122) ∧ ∀ s, Weak s → Ends isW (rest ++ s)
theorem plain_no39 : ∀ {l : List UInt8}, plainL l = true → ∀ c ∈ l, decide (c ≠ 39) = true
  | [], _, c, hc => by simp at hc
  | b :: l, h, c, hc => by
    simp only [plainL, Bool.and_eq_true] at h
    rcases List.mem_cons.1 hc with rfl | hc
    · have := h.1
      simp at this
      simp
      intro e
      subst e
      exact this.2 rfl
    · exact plain_no39 h.2 c hc
theorem itoa_chars (n : Int) : (∀ c ∈ Lib.itoa n, isN c = true) ∧ ∃ c r, Lib.itoa n = c :: r ∧ (c.toNat = 45 ∨ (48 ≤ c.toNat ∧ c.toNat ≤ 57)) := by
  have hd : ∀ u, ∀ c ∈ Lib.decDigits u, isN c = true := fun u c hc => by
    have := (digits_ok u).2.1 c hc
    simp [isN]
    omega
  unfold Lib.itoa
  split
  · refine ⟨fun c hc => ?_, 45, _, rfl, .inl rfl⟩
    rcases List.mem_cons.1 hc with rfl | hc
    · rfl
    · exact hd _ c hc
  · refine ⟨hd _, ?_⟩
    cases h : Lib.decDigits n.toNat with
    | nil => exact absurd h (digits_ok n.toNat).2.2
    | cons c r => exact ⟨c, r, rfl, .inr ((digits_ok n.toNat).2.1 c (by rw [h]; simp))⟩
theorem shape_unique {a b : Shape} {s t : List UInt8} (ha : shapeOk a) (hb : shapeOk b) (hs : Weak s) (ht : Weak t) (h : a.text ++ s = b.text ++ t) :
    (∃ n, a = .num n ∧ b = .num n ∧ s = t) ∨ (∃ l, a = .txt l ∧ b = .txt l ∧ s = t) ∨ ∃ w r r', a = .word w r ∧ b = .word w r' ∧ r ++ s = r' ++ t := by
  obtain ⟨s1, s2⟩ := hs.ends
  obtain ⟨t1, t2⟩ := ht.ends
  have nw : ∀ {n : Int} {w r x y : List UInt8}, (∃ c r, w = c :: r ∧ 97 ≤ c.toNat ∧ c.toNat ≤ 122) → Lib.itoa n ++ x = (w ++ r) ++ y → False := by
    rintro n w r x y ⟨c, r1, rfl, h1, h2⟩ e
    obtain ⟨-, d, r2, hd, h3⟩ := itoa_chars n
    rw [hd] at e
    simp at e
    rw [e.1] at h3
    omega
  have nt : ∀ {n : Int} {l x y : List UInt8}, Lib.itoa n ++ x = 39 :: (l ++ [39]) ++ y → False := by
    intro n l x y e
    obtain ⟨-, d, r2, hd, h3⟩ := itoa_chars n
    rw [hd] at e
    simp at e
    have : d.toNat = 39 := by rw [e.1]; rfl
    omega
  have tw : ∀ {l w r x y : List UInt8}, (∃ c r, w = c :: r ∧ 97 ≤ c.toNat ∧ c.toNat ≤ 122) → 39 :: (l ++ [39]) ++ x = (w ++ r) ++ y → False := by
    rintro l w r x y ⟨c, r1, rfl, h1, h2⟩ e
    simp at e
    have : c.toNat = 39 := by rw [← e.1]; rfl
    omega
  match a, b, ha, hb, h with
  | .num n, .num m, _, _, h =>
    obtain ⟨h1, h2⟩ := span_unique isN _ _ s t (itoa_chars n).1 (itoa_chars m).1 s2 t2 h
    exact .inl ⟨n, rfl, by rw [itoa_inj h1], h2⟩
  | .txt l, .txt m, ha, hb, h =>
    simp only [Shape.text, List.cons_append, List.cons.injEq, true_and, List.append_assoc] at h
    obtain ⟨h1, h2⟩ := span_unique (fun c => decide (c ≠ 39)) l m ([39] ++ s) ([39] ++ t) (plain_no39 ha) (plain_no39 hb) (.inr ⟨39, s, rfl, by decide⟩) (.inr ⟨39, t, rfl, by decide⟩) h
    subst h1
    simp at h2
    exact .inr (.inl ⟨l, rfl, rfl, h2⟩)
  | .word w r, .word w' r', ⟨a1, a2, a3⟩, ⟨b1, b2, b3⟩, h =>
    simp only [Shape.text, List.append_assoc] at h
    obtain ⟨h1, h2⟩ := span_unique isW w w' (r ++ s) (r' ++ t) a1 b1 (a3 s hs) (b3 t ht) h
    subst h1
    exact .inr (.inr ⟨w, r, r', rfl, rfl, h2⟩)
  | .num n, .word w r, _, ⟨_, b2, _⟩, h => exact (nw b2 h).elim
  | .word w r, .num n, ⟨_, a2, _⟩, _, h => exact (nw a2 h.symm).elim
  | .num n, .txt l, _, _, h => exact (nt h).elim
  | .txt l, .num n, _, _, h => exact (nt h.symm).elim
  | .txt l, .word w r, _, ⟨_, b2, _⟩, h => exact (tw b2 h).elim
  | .word w r, .txt l, ⟨_, a2, _⟩, _, h => exact (tw a2 h.symm).elim
inductive Cls : TExpr → Prop where
  | num (n : Int) (rep : Option (Option Nat)) : Cls (.mk 1 ⟨1, n, emptyS⟩ emptyS emptyS rep [])
  | txt (s : ByteArray) (rep : Option (Option Nat)) (hp : plainL s.data.toList = true) : Cls (.mk 1 ⟨2, 0, s⟩ emptyS emptyS rep [])
  | boo (b : Int) (rep : Option (Option Nat)) (hb : b = 0 ∨ b = 1) : Cls (.mk 1 ⟨3, b, emptyS⟩ emptyS emptyS rep [])
  | fld (var f : ByteArray) (rep : Option (Option Nat)) (h1 : nameS var = true) (h2 : nameS f = true) : Cls (.mk 2 zVal var f rep [])
  | cnt (var : ByteArray) (rep : Option (Option Nat)) (h1 : nameS var = true) : Cls (.mk 3 zVal var emptyS rep [])
  | fol (k : Int) (var f : ByteArray) (rep : Option (Option Nat)) (hk : k = 4 ∨ k = 5 ∨ k = 6) (h1 : nameS var = true) (h2 : nameS f = true) : Cls (.mk k zVal var f rep [])
theorem cls_of {x : TExpr} {n : Nat} (h : rightX n x = true) (h7 : ¬ (x.kind = 7 ∨ x.kind = 8)) : Cls x := by
  obtain ⟨k, v, var, f, rep, kids⟩ := x
  simp only [TExpr.kind] at h7
  unfold rightX at h
  by_cases m0 : (n : Int) = 0
  · rw [if_pos m0] at h; cases h
  rw [if_neg m0] at h
  by_cases k1 : k = 1
  · rw [if_pos k1] at h
    simp only [Bool.and_eq_true, decide_eq_true_eq, List.isEmpty_iff] at h
    obtain ⟨⟨⟨⟨rfl, rfl⟩, rfl⟩, hv⟩, hp⟩ := h
    subst k1
    obtain ⟨vk, vn, vs⟩ := v
    unfold rightV at hv
    simp only at hv hp
    by_cases v1 : vk = 1
    · rw [if_pos v1] at hv
      simp only [Bool.and_eq_true, decide_eq_true_eq] at hv
      obtain ⟨-, rfl⟩ := hv
      subst v1
      exact .num vn rep
    · rw [if_neg v1] at hv
      by_cases v3 : vk = 3
      · rw [if_pos v3] at hv
        simp only [Bool.and_eq_true, decide_eq_true_eq] at hv
        obtain ⟨⟨h1, h2⟩, rfl⟩ := hv
        subst v3
        exact .boo vn rep (by omega)
      · rw [if_neg v3] at hv
        by_cases v2 : vk = 2
        · rw [if_pos v2] at hv
          simp only [Bool.and_eq_true, decide_eq_true_eq] at hv
          obtain ⟨rfl, -⟩ := hv
          subst v2
          exact .txt vs rep hp
        · rw [if_neg v2] at hv; cases hv
  · rw [if_neg k1] at h
    by_cases k3 : k = 3
    · rw [if_pos k3] at h
      simp only [Bool.and_eq_true, decide_eq_true_eq, List.isEmpty_iff] at h
      obtain ⟨⟨⟨rfl, rfl⟩, h1⟩, rfl⟩ := h
      subst k3
      exact .cnt var rep h1
    · rw [if_neg k3] at h
      by_cases k26 : 2 ≤ k ∧ k ≤ 6
      · rw [if_pos k26] at h
        simp only [Bool.and_eq_true, decide_eq_true_eq, List.isEmpty_iff] at h
        obtain ⟨⟨⟨rfl, rfl⟩, h1⟩, h2⟩ := h
        by_cases k2 : k = 2
        · subst k2
          exact .fld var f rep h1 h2
        · exact .fol k var f rep (by omega) h1 h2
      · rw [if_neg k26, if_neg h7] at h
        cases h
theorem weak_word {s : List UInt8} (h : Weak s) : Ends isW ([] ++ s) := by simpa using h.ends.1
theorem fold_shape {k : Int} (hk : k = 4 ∨ k = 5 ∨ k = 6) (var f : ByteArray) (rep : Option (Option Nat)) : shapeX (.mk k zVal var f rep []) = .word (foldW k).data.toList (40 :: (var.data.toList ++ 46 :: (f.data.toList ++ [41]))) := by
  rcases hk with rfl | rfl | rfl <;> simp [shapeX]
theorem shape_ok {x : TExpr} (h : Cls x) : shapeOk (shapeX x) := by
  have lit : ∀ (c : UInt8) (r : List UInt8), isW c = false → ∀ s, Weak s → Ends isW ((c :: r) ++ s) := fun c r hc s _ => .inr ⟨c, r ++ s, rfl, hc⟩
  cases h with
  | num n rep => simp [shapeX, shapeOk]
  | txt s rep hp => simpa [shapeX, shapeOk] using hp
  | boo b rep hb =>
    rcases hb with rfl | rfl
    · have e : shapeX (.mk 1 ⟨3, 0, emptyS⟩ emptyS emptyS rep []) = .word falseL [] := by simp [shapeX]
      rw [e]
      exact ⟨by decide, ⟨102, _, rfl, by decide⟩, fun s hs => weak_word hs⟩
    · have e : shapeX (.mk 1 ⟨3, 1, emptyS⟩ emptyS emptyS rep []) = .word trueL [] := by simp [shapeX]
      rw [e]
      exact ⟨by decide, ⟨116, _, rfl, by decide⟩, fun s hs => weak_word hs⟩
  | fld var f rep h1 h2 =>
    obtain ⟨a1, a2, a3⟩ := name_parts h1
    have e : shapeX (.mk 2 zVal var f rep []) = .word var.data.toList (46 :: f.data.toList) := by simp [shapeX]
    rw [e]
    exact ⟨a1, a2, lit 46 _ (by decide)⟩
  | cnt var rep h1 =>
    have e : shapeX (.mk 3 zVal var emptyS rep []) = .word countL (40 :: (var.data.toList ++ [41])) := by simp [shapeX]
    rw [e]
    exact ⟨by decide, ⟨99, _, rfl, by decide⟩, lit 40 _ (by decide)⟩
  | fol k var f rep hk h1 h2 =>
    rw [fold_shape hk]
    rcases hk with rfl | rfl | rfl
    · exact ⟨by decide, ⟨115, _, rfl, by decide⟩, lit 40 _ (by decide)⟩
    · exact ⟨by decide, ⟨109, _, rfl, by decide⟩, lit 40 _ (by decide)⟩
    · exact ⟨by decide, ⟨109, _, rfl, by decide⟩, lit 40 _ (by decide)⟩
theorem paren_split {a b s t : List UInt8} (ha : ∀ c ∈ a, isW c = true) (hb : ∀ c ∈ b, isW c = true) {x y : UInt8} (hx : isW x = false) (hy : isW y = false) (h : a ++ x :: s = b ++ y :: t) : a = b ∧ x = y ∧ s = t := by
  obtain ⟨h1, h2⟩ := span_unique isW a b (x :: s) (y :: t) ha hb (.inr ⟨_, _, rfl, hx⟩) (.inr ⟨_, _, rfl, hy⟩) h
  simp at h2
  exact ⟨h1, h2.1, h2.2⟩
def boolL (b : Int) : List UInt8 := if b = 1 then trueL else falseL
theorem key_not {s : ByteArray} (h : nameS s = true) (k : List UInt8) (hk : k = trueL ∨ k = falseL ∨ k = countL ∨ k = (foldW 4).data.toList ∨ k = (foldW 5).data.toList ∨ k = (foldW 6).data.toList) : s.data.toList ≠ k := by
  intro e
  have hn := (name_parts h).2.2
  unfold keyS at hn
  rw [List.any_eq_false] at hn
  have no : ∀ b ∈ keysL, b.data.toList = k → False := fun b hb e2 => by
    have := bytes_eq (e.trans e2.symm)
    exact hn b hb (by simp [this])
  rcases hk with rfl | rfl | rfl | rfl | rfl | rfl
  · exact no ⟨#[116, 114, 117, 101]⟩ (by simp [keysL]) rfl
  · exact no ⟨#[102, 97, 108, 115, 101]⟩ (by simp [keysL]) rfl
  · exact no ⟨#[99, 111, 117, 110, 116]⟩ (by simp [keysL]) rfl
  · exact no ⟨#[115, 117, 109]⟩ (by simp [keysL]) rfl
  · exact no ⟨#[109, 105, 110]⟩ (by simp [keysL]) rfl
  · exact no ⟨#[109, 97, 120]⟩ (by simp [keysL]) rfl
theorem same_mk (k : Int) (v : TVal) (var f : ByteArray) (rep rep' : Option (Option Nat)) : sameX (.mk k v var f rep []) (.mk k v var f rep' []) = true := by simp [sameX, sameXs]
theorem cls_unique {x y : TExpr} (hx : Cls x) (hy : Cls y) {s t : List UInt8} (hs : Weak s) (ht : Weak t)
    (hu : (∃ n, shapeX x = .num n ∧ shapeX y = .num n ∧ s = t) ∨ (∃ l, shapeX x = .txt l ∧ shapeX y = .txt l ∧ s = t) ∨ ∃ w r r', shapeX x = .word w r ∧ shapeX y = .word w r' ∧ r ++ s = r' ++ t) : sameX x y = true ∧ s = t := by
  have eNum : ∀ n rep, shapeX (.mk 1 ⟨1, n, emptyS⟩ emptyS emptyS rep []) = .num n := fun n rep => by simp [shapeX]
  have eTxt : ∀ s rep, shapeX (.mk 1 ⟨2, 0, s⟩ emptyS emptyS rep []) = .txt s.data.toList := fun s rep => by simp [shapeX]
  have eBoo : ∀ b rep, shapeX (.mk 1 ⟨3, b, emptyS⟩ emptyS emptyS rep []) = .word (boolL b) [] := fun b rep => by simp [shapeX, boolL]
  have eFld : ∀ var f rep, shapeX (.mk 2 zVal var f rep []) = .word var.data.toList (46 :: f.data.toList) := fun var f rep => by simp [shapeX]
  have eCnt : ∀ var rep, shapeX (.mk 3 zVal var emptyS rep []) = .word countL (40 :: (var.data.toList ++ [41])) := fun var rep => by simp [shapeX]
  have eFol := @fold_shape
  have kb : ∀ b : Int, boolL b = trueL ∨ boolL b = falseL ∨ boolL b = countL ∨ boolL b = (foldW 4).data.toList ∨ boolL b = (foldW 5).data.toList ∨ boolL b = (foldW 6).data.toList := fun b => by
    unfold boolL; split
    · exact .inl rfl
    · exact .inr (.inl rfl)
  have kf : ∀ k : Int, (k = 4 ∨ k = 5 ∨ k = 6) → (foldW k).data.toList = trueL ∨ (foldW k).data.toList = falseL ∨ (foldW k).data.toList = countL ∨ (foldW k).data.toList = (foldW 4).data.toList ∨ (foldW k).data.toList = (foldW 5).data.toList ∨ (foldW k).data.toList = (foldW 6).data.toList := fun k hk => by
    rcases hk with rfl | rfl | rfl
    · exact .inr (.inr (.inr (.inl rfl)))
    · exact .inr (.inr (.inr (.inr (.inl rfl))))
    · exact .inr (.inr (.inr (.inr (.inr rfl))))
  have kc : countL = trueL ∨ countL = falseL ∨ countL = countL ∨ countL = (foldW 4).data.toList ∨ countL = (foldW 5).data.toList ∨ countL = (foldW 6).data.toList := .inr (.inr (.inl rfl))
  have tail41 : isW 41 = false := by decide
  have tail46 : isW 46 = false := by decide
  rcases hu with ⟨n, ha, hb, e⟩ | ⟨l, ha, hb, e⟩ | ⟨w, r, r', ha, hb, e⟩
  · cases hx <;> (try simp only [eNum, eTxt, eBoo, eFld, eCnt] at ha) <;> (try rw [eFol (by assumption)] at ha) <;> cases ha
    cases hy <;> (try simp only [eNum, eTxt, eBoo, eFld, eCnt] at hb) <;> (try rw [eFol (by assumption)] at hb) <;> cases hb
    exact ⟨same_mk .., e⟩
  · cases hx <;> (try simp only [eNum, eTxt, eBoo, eFld, eCnt] at ha) <;> (try rw [eFol (by assumption)] at ha) <;> cases ha
    rename_i s1 rep1 hp1
    cases hy with
    | txt s2 rep2 hp2 =>
      rw [eTxt] at hb
      simp only [Shape.txt.injEq] at hb
      rw [bytes_eq hb]
      exact ⟨same_mk .., e⟩
    | num n rep => rw [eNum] at hb; cases hb
    | boo b rep h => rw [eBoo] at hb; cases hb
    | fld var f rep h1 h2 => rw [eFld] at hb; cases hb
    | cnt var rep h1 => rw [eCnt] at hb; cases hb
    | fol k var f rep hk h1 h2 => rw [eFol hk] at hb; cases hb
  · cases hx with
    | num n rep => rw [eNum] at ha; cases ha
    | txt s rep hp => rw [eTxt] at ha; cases ha
    | boo b rep h =>
      rw [eBoo] at ha
      simp only [Shape.word.injEq] at ha
      obtain ⟨rfl, rfl⟩ := ha
      cases hy with
      | num n rep => rw [eNum] at hb; cases hb
      | txt s rep hp => rw [eTxt] at hb; cases hb
      | boo b' rep' h' =>
        rw [eBoo] at hb
        simp only [Shape.word.injEq] at hb
        obtain ⟨hb, rfl⟩ := hb
        have : b = b' := by
          rcases h with rfl | rfl <;> rcases h' with rfl | rfl <;> first | rfl | (exfalso; revert hb; decide)
        subst this
        exact ⟨same_mk .., by simpa using e⟩
      | fld var f rep h1 h2 =>
        rw [eFld] at hb
        simp only [Shape.word.injEq] at hb
        exact absurd hb.1 (key_not h1 _ (kb b))
      | cnt var rep h1 =>
        rw [eCnt] at hb
        simp only [Shape.word.injEq] at hb
        rcases h with rfl | rfl <;> (exfalso; have := hb.1; revert this; decide)
      | fol k var f rep hk h1 h2 =>
        rw [eFol hk] at hb
        simp only [Shape.word.injEq] at hb
        rcases h with rfl | rfl <;> rcases hk with rfl | rfl | rfl <;> (exfalso; have := hb.1; revert this; decide)
    | fld var f rep h1 h2 =>
      rw [eFld] at ha
      simp only [Shape.word.injEq] at ha
      obtain ⟨rfl, rfl⟩ := ha
      cases hy with
      | num n rep => rw [eNum] at hb; cases hb
      | txt s rep hp => rw [eTxt] at hb; cases hb
      | boo b' rep' h' =>
        rw [eBoo] at hb
        simp only [Shape.word.injEq] at hb
        exact absurd hb.1.symm (key_not h1 _ (kb b'))
      | fld var' f' rep' h1' h2' =>
        rw [eFld] at hb
        simp only [Shape.word.injEq] at hb
        obtain ⟨hb, rfl⟩ := hb
        have hv := bytes_eq hb
        subst hv
        simp only [List.cons_append, List.cons.injEq, true_and] at e
        obtain ⟨hf, e⟩ := span_unique isW _ _ s t (name_parts h2).1 (name_parts h2').1 hs.ends.1 ht.ends.1 e
        rw [bytes_eq hf]
        exact ⟨same_mk .., e⟩
      | cnt var' rep' h1' =>
        rw [eCnt] at hb
        simp only [Shape.word.injEq] at hb
        exact absurd hb.1.symm (key_not h1 _ kc)
      | fol k var' f' rep' hk h1' h2' =>
        rw [eFol hk] at hb
        simp only [Shape.word.injEq] at hb
        exact absurd hb.1.symm (key_not h1 _ (kf k hk))
    | cnt var rep h1 =>
      rw [eCnt] at ha
      simp only [Shape.word.injEq] at ha
      obtain ⟨rfl, rfl⟩ := ha
      cases hy with
      | num n rep => rw [eNum] at hb; cases hb
      | txt s rep hp => rw [eTxt] at hb; cases hb
      | boo b' rep' h' =>
        rw [eBoo] at hb
        simp only [Shape.word.injEq] at hb
        rcases h' with rfl | rfl <;> (exfalso; have := hb.1; revert this; decide)
      | fld var' f' rep' h1' h2' =>
        rw [eFld] at hb
        simp only [Shape.word.injEq] at hb
        exact absurd hb.1 (key_not h1' _ kc)
      | cnt var' rep' h1' =>
        rw [eCnt] at hb
        simp only [Shape.word.injEq] at hb
        obtain ⟨-, rfl⟩ := hb
        simp only [List.cons_append, List.cons.injEq, true_and, List.append_assoc, List.nil_append] at e
        obtain ⟨hv, -, e⟩ := paren_split (name_parts h1).1 (name_parts h1').1 tail41 tail41 e
        rw [bytes_eq hv]
        exact ⟨same_mk .., e⟩
      | fol k var' f' rep' hk h1' h2' =>
        rw [eFol hk] at hb
        simp only [Shape.word.injEq] at hb
        rcases hk with rfl | rfl | rfl <;> (exfalso; have := hb.1; revert this; decide)
    | fol k var f rep hk h1 h2 =>
      rw [eFol hk] at ha
      simp only [Shape.word.injEq] at ha
      obtain ⟨rfl, rfl⟩ := ha
      cases hy with
      | num n rep => rw [eNum] at hb; cases hb
      | txt s rep hp => rw [eTxt] at hb; cases hb
      | boo b' rep' h' =>
        rw [eBoo] at hb
        simp only [Shape.word.injEq] at hb
        rcases h' with rfl | rfl <;> rcases hk with rfl | rfl | rfl <;> (exfalso; have := hb.1; revert this; decide)
      | fld var' f' rep' h1' h2' =>
        rw [eFld] at hb
        simp only [Shape.word.injEq] at hb
        exact absurd hb.1 (key_not h1' _ (kf k hk))
      | cnt var' rep' h1' =>
        rw [eCnt] at hb
        simp only [Shape.word.injEq] at hb
        rcases hk with rfl | rfl | rfl <;> (exfalso; have := hb.1; revert this; decide)
      | fol k' var' f' rep' hk' h1' h2' =>
        rw [eFol hk'] at hb
        simp only [Shape.word.injEq] at hb
        obtain ⟨hb, rfl⟩ := hb
        have : k = k' := by
          rcases hk with rfl | rfl | rfl <;> rcases hk' with rfl | rfl | rfl <;> first | rfl | (exfalso; revert hb; decide)
        subst this
        simp only [List.cons_append, List.cons.injEq, true_and, List.append_assoc, List.nil_append] at e
        obtain ⟨hv, -, e⟩ := paren_split (name_parts h1).1 (name_parts h1').1 tail46 tail46 e
        obtain ⟨hf, -, e⟩ := paren_split (name_parts h2).1 (name_parts h2').1 tail41 tail41 e
        rw [bytes_eq hv, bytes_eq hf]
        exact ⟨same_mk .., e⟩
theorem term_unique {x y : TExpr} {n m : Nat} (hx : rightX n x = true) (hy : rightX m y = true) (x7 : ¬ (x.kind = 7 ∨ x.kind = 8)) (y7 : ¬ (y.kind = 7 ∨ y.kind = 8)) {s t : List UInt8} (hs : Weak s) (ht : Weak t)
    (h : (writtenS x).data.toList ++ s = (writtenS y).data.toList ++ t) : sameX x y = true ∧ s = t := by
  have cx := cls_of hx x7
  have cy := cls_of hy y7
  rw [shape_text x x7, shape_text y y7] at h
  exact cls_unique cx cy hs ht (shape_unique (shape_ok cx) (shape_ok cy) hs ht h)
end Go.Aug.Api
