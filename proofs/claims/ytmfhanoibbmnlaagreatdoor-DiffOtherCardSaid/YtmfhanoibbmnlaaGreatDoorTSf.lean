/-
Of predicates whose normal texts are the same ones, in any order, the normal forms are the same. Conditions: none; plain lemmas.
-/
import Derived.Test.YtmfhanoibbmnlaaGreatDoorTSe
namespace Go.Aug.Api
open Go.Aug
mutual
theorem sameX_each : ∀ x y : TExpr, sameX x y = true → eachV x = eachV y
  | .mk k v var f rep kids, .mk k' v' var' f' rep' kids', h => by
    simp only [sameX, Bool.and_eq_true, decide_eq_true_eq] at h
    obtain ⟨⟨⟨⟨⟨rfl, rfl⟩, rfl⟩, rfl⟩, hl⟩, hk⟩ := h
    have := sameXs_each kids kids' hl hk
    simp only [eachV, this]
theorem sameXs_each : ∀ l m : List TExpr, l.length = m.length → sameXs l m = true → eachVs l = eachVs m
  | [], [], _, _ => rfl
  | a :: l, b :: m, hl, h => by
    simp only [sameXs, Bool.and_eq_true] at h
    simp only [eachVs, sameX_each a b h.1, sameXs_each l m (by simpa using hl) h.2]
  | [], _ :: _, h, _ => by simp at h
  | _ :: _, [], h, _ => by simp at h
end
theorem same_place (q : List TItem) {a b : TPred} (h : sameP a b = true) : placeN q a = placeN q b := by
  simp only [sameP, Bool.and_eq_true] at h
  unfold placeN varsS
  simp only [eachVs, sameX_each _ _ h.1.2, sameX_each _ _ h.2]
theorem onceN_has {l : List TKeyed} {k : TKeyed} (h : k ∈ l) : ∃ x ∈ onceN l, x.text = k.text := by
  have add : ∀ (a : List TKeyed) (x : TKeyed), (∃ y ∈ addN a x, y.text = x.text) ∧ ∀ y ∈ a, y ∈ addN a x := fun a x => by
    unfold addN
    split
    · rename_i h
      obtain ⟨y, h1, h2⟩ := List.any_eq_true.1 h
      exact ⟨⟨y, h1, by simpa using h2⟩, fun y hy => hy⟩
    · exact ⟨⟨x, by simp, rfl⟩, fun y hy => by simp [hy]⟩
  have keep : ∀ (l a : List TKeyed), ∀ y ∈ a, y ∈ l.foldl addN a := by
    intro l
    induction l with
    | nil => intro a y hy; exact hy
    | cons x l ih => intro a y hy; exact ih _ y ((add a x).2 y hy)
  have : ∀ (l a : List TKeyed), k ∈ l → ∃ x ∈ l.foldl addN a, x.text = k.text := by
    intro l
    induction l with
    | nil => intro a h; simp at h
    | cons x l ih =>
      intro a h
      rcases List.mem_cons.1 h with rfl | h
      · obtain ⟨y, h1, h2⟩ := (add a k).1
        exact ⟨y, keep l _ y h1, h2⟩
      · exact ih _ h
  exact this l [] h
def sameT : List TKeyed → List TKeyed → Prop
  | [], [] => True
  | a :: l, b :: m => a.text = b.text ∧ sameT l m
  | _, _ => False
theorem sorted_unique : ∀ (A B : List TKeyed), A.Pairwise (fun a b => ltK b a = false ∧ a.text ≠ b.text) → B.Pairwise (fun a b => ltK b a = false ∧ a.text ≠ b.text) → (∀ a ∈ A, ∃ b ∈ B, a.text = b.text) → (∀ b ∈ B, ∃ a ∈ A, b.text = a.text) → (∀ a ∈ A, ∀ b ∈ B, a.text = b.text → a.place = b.place) → sameT A B
  | [], [], _, _, _, _, _ => trivial
  | [], b :: B, _, _, _, h, _ => by
    obtain ⟨a, ha, -⟩ := h b (by simp)
    simp at ha
  | a :: A, [], _, _, h, _, _ => by
    obtain ⟨b, hb, -⟩ := h a (by simp)
    simp at hb
  | a :: A, b :: B, hA, hB, h1, h2, hp => by
    obtain ⟨a1, a2⟩ := List.pairwise_cons.1 hA
    obtain ⟨b1, b2⟩ := List.pairwise_cons.1 hB
    have lt : ∀ x y x' y' : TKeyed, x.text = x'.text → x.place = x'.place → y.text = y'.text → y.place = y'.place → ltK x y = ltK x' y' := fun x y x' y' e1 e2 e3 e4 => by
      unfold ltK
      rw [e1, e2, e3, e4]
    have hab : a.text = b.text := by
      by_cases e : a.text = b.text
      · exact e
      · exfalso
        obtain ⟨y, hy, ey⟩ := h1 a (by simp)
        obtain ⟨x, hx, ex⟩ := h2 b (by simp)
        have hyB : y ∈ B := by
          rcases List.mem_cons.1 hy with rfl | hy
          · exact absurd ey e
          · exact hy
        have hxA : x ∈ A := by
          rcases List.mem_cons.1 hx with rfl | hx
          · exact absurd ex.symm e
          · exact hx
        have py := hp a (by simp) y hy ey
        have px := hp x hx b (by simp) ex.symm
        have l1 : ltK a b = false := by
          rw [lt a b y b ey py rfl rfl]
          exact (b1 y hyB).1
        have l2 : ltK b a = false := by
          rw [lt b a x a ex px.symm rfl rfl]
          exact (a1 x hxA).1
        exact e (ltK_eq l1 l2).2
    refine ⟨hab, sorted_unique A B a2 b2 (fun x hx => ?_) (fun y hy => ?_) fun x hx y hy => hp x (by simp [hx]) y (by simp [hy])⟩
    · obtain ⟨y, hy, ey⟩ := h1 x (by simp [hx])
      rcases List.mem_cons.1 hy with rfl | hy
      · exact absurd (hab.trans ey.symm) (a1 x hx).2
      · exact ⟨y, hy, ey⟩
    · obtain ⟨x, hx, ex⟩ := h2 y (by simp [hy])
      rcases List.mem_cons.1 hx with rfl | hx
      · exact absurd (hab.symm.trans ex.symm) (b1 y hy).2
      · exact ⟨x, hx, ex⟩
theorem sameT_length : ∀ {A B : List TKeyed}, sameT A B → A.length = B.length
  | [], [], _ => rfl
  | a :: A, b :: B, h => by simp [sameT_length h.2]
  | [], _ :: _, h => h.elim
  | _ :: _, [], h => h.elim
theorem sameT_preds : ∀ {A B : List TKeyed}, sameT A B → (∀ a ∈ A, ∀ b ∈ B, a.text = b.text → sameP a.pred b.pred = true) → samePs (A.map (·.pred)) (B.map (·.pred)) = true
  | [], [], _, _ => rfl
  | a :: A, b :: B, h, hp => by
    simp only [List.map_cons, samePs, Bool.and_eq_true]
    exact ⟨hp a (by simp) b (by simp) h.1, sameT_preds h.2 fun x hx y hy => hp x (by simp [hx]) y (by simp [hy])⟩
  | [], _ :: _, h, _ => h.elim
  | _ :: _, [], h, _ => h.elim
theorem normL_same {q : List TItem} {tx : TPred → ByteArray} {ps ps' : List TPred} (hx : ∀ p ∈ ps, predX p = true) (hx' : ∀ p ∈ ps', predX p = true) (h1 : ∀ p ∈ ps, ∃ p' ∈ ps', normP p = normP p') (h2 : ∀ p ∈ ps', ∃ p' ∈ ps, normP p = normP p')
    (htx : ∀ a b, predX a = true → predX b = true → tx a = tx b → sameP a b = true) : (normL q tx ps).length = (normL q tx ps').length ∧ samePs (normL q tx ps) (normL q tx ps') = true := by
  have mem : ∀ {ps : List TPred} {k : TKeyed}, k ∈ sortN (onceN (ps.map (keyN q tx))) → ∃ p ∈ ps, k = keyN q tx p := fun {ps k} h => by
    obtain ⟨p, hp, e⟩ := List.mem_map.1 (onceN_mem ((sortN_perm _).mem_iff.1 h))
    exact ⟨p, hp, e.symm⟩
  have has : ∀ {ps : List TPred} {p : TPred}, p ∈ ps → ∃ k ∈ sortN (onceN (ps.map (keyN q tx))), k.text = tx (normP p) := fun {ps p} h => by
    obtain ⟨k, h1, h2⟩ := onceN_has (List.mem_map.2 ⟨p, h, rfl⟩ : keyN q tx p ∈ ps.map (keyN q tx))
    exact ⟨k, (sortN_perm _).mem_iff.2 h1, h2⟩
  have sp : ∀ {ps ps' : List TPred}, (∀ p ∈ ps, predX p = true) → (∀ p ∈ ps', predX p = true) → ∀ a ∈ sortN (onceN (ps.map (keyN q tx))), ∀ b ∈ sortN (onceN (ps'.map (keyN q tx))), a.text = b.text → sameP a.pred b.pred = true := fun {ps ps'} hx hx' a ha b hb e => by
    obtain ⟨p, hp, rfl⟩ := mem ha
    obtain ⟨p', hp', rfl⟩ := mem hb
    exact htx _ _ (predX_norm (hx p hp)).1 (predX_norm (hx' p' hp')).1 e
  have half : ∀ {ps ps' : List TPred}, (∀ p ∈ ps, ∃ p' ∈ ps', normP p = normP p') → ∀ a ∈ sortN (onceN (ps.map (keyN q tx))), ∃ b ∈ sortN (onceN (ps'.map (keyN q tx))), a.text = b.text := fun {ps ps'} h1 a ha => by
    obtain ⟨p, hp, rfl⟩ := mem ha
    obtain ⟨p', hp', e⟩ := h1 p hp
    obtain ⟨k, hk, ek⟩ := has hp'
    refine ⟨k, hk, ?_⟩
    rw [ek, ← e]
    rfl
  have hs := sorted_unique (sortN (onceN (ps.map (keyN q tx)))) (sortN (onceN (ps'.map (keyN q tx)))) ((sortN_rises _).and (sorted_apart _)) ((sortN_rises _).and (sorted_apart _)) (half h1) (half h2) fun a ha b hb e => by
    have := sp hx hx' a ha b hb e
    obtain ⟨p, hp, rfl⟩ := mem ha
    obtain ⟨p', hp', rfl⟩ := mem hb
    exact same_place q this
  refine ⟨?_, sameT_preds hs (sp hx hx')⟩
  unfold normL
  rw [List.length_map, List.length_map]
  exact sameT_length hs
end Go.Aug.Api
