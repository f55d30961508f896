/-
What came in, as the program's kinds of data. Conditions: none.
-/
import Derived.Test.YtlnkifnkamojnaaGreatGL
import Derived.Test.YtlnkifnkamojnaaGreatTX0
namespace Go.Proofs.YtlnkifnkamojnaaGreat.Tz
open Go.Aug Go.Aug.Api
set_option maxRecDepth 100000
abbrev Gd (n : Nat) (t : TypeId) (x : List D) : Prop := Aug.Good Tryz.prog n t x
theorem k_int {n : Nat} {x : List D} (h : Gd n 3 x) : ∃ a, x = intC a := by
  cases n with
  | zero => exact h.elim
  | succ n =>
    rw [Gd, good_int Tryz.underlying3] at h
    obtain ⟨m, rfl, -⟩ := h
    exact ⟨m, rfl⟩
theorem k_int64 {n : Nat} {x : List D} (h : Gd n 2 x) : ∃ a, x = intC a := by
  cases n with
  | zero => exact h.elim
  | succ n =>
    rw [Gd, good_int Tryz.underlying2] at h
    obtain ⟨m, rfl, -⟩ := h
    exact ⟨m, rfl⟩
theorem k_bool {n : Nat} {x : List D} (h : Gd n 4 x) : ∃ b, x = [bD b] := by
  cases n with
  | zero => exact h.elim
  | succ n =>
    rw [Gd, good_bool Tryz.underlying4] at h
    exact h
theorem k_str' {n : Nat} {x : List D} (h : Gd n 9 x) : ∃ s, x = strC s ∧ s.size ≤ big := by
  cases n with
  | zero => exact h.elim
  | succ n =>
    rw [Gd, good_string Tryz.underlying9] at h
    obtain ⟨s, rfl, hs⟩ := h
    have : maxLen = 9223372036854775807 := by decide
    exact ⟨s, rfl, by show s.size ≤ 9223372036854775807; omega⟩
theorem k_sl' {n : Nat} {t e : TypeId} {ds : List D} {α : Type} {c : α → List D} {p : α → Prop} (hu : Tryz.prog.underlying t = some (.slice e)) (hc : ∀ n x, Gd n e x → ∃ a, x = c a ∧ p a) (h : Gd n t ds) : ∃ x : Sl α, ds = [x.enc c] ∧ ∀ a ∈ x.l, p a := by
  cases n with
  | zero => exact h.elim
  | succ n =>
    obtain ⟨x, hx⟩ := good_sl (c := fun a : {a : α // p a} => c a.1) hu (fun y hy => by
      obtain ⟨a, h1, h2⟩ := hc n y hy
      exact ⟨⟨a, h2⟩, h1⟩) h
    refine ⟨⟨x.rep, x.l.map (·.1), by simpa using x.ok⟩, ?_, fun a ha => ?_⟩
    · rw [hx]
      simp [Sl.enc, List.flatMap, Function.comp_def]
    · obtain ⟨y, -, rfl⟩ := List.mem_map.1 ha
      exact y.2
theorem k_sl {n : Nat} {t e : TypeId} {ds : List D} {α : Type} {c : α → List D} (hu : Tryz.prog.underlying t = some (.slice e)) (hc : ∀ n x, Gd n e x → ∃ a, x = c a) (h : Gd n t ds) : ∃ x : Sl α, ds = [x.enc c] := by
  cases n with
  | zero => exact h.elim
  | succ n => exact good_sl hu (hc n) h
theorem k_val' {n : Nat} {x : List D} (h : Gd n 72 x) : ∃ v, x = valC v ∧ v.s.size ≤ big := by
  cases n with
  | zero => exact h.elim
  | succ n =>
    rw [Gd, good_struct Tryz.underlying72] at h
    simp only [fieldsG] at h
    obtain ⟨a1, r1, rfl, -, h1, a2, r2, rfl, -, h2, a3, r3, rfl, -, h3, rfl⟩ := h
    obtain ⟨k, rfl⟩ := k_int h1
    obtain ⟨m, rfl⟩ := k_int64 h2
    obtain ⟨s, rfl, hs⟩ := k_str' h3
    exact ⟨⟨k, m, s⟩, rfl, hs⟩
theorem k_item {n : Nat} {x : List D} (h : Gd n 69 x) : ∃ v, x = itemC v := by
  cases n with
  | zero => exact h.elim
  | succ n =>
    rw [Gd, good_struct Tryz.underlying69] at h
    simp only [fieldsG] at h
    obtain ⟨a1, r1, rfl, -, h1, a2, r2, rfl, -, h2, a3, r3, rfl, -, h3, a4, r4, rfl, -, h4, rfl⟩ := h
    obtain ⟨b, rfl⟩ := k_bool h1
    obtain ⟨l, rfl, hl⟩ := k_sl' Tryz.underlying67 (fun _ _ => k_str') h2
    obtain ⟨s, rfl, hs⟩ := k_str' h3
    obtain ⟨k, rfl⟩ := k_int h4
    exact ⟨⟨b, l, s, k, hl, hs⟩, rfl⟩
theorem okEs_of : ∀ {l : List TExpr}, (∀ x ∈ l, okE x) → okEs l
  | [], _ => trivial
  | x :: _l, h => ⟨h x (List.mem_cons_self ..), okEs_of fun y hy => h y (List.mem_cons_of_mem _ hy)⟩
theorem k_expr : ∀ (n : Nat) (x : List D), Gd n 75 x → ∃ e, x = exprC e ∧ okE e
  | 0, x, h => h.elim
  | 1, x, h => by
    rw [Gd, good_struct Tryz.underlying75] at h
    simp only [fieldsG] at h
    obtain ⟨a1, r1, rfl, -, h1, -⟩ := h
    exact h1.elim
  | n + 2, x, h => by
    rw [Gd, good_struct Tryz.underlying75] at h
    simp only [fieldsG] at h
    obtain ⟨a1, r1, rfl, -, h1, a2, r2, rfl, -, h2, a3, r3, rfl, -, h3, a4, r4, rfl, -, h4, a5, r5, rfl, -, h5, rfl⟩ := h
    obtain ⟨k, rfl⟩ := k_int h1
    obtain ⟨v, rfl, hv⟩ := k_val' h2
    obtain ⟨s, rfl, hs⟩ := k_str' h3
    obtain ⟨f, rfl, hf⟩ := k_str' h4
    rw [good_slice Tryz.underlying73] at h5
    obtain ⟨rep, l, rfl, hl, hx⟩ := h5
    obtain ⟨es, rfl⟩ := good_map (c := fun e : {e : TExpr // okE e} => exprC e.1) fun y hy => by
      obtain ⟨e, h1, h2⟩ := k_expr n y (hx y hy).2
      exact ⟨⟨e, h2⟩, h1⟩
    refine ⟨.mk k v s f rep (es.map (·.1)), ?_, ?_, okEs_of fun x hx => ?_, hs, hf, hv⟩
    · rw [exprC_mk]
      simp [intC, valC, strC, List.flatMap]
    · have : maxLen = 9223372036854775807 := by decide
      simp at hl
      show (es.map (·.1)).length ≤ 9223372036854775807
      simp
      omega
    · obtain ⟨e, -, rfl⟩ := List.mem_map.1 hx
      exact e.2
theorem k_pred {n : Nat} {x : List D} (h : Gd n 77 x) : ∃ v, x = predC v := by
  cases n with
  | zero => exact h.elim
  | succ n =>
    rw [Gd, good_struct Tryz.underlying77] at h
    simp only [fieldsG] at h
    obtain ⟨a1, r1, rfl, -, h1, a2, r2, rfl, -, h2, a3, r3, rfl, -, h3, rfl⟩ := h
    obtain ⟨k, rfl⟩ := k_int h1
    obtain ⟨e1, rfl, o1⟩ := k_expr _ _ h2
    obtain ⟨e2, rfl, o2⟩ := k_expr _ _ h3
    exact ⟨⟨k, e1, e2, o1, o2⟩, by simp [predC, intC]⟩
theorem k_query {n : Nat} {x : List D} (h : Gd n 26 x) : ∃ v, x = queryC v := by
  cases n with
  | zero => exact h.elim
  | succ n =>
    rw [Gd, good_struct Tryz.underlying26] at h
    simp only [fieldsG] at h
    obtain ⟨a1, r1, rfl, -, h1, a2, r2, rfl, -, h2, a3, r3, rfl, -, h3, a4, r4, rfl, -, h4, a5, r5, rfl, -, h5, rfl⟩ := h
    obtain ⟨l1, rfl⟩ := k_sl Tryz.underlying23 (fun _ _ => k_item) h1
    obtain ⟨l2, rfl⟩ := k_sl Tryz.underlying24 (fun _ _ => k_pred) h2
    obtain ⟨w, rfl⟩ := k_int64 h3
    obtain ⟨s, rfl, hs⟩ := k_str' h4
    obtain ⟨p, rfl⟩ := k_int h5
    exact ⟨⟨l1, l2, w, s, p, hs⟩, rfl⟩
def kindsAll : List TypeId := [2, 3, 4, 5, 9, 23, 24, 26, 43, 44, 52, 55, 57, 63, 65, 67, 69, 72, 73, 75, 77, 90, 135]
variable {W : World} {H : Type} {enc : TypeId × Value → H} {d : DataW H} {p : List MemPlace} {v : Value}
end Go.Proofs.YtlnkifnkamojnaaGreat.Tz
