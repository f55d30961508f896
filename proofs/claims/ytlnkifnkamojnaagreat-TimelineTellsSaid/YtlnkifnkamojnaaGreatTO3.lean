/-
internal/bytealg.CompareString as an oracle: what the model's own entry says. Conditions: none.
-/
import Derived.Test.YtlnkifnkamojnaaGreatGO
import Derived.Lib.Bytealg
import Derived.Lib.IndexMore
namespace Go.Aug
open Go.RowKit
abbrev cmpB (a b : ByteArray) : Int := Lib.compareBytes a.data.toList b.data.toList
def orcCmpS : List D → Heap → Option (D × Heap)
  | [.v (.string a), .v (.string b)], H => some (.v (.int .i64 (cmpB a b)), H)
  | _, _ => none
theorem arr_two {a : Array Value} (h : a.size = 2) : a = #[gv a 0, gv a 1] := by
  apply Array.ext
  · simpa using h
  · intro i h1 h2
    have : i = 0 ∨ i = 1 := by simp at h2; omega
    rcases this with rfl | rfl <;> simp [gv, h1]
theorem cmpS_ok {P : Program} {f : FuncId} (enter : ∀ args W, (callFunc f args).run P W = .ok (.enter f args) W) (calls : ∀ (a b : ByteArray) (W : World), Calls P f #[.string a, .string b] W fun e w' => e = .returned (.int .i64 (cmpB a b)) ∧ w' = W) : OrcOk P f orcCmpS := by
  intro args H r H' hg ρ Im w vs hs hr
  unfold orcCmpS at hg
  split at hg
  · rename_i a b
    simp only [Option.some.injEq, Prod.mk.injEq] at hg
    obtain ⟨rfl, rfl⟩ := hg
    obtain ⟨hl, hrel⟩ := hr
    have h0 := (hrel 0 _ rfl).v_inv
    have h1 := (hrel 1 _ rfl).v_inv
    rw [arr_two (a := vs) (by simpa using hl.symm), h0, h1]
    refine .inl ⟨enter _ w, fun n => (callsIn_wide.2 (calls a b w)).mono ?_⟩
    rintro e w' ⟨rfl, rfl⟩
    exact ⟨_, ρ, Im, rfl, Post.refl hs, .v _⟩
  · cases hg
def orcContains : List D → Heap → Option (D × Heap)
  | [.v (.string a), .v (.string b)], H => if a.size < 4294967281 then some (.v (.bool (Lib.contains a.data.toList b.data.toList)), H) else none
  | _, _ => none
theorem contains_ok {P : Program} {f g : Nat} (hG : (P.globals[g]?.any fun gl => gl.name == "internal/bytealg.MaxLen") = true) (enter : ∀ args W, (callFunc f args).run P W = .ok (.enter f args) W)
    (calls : ∀ (s sub : ByteArray) (m : Int) (W : World), s.size < 4294967281 → W.cell? ⟨g, 0, none⟩ = some (.int .i64 m) → Calls P f #[.string s, .string sub] W fun e w' => e = .returned (.bool (Lib.contains s.data.toList sub.data.toList)) ∧ w' = W) : OrcOk P f orcContains := by
  obtain ⟨gl, hg, hn⟩ : ∃ gl, P.globals[g]? = some gl ∧ gl.name = "internal/bytealg.MaxLen" := by
    cases h : P.globals[g]? with
    | none => rw [h] at hG; cases hG
    | some gl => rw [h] at hG; exact ⟨gl, rfl, by simpa using hG⟩
  intro args H r H' hgo ρ Im w vs hs hr
  unfold orcContains at hgo
  split at hgo
  · rename_i a b
    split at hgo
    · rename_i hsz
      simp only [Option.some.injEq, Prod.mk.injEq] at hgo
      obtain ⟨rfl, rfl⟩ := hgo
      obtain ⟨hl, hrel⟩ := hr
      have h0 := (hrel 0 _ rfl).v_inv
      have h1 := (hrel 1 _ rfl).v_inv
      obtain ⟨-, cs, e, f', c1, c3⟩ := hs.glob g gl hg (by unfold globNeed; rw [hn]; rfl)
      rw [if_pos hn] at c3
      obtain ⟨m, c2⟩ := c3
      have hm : w.cell? ⟨g, 0, none⟩ = some (.int .i64 m) := by simp [World.cell?, c1, c2]
      rw [arr_two (a := vs) (by simpa using hl.symm), h0, h1]
      refine .inl ⟨enter _ w, fun n => (callsIn_wide.2 (calls a b m w hsz hm)).mono ?_⟩
      rintro e w' ⟨rfl, rfl⟩
      exact ⟨_, ρ, Im, rfl, Post.refl hs, .v _⟩
    · cases hgo
  · cases hgo
end Go.Aug
