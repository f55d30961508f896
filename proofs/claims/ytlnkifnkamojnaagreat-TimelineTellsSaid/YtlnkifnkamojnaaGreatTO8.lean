/-
errors.As as an oracle: into a pointer of the error's own kind, and into an error number behind one Unwrap. Conditions: the two contracts.
-/
import Derived.Test.YtlnkifnkamojnaaGreatTO3
namespace Go.Aug
open Go.RowKit
variable {P : Program} {ρ : Ren} {Im : Nat → Prop} {H : Heap} {w w' : World}
def allocs (w : World) (xs : List Obj) : World := xs.foldl World.alloc w
theorem Post.setCell {r b off : Nat} {l : List D} {d : D} {v : Value} (h : Sim P ρ Im H w) (hg : H.get r = some (.cells l)) (hb : ρ r = some b) (ho : off < l.length) (hd : Rel ρ Im w d v) (h1 : v.oneCell' = true) :
    Post P ρ Im H w ρ Im (H.set r (.cells (l.set off d))) (w.setCell ⟨b, off, none⟩ v) := by
  obtain ⟨cs, te, hblk, hl, hone, hr⟩ := h.cells hg hb
  have hheap : (w.setCell ⟨b, off, none⟩ v).heap[b]? = some (.cells (cs.setIfInBounds off v) te (0, 0)) := by
    simp [World.setCell, Array.getElem?_modify, hblk]
  have hgv : ∀ i, gv (cs.setIfInBounds off v) i = if i = off then v else gv cs i := by
    intro i
    unfold gv
    by_cases hi : i = off
    · subst hi
      simp [Array.getElem?_setIfInBounds_self_of_lt (show i < cs.size by omega)]
    · rw [Array.getElem?_setIfInBounds_ne (fun e => hi e.symm)]
      simp [hi]
  refine Post.set h hg hb (x := .cells (cs.setIfInBounds off v) te (0, 0)) (.cells (by simp; omega) (fun i hi => ?_) (fun i d' hd' => ?_)) hheap (fun k hk => ?_) (by simp [World.setCell]) (fun cs0 e0 f0 h0 => ?_) ⟨rfl, rfl, rfl⟩
  · rw [hgv]
    split
    · exact h1
    · exact hone i (by simpa using hi)
  · rw [hgv]
    by_cases hi : i = off
    · subst hi
      rw [List.getElem?_set_self ho] at hd'
      cases hd'
      rw [if_pos rfl]
      exact hd
    · rw [List.getElem?_set_ne (fun e => hi e.symm)] at hd'
      rw [if_neg hi]
      exact hr i d' hd'
  · simp [World.setCell, Array.getElem?_modify, Ne.symm hk]
  · rw [hblk] at h0
    cases h0
    exact ⟨_, _, rfl, by simp⟩
structure AsOk (P : Program) (f g : Nat) (V : Value) (tW tPW tPE tE : TypeId) : Prop where
  enter : ∀ args W, (callFunc f args).run P W = .ok (.enter f args) W
  nil : ∀ (t : Value) (W : World), Calls P f #[.nilIface, t] W fun e w' => e = .returned (.bool false) ∧ w' = W
  hit : ∀ (e t : Addr) (old : Value) (W : World), W.cell? ⟨g, 0, none⟩ = some V → W.cell? t = some old → W.frozen? t = false →
    Calls P f #[.iface tW (.pointer (some e)), .iface tPW (.pointer (some t))] W fun ev w' => ev = .returned (.bool true) ∧ ∃ xs, w' = (allocs W xs).setCell t (.pointer (some e))
  unwrap : ∀ (eb eo : Nat) (n : Int) (t : Addr) (old : Value) (W : World), W.cell? ⟨eb, eo + 1, none⟩ = some (.iface tE (.int .i64 n)) → W.cell? ⟨g, 0, none⟩ = some V → W.cell? t = some old → W.frozen? t = false →
    Calls P f #[.iface tW (.pointer (some ⟨eb, eo, none⟩)), .iface tPE (.pointer (some t))] W fun ev w' => ev = .returned (.bool true) ∧ ∃ xs, w' = (allocs W xs).setCell t (.int .i64 n)
end Go.Aug
