/-
tree.Print at this dump, by a walk of the model's code. Conditions: what is said of its callees.
-/
import Derived.Test.YtmfhanoibbmnlaaGreatDoorTOb
import Derived.Test.YtmfhanoibbmnlaaGreatDoorTX0
import Derived.BigCall
import Derived.Deep.RegionWith
namespace Go.Proofs.YtmfhanoibbmnlaaGreatDoor.Tz
open Go.RowKit Go.Aug Go.Proofs Go.Shelf
set_option maxRecDepth 100000
theorem builder_below {T e : TypeId} {B b : Nat} {p : Value} {bs : List Value} {w w' : World} (h : Lib.BuilderAt T e B b p bs w) (hb : Below w.heap.size w w') : Lib.BuilderAt T e B b p bs w' := by
  obtain ⟨hB, v, hbk, hown, hne⟩ := h
  refine ⟨hB, v, ?_, ?_, hne⟩
  · rw [hb.block b (Array.getElem?_eq_some_iff.1 hbk).1]; exact hbk
  · obtain ⟨h1, h2⟩ := hown
    refine ⟨h1, ?_⟩
    rcases h2 with h2 | ⟨g, cap, cur, h3, h4, h5, h6⟩
    · exact .inl h2
    · exact .inr ⟨g, cap, cur, h3, h4, by rw [hb.block g (Array.getElem?_eq_some_iff.1 h5).1]; exact h5, h6⟩
theorem alloc_new (W : World) (o : Obj) : (W.alloc o).heap[W.heap.size]? = some o := by
  show (W.heap.push o)[W.heap.size]? = _
  rw [Array.getElem?_push]
  simp
def QAt (b0 : Nat) (vi vp : Value) (W : World) : Prop := ∃ T, W.heap[b0]? = some (.cells #[vi, vp, .int .i64 5, .string ⟨#[]⟩, .int .i64 1] T (0, 0))
theorem QAt.cell {b0 : Nat} {vi vp : Value} {W : World} (h : QAt b0 vi vp W) (j : Nat) : W.cell? ⟨b0, j, none⟩ = #[vi, vp, .int .i64 5, .string ⟨#[]⟩, .int .i64 1][j]? := let ⟨_, h⟩ := h; Lib.cell_of_heap h j
theorem QAt.lt {b0 : Nat} {vi vp : Value} {W : World} (h : QAt b0 vi vp W) : b0 < W.heap.size := let ⟨_, h⟩ := h; (Array.getElem?_eq_some_iff.1 h).1
theorem QAt.below {B b0 : Nat} {vi vp : Value} {W W' : World} (h : QAt b0 vi vp W) (hb : Below B W W') (hB : b0 < B) : QAt b0 vi vp W' := let ⟨T, h⟩ := h; ⟨T, by rw [hb.block b0 hB]; exact h⟩
end Go.Proofs.YtmfhanoibbmnlaaGreatDoor.Tz
