/-
errors.As at this dump, as an oracle. Conditions: none.
-/
import Derived.Test.YtnpoicmaiieanaaGreatDoorTO7
import Derived.Test.YtnpoicmaiieanaaGreatDoorTO8
import Derived.Shelf.Abstract
namespace Go.Proofs.YtnpoicmaiieanaaGreatDoor.Tz
open Go.RowKit Go.Shelf Go.Aug Go.Extern

theorem err_rt : (Tryz.prog.cutTypes.find? (·.1 == "internal/reflectlite.rtype")).map (·.2) = some 121 := by kernel_rfl
theorem err_one : ((List.range 207).filter fun t => Tryz.prog.rowNamed t [101, 114, 114, 111, 114]) = [62] := by kernel_rfl
theorem err_size : Tryz.prog.types.size = 207 := by kernel_rfl

theorem errV (o : Option Obj) (h : globFact Tryz.prog "errors.errorType" o) : ∃ (cs : Array Value) (e : TypeId) (f : Nat × Nat), o = some (Obj.cells cs e f) ∧ cs[0]? = some (.iface 121 (.agg #[.pointer (some ⟨2, 62, none⟩)])) := by
  obtain ⟨cs, e, f, h1, h2⟩ := h
  rw [if_neg (by decide)] at h2
  obtain ⟨rt, ty, e2, e3, e4, e5⟩ := h2
  obtain rfl := Option.some.inj (err_rt.symm.trans e2)
  have hm : ty ∈ (List.range 207).filter fun t => Tryz.prog.rowNamed t [101, 114, 114, 111, 114] := List.mem_filter.2 ⟨List.mem_range.2 (by rw [← err_size]; exact e3), e4⟩
  rw [err_one] at hm
  obtain rfl := List.mem_singleton.1 hm
  have hh : typeHandle Tryz.prog 62 = .pointer (some ⟨2, 62, none⟩) := by kernel_rfl
  rw [hh] at e5
  exact ⟨cs, e, f, h1, e5⟩

theorem asC : AsOk Tryz.prog 22 0 (.iface 121 (.agg #[.pointer (some ⟨2, 62, none⟩)])) 60 64 65 30 where
  enter := enters_of Tryz.func22 (by kernel_rfl) rfl
  nil := fun t W => as_nil t W
  hit := fun e t old W hg h1 h2 => (as_hit e t old W hg h1 h2).mono (by
    rintro e' w' ⟨rfl, rfl⟩
    exact ⟨rfl, [_, _, _, _], rfl⟩)
  unwrap := fun eb eo n t old W h0 hg h1 h2 => (as_unwrap eb eo n t old W h0 hg h1 h2).mono (by
    rintro e' w' ⟨rfl, rfl⟩
    exact ⟨rfl, [_, _, _, _], rfl⟩)

theorem asS : OrcOk Tryz.prog 22 (orcAs 60 64 65 30) := as_ok asC (by kernel_rfl) errV

end Go.Proofs.YtnpoicmaiieanaaGreatDoor.Tz
