/-
What a row gives of one version. Conditions: none.
-/
import Derived.Test.YtlnkifnkamojnaaGreatTRa
namespace Go.Proofs.YtlnkifnkamojnaaGreat.Tz
open Go.ChangeShapes Go.WideShapes Go.ChangeAt Go.RowKit Go.Aug Go.Aug.Api
variable {W : World} {H : Type} {enc : TypeId × Value → H} {d : DataW H} {p : List MemPlace}
theorem in_structV {t : TypeId} {cs : Array Value} {α : Type} {c : α → List D} (ht : t ∈ kindsV) (hc : ∀ n x, Gd n t x → ∃ a, x = c a) (h : DataW.Trod enc Tryz.prog W 0 (fun _ => true) true t (.agg cs) d p) : ∃ a, relIn W (.agg (c a)) (.agg cs) := by
  obtain ⟨fuel, hf⟩ := h
  obtain ⟨ds, h1, h2⟩ := trod_good kindsV_ok fuel t _ _ ht hf
  obtain ⟨a, rfl⟩ := hc _ _ h2
  exact ⟨a, arg_agg h1⟩
end Go.Proofs.YtlnkifnkamojnaaGreat.Tz
