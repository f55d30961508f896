/-
errors.As at this dump, as an oracle. Conditions: none.
-/
import Derived.Test.YthdkeggdipogoaaGreatDoorTO7
import Derived.Test.YthdkeggdipogoaaGreatDoorTPu
import Derived.Test.YthdkeggdipogoaaGreatDoorTWr
import Derived.Test.YthdkeggdipogoaaGreatDoorGT
namespace Go.Proofs.YthdkeggdipogoaaGreatDoor.Tz
open Go.RowKit Go.Shelf Go.Aug Go.Extern
theorem err_rt : (Tryz.prog.cutTypes.find? (·.1 == "internal/reflectlite.rtype")).map (·.2) = some 226 := by kernel_rfl
theorem err_one : ((List.range 311).filter fun t => Tryz.prog.rowNamed t [101, 114, 114, 111, 114]) = [108] := by kernel_rfl
theorem err_size : Tryz.prog.types.size = 311 := by kernel_rfl
theorem errV (o : Option Obj) (h : globFact Tryz.prog "errors.errorType" o) : ∃ (cs : Array Value) (e : TypeId) (f : Nat × Nat), o = some (Obj.cells cs e f) ∧ cs[0]? = some (.iface 226 (.agg #[.pointer (some ⟨5, 108, none⟩)])) := by
  obtain ⟨cs, e, f, h1, h2⟩ := h
  rw [if_neg (by decide), if_neg (by decide)] at h2
  obtain ⟨rt, ty, e2, e3, e4, e5⟩ := h2
  obtain rfl := Option.some.inj (err_rt.symm.trans e2)
  have hm : ty ∈ (List.range 311).filter fun t => Tryz.prog.rowNamed t [101, 114, 114, 111, 114] := List.mem_filter.2 ⟨List.mem_range.2 (by rw [← err_size]; exact e3), e4⟩
  rw [err_one] at hm
  obtain rfl := List.mem_singleton.1 hm
  have hh : typeHandle Tryz.prog 108 = .pointer (some ⟨5, 108, none⟩) := by kernel_rfl
  rw [hh] at e5
  exact ⟨cs, e, f, h1, e5⟩
theorem asC : AsOk Tryz.prog 65 0 (.iface 226 (.agg #[.pointer (some ⟨5, 108, none⟩)])) 106 110 111 51 where
  enter := enters_of Tryz.func65 (by kernel_rfl) rfl
  nil := fun t W => as_nil t W
  hit := fun e t old W hg h1 h2 => (as_hit e t old W hg h1 h2).mono (by
    rintro e' w' ⟨rfl, rfl⟩
    exact ⟨rfl, [_, _, _, _], rfl⟩)
  unwrap := fun eb eo n t old W h0 hg h1 h2 => (as_unwrap eb eo n t old W h0 hg h1 h2).mono (by
    rintro e' w' ⟨rfl, rfl⟩
    exact ⟨rfl, [_, _, _, _], rfl⟩)
theorem asS : OrcOk Tryz.prog 65 (orcAs 106 110 111 51) := as_ok asC (by kernel_rfl) errV
end Go.Proofs.YthdkeggdipogoaaGreatDoor.Tz

namespace Go.Proofs.YthdkeggdipogoaaGreatDoor.Tz
open Go.Aug Go.Aug.Api
set_option maxRecDepth 100000
def lawFnsV : List Nat := [n_q107, n_q70, n_q52, n_q48, n_q53]
def frozenV (f : Nat) : Bool := cond (Nat.beq f n_q74) false true
noncomputable def orcsV (f : Nat) : Option (List D → Heap → Option (D × Heap)) := cond (Nat.beq f n_q66) (some (orcAs 106 110 111 51)) (cond (isLaw f lawFnsV) (some (pureOrc2 (runSpec tab f))) (orcs f))
noncomputable def tabV : Tab := ⟨findF rows, frozenV, orcsV⟩
theorem orcsV_ok (f : Nat) (g : List D → Heap → Option (D × Heap)) (h : orcsV f = some g) : OrcOk Tryz.prog f g := by
  unfold orcsV at h
  cases hk : Nat.beq f n_q66 with
  | true =>
    rw [hk] at h
    simp only [cond_true, Option.some.injEq] at h
    rw [← h, Nat.eq_of_beq_eq_true hk]
    exact asS
  | false =>
    rw [hk] at h
    simp only [cond_false] at h
    cases hk : isLaw f lawFnsV with
    | true =>
      rw [hk] at h
      simp only [cond_true, Option.some.injEq] at h
      rw [← h]
      exact runSpec_orc tab_ok _
    | false => rw [hk] at h; exact orcs_ok f g h
theorem tabV_ok : TabOk Tryz.prog tabV := tab_ok' _ _ orcsV_ok
theorem oV_Find : tabV.orc n_q70 = some (pureOrc2 (runSpec tab n_q70)) := by kernel_rfl
theorem oV_field : tabV.orc n_q52 = some (pureOrc2 (runSpec tab n_q52)) := by kernel_rfl
theorem oV_Kind : tabV.orc n_q48 = some (pureOrc2 (runSpec tab n_q48)) := by kernel_rfl
theorem oV_item : tabV.orc n_q53 = some (pureOrc2 (runSpec tab n_q53)) := by kernel_rfl
theorem oV_Right : tabV.orc n_q107 = some (pureOrc2 (runSpec tab n_q107)) := by kernel_rfl
theorem runV {f : FuncId} {args : List D} {d : D} (ho : tabV.orc f = some (pureOrc2 (runSpec tab f))) (hu : D.under.underAll 0 args = true) (hd : Run tab (.fn f) args H0 d H0) (H : Heap) : Run tabV (.fn f) args H d H := cK.run (cK_pure ho hu hd ⟨rfl, rfl⟩)
end Go.Proofs.YthdkeggdipogoaaGreatDoor.Tz
