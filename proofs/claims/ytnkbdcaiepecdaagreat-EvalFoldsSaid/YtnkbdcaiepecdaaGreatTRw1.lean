/-
EvalFolds holds: of events that have a number in one field the count is how many, the sum that of all, the least and the greatest are of them, the field is the last one's. Conditions: none beyond the given row's own.
-/
import Derived.Test.YtnkbdcaiepecdaaGreatRows
import Derived.Test.YtnkbdcaiepecdaaGreatTV1
import Derived.Test.YtnkbdcaiepecdaaGreatGL
import Derived.WalkKit
import Derived.ProofKit
import Derived.OpenShut
import Derived.ShutString
import Derived.ChangeOld
import Derived.Below
import Derived.Carry
import Derived.SizedLaws
namespace Go.Proofs.YtnkbdcaiepecdaaGreat.evalFolds
open Go.ChangeShapes Go.WideShapes Go.ChangeAt Go.RowKit Go.Aug Go.Aug.Api
theorem own : ownKnob Tryz.prog.godebug = none := by kernel_rfl
theorem laidOut : laidOutB Tryz.prog = true := by kernel_rfl

def kinds : List TypeId := [48, 2]
theorem kinds_ok : closedB Tryz.prog kinds = true := by kernel_rfl

theorem good_int64 {n : Nat} {x : List D} (h : Aug.Good Tryz.prog n 2 x) : ∃ a, x = intC a := by
  cases n with
  | zero => exact h.elim
  | succ n =>
    rw [good_int Tryz.underlying2] at h
    obtain ⟨m, rfl, -⟩ := h
    exact ⟨m, rfl⟩

theorem walk (l : Sl Int) (W : World) (v : Value) (hv : relIn W (l.enc intC) v) : Calls Tryz.prog 4 #[v] W fun e w' => e = .returned (.bool true) ∧ Below W.heap.size W w' := by
  obtain ⟨d, H', ⟨n, hn⟩, rfl, rfl⟩ := Tz.law_walk l.rep l.l l.ok H0
  refine (law_calls Tz.tabL_ok (hn n (Nat.le_refl n)) (W := W) (vs := #[v]) ⟨rfl, fun i d hd => ?_⟩ rfl).mono fun e w' h => ?_
  · cases i with
    | zero => simp at hd; subst hd; exact hv
    | succ i => simp at hd
  · obtain ⟨⟨v, rfl, hr⟩, hb⟩ := h
    exact ⟨by rw [hr.v_inv], hb⟩

set_option maxRecDepth 100000 in
theorem lifted (os : Os) (started : os.Started) (H : Type) (enc : TypeId × Value → H) :
    ReturnsInHanded {} Tryz.checked os 4 .any (Rows.evalFoldsSpec.pre6 enc Tryz.prog Tryz.f4 Rows.evalFoldsRow.domain false) (Rows.evalFoldsSpec.post enc Tryz.prog Tryz.f4 false true false false) := by
  refine returnsInHanded_of_change_sized (C := Tryz.checked) own started (by kernel_rfl) Tryz.func4
    (ChangeSpec.witness6 (enc := enc) (C := Tryz.checked) false ⟨#[], #[.slice none 0 0], []⟩ 8 (by kernel_rfl) (by kernel_rfl) (by kernel_rfl) (by kernel_rfl)) ?_
  intro W base args ds gs before hval0 hW hcnd hsz0 _
  have hval : ∀ (j : Nat) t v, Tryz.f4.params[j]? = some t → args[j]? = some v → Value.okWide Tryz.prog W .any base t v := hval0
  have hW' := hW
  obtain ⟨p, q, hA0, hV, rfl, hfz, hnd⟩ := hW
  have hA : DataW.TrodAll enc Tryz.prog W 0 (fun _ => true) true Tryz.f4.params.toList args.toList ds p := hA0
  rw [Tryz.params4] at hA hval
  obtain ⟨v0, vs0, d0, ds0, p0, q0, hargs, rfl, rfl, h0, r0⟩ := trodAll_cons hA
  obtain ⟨rfl, rfl, rfl⟩ := trodAll_nil r0
  obtain rfl : args = #[v0] := by cases args; simp_all
  obtain ⟨rfl, rfl⟩ := trodVars_none hV
  obtain ⟨a0, len0, cap0, rfl⟩ := okWide_slice Tryz.underlying48 (hval 0 48 v0 rfl rfl)
  have k0 := h0
  have lt0 : ∀ x ∈ p0, x.block < W.heap.size := by obtain ⟨m, hm⟩ := k0; exact DataW.trod_lt m _ _ _ hm
  obtain ⟨l0, hl0⟩ : ∃ l : Sl Int, relIn W (l.enc intC) (.slice a0 len0 cap0) := by
    obtain ⟨fuel, hf⟩ := h0
    obtain ⟨ds, h1, h2⟩ := trod_good kinds_ok fuel 48 _ _ (by decide) hf
    obtain ⟨d, hd, h3⟩ := arg_one rfl h1
    cases fuel with
    | zero => exact h2.elim
    | succ n =>
      obtain ⟨x, hx⟩ := good_sl Tryz.underlying48 (fun x => good_int64) h2
      rw [hd] at hx
      simp only [List.cons.injEq, and_true] at hx
      exact ⟨x, hx ▸ h3⟩
  clear hA0 hval0 hsz0
  refine (walk l0 W _ hl0).mono fun e W' ⟨he, bel⟩ => ?_
  subst he
  exact ⟨_, rfl, _, _, _, [], _, [], hW', trodAll_mk1 (shut_bool Tryz.underlying4 _), (trodAll_cons_mk (Below.trod laidOut (by kernel_rfl) (of_decide_eq_true (by kernel_rfl)) k0 bel lt0) trodAll_mk0), rfl, bel.frame _, fun h => by cases h⟩

theorem over : Rows.evalFoldsRow.holds Tryz.pinned (OpenSpec.ofChange Rows.evalFoldsSpec) :=
  OpenClaim.holds_of_wide 4 Tryz.f4 rfl rfl rfl rfl rfl rfl rfl ⟨rfl, rfl, rfl, rfl, rfl⟩ rfl rfl rfl rfl rfl (by kernel_rfl) Tryz.func4 (by kernel_rfl)
    (of_decide_eq_true (by kernel_rfl)) (by unfold Func.isWrapper; first | (rw [if_pos (by decide +kernel)]; kernel_rfl) | (rw [if_neg (by decide +kernel)]; exact ⟨rfl, rfl⟩))
    (fun os started H enc _ => lifted os started H enc)
theorem proved : Rows.EvalFoldsSaid := over
end Go.Proofs.YtnkbdcaiepecdaaGreat.evalFolds
namespace Go.Proofs.YtnkbdcaiepecdaaGreat
/-- The row, under a short name, for the claim. -/
theorem evalFolds_holds : Rows.EvalFoldsSaid := evalFolds.proved
end Go.Proofs.YtnkbdcaiepecdaaGreat
