/-
NormTells holds: any query's normal form, the places of its predicates, and its expressions folded, are the document's. Conditions: none beyond the given row's own.
-/
import Derived.Test.YthdkeggdipogoaaGreatDoorTie
import Derived.Test.YthdkeggdipogoaaGreatDoorCards
import Derived.Test.YthdkeggdipogoaaGreatDoorTRa
import Derived.SevenTiedAt
namespace Go.Proofs.YthdkeggdipogoaaGreatDoor.normTells
open Go.ChangeShapes Go.WideShapes Go.ChangeAt Go.RowKit Go.Aug Go.Aug.Api
theorem own : ownKnob Tryz.prog.godebug = none := by kernel_rfl
theorem laidOut : laidOutB Tryz.prog = true := by kernel_rfl
theorem walk (q0 : TQuery) (hz1 : q0.items.l.length ≤ reachBytes) (hz2 : q0.preds.l.length ≤ reachBytes) (W : World) (hG : GlobOk Tryz.prog (fun b => b < W.heap.size) W) (v0 : Value) (h0 : relIn W (.agg (queryC q0)) v0) : Calls Tryz.prog 3 #[v0] W fun e w' => e = .returned (.bool true) ∧ Below W.heap.size W w' := by
  obtain ⟨d, H', ⟨n, hn⟩, rfl, rfl⟩ := Tz.tells_walk q0 (Nat.le_trans hz1 (by decide)) (Nat.le_trans hz2 (by decide)) H0
  refine (law_calls Tz.tabR_ok (by kernel_rfl) (hn n (Nat.le_refl n)) (W := W) (vs := #[v0]) hG ⟨rfl, fun i d hd => ?_⟩ rfl).mono fun e w' h => ?_
  · match i, hd with
    | 0, hd => simp at hd; subst hd; exact h0
    | i + 1, hd => simp at hd
  · obtain ⟨⟨v, rfl, hr⟩, hb⟩ := h
    exact ⟨by rw [hr.v_inv], hb⟩
set_option maxRecDepth 100000 in
theorem lifted (os : Os) (started : os.Started) (H : Type) (enc : TypeId × Value → H) :
    ReturnsInHanded {} Tryz.checked os 3 .any (fun w args => (Rows.normTellsSpec.pre enc Tryz.prog Tryz.f3 [] false w args ∧ laidMetH Tryz.prog laidL w) ∧ sizedMet enc Tryz.prog Tryz.f3 (OpenSpec.ofChange Rows.normTellsSpec) false w args)
      (Rows.normTellsSpec.post enc Tryz.prog Tryz.f3 false true false false) := by
  refine returnsInHanded_sized (C := Tryz.checked) (X := fun w _ => laidMetH Tryz.prog laidL w) (fun _ _ _ hh h => h.of_heap hh) own started (by kernel_rfl) Tryz.func3
    (ChangeSpec.witness_at (enc := enc) (C := Tryz.checked) (os := os) (X := fun w _ => laidMetH Tryz.prog laidL w) false (laidWorld os) #[.agg #[.slice none 0 0, .slice none 0 0, .int .i64 0, .string ByteArray.empty, .int .i64 0]] 8 rfl (by kernel_rfl) (by kernel_rfl) (by kernel_rfl) (by kernel_rfl) (by kernel_rfl) (laidWorld_met os _)) ?_
  intro W base args ds gs before hval0 hW hwt hsh hL
  have hG := globOk_of hsh hL
  have hval : ∀ (j : Nat) t v, Tryz.f3.params[j]? = some t → args[j]? = some v → Value.okWide Tryz.prog W .any base t v := hval0
  have hW' := hW
  obtain ⟨p, q, hA0, hV, rfl, hfz, hnd⟩ := hW
  have hA : DataW.TrodAll enc Tryz.prog W 0 (fun _ => true) true Tryz.f3.params.toList args.toList ds p := hA0
  rw [Tryz.params3] at hA hval
  obtain ⟨v0, vs0, d0, ds0, p0, q0, hargs, rfl, rfl, h0, r0⟩ := trodAll_cons hA
  obtain ⟨rfl, rfl, rfl⟩ := trodAll_nil r0
  obtain rfl : args = #[v0] := by cases args; simp_all
  obtain ⟨rfl, rfl⟩ := trodVars_none hV
  obtain ⟨cs0, rfl, -⟩ := okWide_struct Tryz.underlying25 (hval 0 25 v0 rfl rfl)
  have lt0 : ∀ x ∈ p0, x.block < W.heap.size := by obtain ⟨m, hm⟩ := h0; exact DataW.trod_lt m _ _ _ hm
  obtain ⟨q0', e0⟩ := Tz.in_query h0
  have hw0 : (d0.weights Tryz.prog 25).all (· ≤ reachBytes) = true := by
    rw [Tryz.params3] at hwt
    simp only [List.cons_append, DataW.weightsEach, List.all_append, Bool.and_eq_true] at hwt
    exact hwt.1
  obtain ⟨z1, z2⟩ := query_small h0 q0' e0 hw0
  clear hA0 hval0
  refine (walk q0' z1 z2 W hG _ e0).mono fun e W' ⟨he, bel⟩ => ?_
  subst he
  exact ⟨_, rfl, _, _, _, [], _, [], hW', trodAll_mk1 (shut_bool Tryz.underlying4 _), (trodAll_cons_mk (Below.trod laidOut (by kernel_rfl) (of_decide_eq_true (by kernel_rfl)) h0 bel lt0) trodAll_mk0), rfl, bel.frame _, fun h => by cases h⟩
theorem over : Rows.NormTellsSaid :=
  OpenClaim.holds_of_wide 3 Tryz.f3 rfl rfl rfl rfl rfl rfl rfl ⟨rfl, rfl, rfl, rfl, rfl⟩ rfl rfl rfl rfl rfl (by kernel_rfl) Tryz.func3 (by kernel_rfl)
    (of_decide_eq_true (by kernel_rfl)) (by unfold Func.isWrapper; first | (rw [if_pos (by decide +kernel)]; kernel_rfl) | (rw [if_neg (by decide +kernel)]; exact ⟨rfl, rfl⟩))
    (fun os started H enc _ => lifted os started H enc)
theorem card : Rows.NormTellsCardSaid :=
  Claim7.holds_tied_plain_at .later [] [.data, .data, .data] true (true, "a62cbb5ad77a954691d510a9215302b2979dd7be6eb8f1be153fb2889b6ae74b") true
    over (fun _ h => by cases h) (by kernel_rfl) (fun _ h => by cases h) normTells_row_tie rfl ⟨rfl, rfl⟩ (by kernel_rfl) rfl
    (fun f fn hf hfn => by
      obtain rfl : f = 3 := Option.some.inj ((show Tryz.prog.funcNamed Rows.normTellsRow.func = some 3 by kernel_rfl).symm.trans hf) |>.symm
      obtain rfl : fn = Tryz.f3 := (Option.some.inj (Tryz.func3.symm.trans hfn)).symm
      exact ⟨by kernel_rfl, fun j t ht => by
        rw [Tryz.params3] at ht
        match j, ht with
        | 0, ht => cases ht; exact (show Tryz.prog.wantsStandIn 25 = false by kernel_rfl)
        | j + 1, ht => simp at ht⟩)
    (by kernel_rfl)
end Go.Proofs.YthdkeggdipogoaaGreatDoor.normTells
namespace Go.Proofs.YthdkeggdipogoaaGreatDoor
theorem normTells_card_holds : Rows.NormTellsCardSaid := normTells.card
end Go.Proofs.YthdkeggdipogoaaGreatDoor
