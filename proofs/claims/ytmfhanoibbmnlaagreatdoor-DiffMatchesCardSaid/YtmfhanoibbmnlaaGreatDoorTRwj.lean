/-
DiffMatches holds: what is taken over of matches are some of them, in order; of a query and itself all. Conditions: none beyond the given row's own.
-/
import Derived.Test.YtmfhanoibbmnlaaGreatDoorTie
import Derived.Test.YtmfhanoibbmnlaaGreatDoorCards
import Derived.Test.YtmfhanoibbmnlaaGreatDoorTVq
import Derived.Test.YtmfhanoibbmnlaaGreatDoorTRa
import Derived.SevenTiedAt
namespace Go.Proofs.YtmfhanoibbmnlaaGreatDoor.diffMatches
open Go.ChangeShapes Go.WideShapes Go.ChangeAt Go.RowKit Go.Aug Go.Aug.Api
theorem own : ownKnob Tryz.prog.godebug = none := by kernel_rfl
theorem laidOut : laidOutB Tryz.prog = true := by kernel_rfl
theorem walk (q0 : TQuery) (q1 : TQuery) (l2 : Sl TMatch) (hz : l2.l.length * 32 ≤ reachBytes) (W : World) (hG : GlobOk Tryz.prog (fun b => b < W.heap.size) W) (v0 v1 v2 : Value) (h0 : relIn W (.agg (queryC q0)) v0) (h1 : relIn W (.agg (queryC q1)) v1) (h2 : relIn W (l2.enc matchC) v2) : Calls Tryz.prog 5 #[v0, v1, v2] W fun e w' => e = .returned (.bool true) ∧ Below W.heap.size W w' := by
  obtain ⟨d, H', ⟨n, hn⟩, rfl, rfl⟩ := Tz.matches_walk q0 q1 l2 (Nat.le_trans hz (by decide)) H0
  refine (law_calls Tz.tabS_ok (by kernel_rfl) (hn n (Nat.le_refl n)) (W := W) (vs := #[v0, v1, v2]) hG ⟨rfl, fun i d hd => ?_⟩ rfl).mono fun e w' h => ?_
  · match i, hd with
    | 0, hd => simp at hd; subst hd; exact h0
    | 1, hd => simp at hd; subst hd; exact h1
    | 2, hd => simp at hd; subst hd; exact h2
    | i + 3, hd => simp at hd
  · obtain ⟨⟨v, rfl, hr⟩, hb⟩ := h
    exact ⟨by rw [hr.v_inv], hb⟩
set_option maxRecDepth 100000 in
theorem lifted (os : Os) (started : os.Started) (H : Type) (enc : TypeId × Value → H) :
    ReturnsInHanded {} Tryz.checked os 5 .any (fun w args => (Rows.diffMatchesSpec.pre enc Tryz.prog Tryz.f5 [] false w args ∧ laidMetH Tryz.prog laidL w) ∧ sizedMet enc Tryz.prog Tryz.f5 (OpenSpec.ofChange Rows.diffMatchesSpec) false w args)
      (Rows.diffMatchesSpec.post enc Tryz.prog Tryz.f5 false true false false) := by
  refine returnsInHanded_sized (C := Tryz.checked) (X := fun w _ => laidMetH Tryz.prog laidL w) (fun _ _ _ hh h => h.of_heap hh) own started (by kernel_rfl) Tryz.func5
    (ChangeSpec.witness_at (enc := enc) (C := Tryz.checked) (os := os) (X := fun w _ => laidMetH Tryz.prog laidL w) false (laidWorld os) #[.agg #[.slice none 0 0, .slice none 0 0, .int .i64 0, .string ByteArray.empty, .int .i64 0], .agg #[.slice none 0 0, .slice none 0 0, .int .i64 0, .string ByteArray.empty, .int .i64 0], .slice none 0 0] 8 rfl (by kernel_rfl) (by kernel_rfl) (by kernel_rfl) (by kernel_rfl) (by kernel_rfl) (laidWorld_met os _)) ?_
  intro W base args ds gs before hval0 hW hwt hsh hL
  have hG := globOk_of hsh hL
  have hval : ∀ (j : Nat) t v, Tryz.f5.params[j]? = some t → args[j]? = some v → Value.okWide Tryz.prog W .any base t v := hval0
  have hW' := hW
  obtain ⟨p, q, hA0, hV, rfl, hfz, hnd⟩ := hW
  have hA : DataW.TrodAll enc Tryz.prog W 0 (fun _ => true) true Tryz.f5.params.toList args.toList ds p := hA0
  rw [Tryz.params5] at hA hval
  obtain ⟨v0, vs0, d0, ds0, p0, q0, hargs, rfl, rfl, h0, r0⟩ := trodAll_cons hA
  obtain ⟨v1, vs1, d1, ds1, p1, q1, rfl, rfl, rfl, h1, r1⟩ := trodAll_cons r0
  obtain ⟨v2, vs2, d2, ds2, p2, q2, rfl, rfl, rfl, h2, r2⟩ := trodAll_cons r1
  obtain ⟨rfl, rfl, rfl⟩ := trodAll_nil r2
  obtain rfl : args = #[v0, v1, v2] := by cases args; simp_all
  obtain ⟨rfl, rfl⟩ := trodVars_none hV
  obtain ⟨cs0, rfl, -⟩ := okWide_struct Tryz.underlying25 (hval 0 25 v0 rfl rfl)
  have lt0 : ∀ x ∈ p0, x.block < W.heap.size := by obtain ⟨m, hm⟩ := h0; exact DataW.trod_lt m _ _ _ hm
  obtain ⟨q0', e0⟩ := Tz.in_query h0
  obtain ⟨cs1, rfl, -⟩ := okWide_struct Tryz.underlying25 (hval 1 25 v1 rfl rfl)
  have lt1 : ∀ x ∈ p1, x.block < W.heap.size := by obtain ⟨m, hm⟩ := h1; exact DataW.trod_lt m _ _ _ hm
  obtain ⟨q1', e1⟩ := Tz.in_query h1
  obtain ⟨a2, len2, cap2, rfl⟩ := okWide_slice Tryz.underlying26 (hval 2 26 v2 rfl rfl)
  have lt2 : ∀ x ∈ p2, x.block < W.heap.size := by obtain ⟨m, hm⟩ := h2; exact DataW.trod_lt m _ _ _ hm
  obtain ⟨l2, e2⟩ := Tz.in_slM Tryz.underlying26 (by decide) (fun _ _ => Tz.k_match) rfl h2
  have hw2 : (d2.weights Tryz.prog 26).all (· ≤ reachBytes) = true := by
    rw [Tryz.params5] at hwt
    simp only [List.cons_append, DataW.weightsEach, List.all_append, Bool.and_eq_true] at hwt
    exact hwt.2.2.1
  have hz := matches_small h2 l2 e2 hw2
  clear hA0 hval0
  refine (walk q0' q1' l2 hz W hG _ _ _ e0 e1 e2).mono fun e W' ⟨he, bel⟩ => ?_
  subst he
  exact ⟨_, rfl, _, _, _, [], _, [], hW', trodAll_mk1 (shut_bool Tryz.underlying4 _), (trodAll_cons_mk (Below.trod laidOut (by kernel_rfl) (of_decide_eq_true (by kernel_rfl)) h0 bel lt0) (trodAll_cons_mk (Below.trod laidOut (by kernel_rfl) (of_decide_eq_true (by kernel_rfl)) h1 bel lt1) (trodAll_cons_mk (Below.trod laidOut (by kernel_rfl) (of_decide_eq_true (by kernel_rfl)) h2 bel lt2) trodAll_mk0))), rfl, bel.frame _, fun h => by cases h⟩
theorem over : Rows.DiffMatchesSaid :=
  OpenClaim.holds_of_wide 5 Tryz.f5 rfl rfl rfl rfl rfl rfl rfl ⟨rfl, rfl, rfl, rfl, rfl⟩ rfl rfl rfl rfl rfl (by kernel_rfl) Tryz.func5 (by kernel_rfl)
    (of_decide_eq_true (by kernel_rfl)) (by unfold Func.isWrapper; first | (rw [if_pos (by decide +kernel)]; kernel_rfl) | (rw [if_neg (by decide +kernel)]; exact ⟨rfl, rfl⟩))
    (fun os started H enc _ => lifted os started H enc)
theorem card : Rows.DiffMatchesCardSaid :=
  Claim7.holds_tied_plain_at .later [] [.data, .data, .data] true (true, "d97b3e467d85f09ce8ad0d56c4826768a5612a17c76decb946abe20cd376cc63") false
    over (fun _ h => by cases h) (by kernel_rfl) (fun _ h => by cases h) diffMatches_row_tie rfl ⟨rfl, rfl⟩ (by kernel_rfl) rfl
    (fun f fn hf hfn => by
      obtain rfl : f = 5 := Option.some.inj ((show Tryz.prog.funcNamed Rows.diffMatchesRow.func = some 5 by kernel_rfl).symm.trans hf) |>.symm
      obtain rfl : fn = Tryz.f5 := (Option.some.inj (Tryz.func5.symm.trans hfn)).symm
      exact ⟨by kernel_rfl, fun j t ht => by
        rw [Tryz.params5] at ht
        match j, ht with
        | 0, ht => cases ht; exact (show Tryz.prog.wantsStandIn 25 = false by kernel_rfl)
        | 1, ht => cases ht; exact (show Tryz.prog.wantsStandIn 25 = false by kernel_rfl)
        | 2, ht => cases ht; exact (show Tryz.prog.wantsStandIn 26 = false by kernel_rfl)
        | j + 3, ht => simp at ht⟩)
    (by kernel_rfl)
end Go.Proofs.YtmfhanoibbmnlaaGreatDoor.diffMatches
namespace Go.Proofs.YtmfhanoibbmnlaaGreatDoor
theorem diffMatches_card_holds : Rows.DiffMatchesCardSaid := diffMatches.card
end Go.Proofs.YtmfhanoibbmnlaaGreatDoor
