/-
CheckMore holds: what can be asked of schemas can be asked with more of them behind, whatever these are. Conditions: none beyond the given row's own.
-/
import Derived.Test.YtnpoicmaiieanaaGreatDoorRows
import Derived.Test.YtnpoicmaiieanaaGreatDoorTie
import Derived.Test.YtnpoicmaiieanaaGreatDoorCards
import Derived.Test.YtnpoicmaiieanaaGreatDoorTVb
import Derived.Test.YtnpoicmaiieanaaGreatDoorTK1
import Derived.Test.YtnpoicmaiieanaaGreatDoorTRa
import Derived.SevenTiedAt
namespace Go.Proofs.YtnpoicmaiieanaaGreatDoor.checkMore
open Go.ChangeShapes Go.WideShapes Go.ChangeAt Go.RowKit Go.Aug Go.Aug.Api
theorem own : ownKnob Tryz.prog.godebug = none := by kernel_rfl
theorem laidOut : laidOutB Tryz.prog = true := by kernel_rfl

theorem walk (l0 : Sl TSchema) (l1 : Sl TSchema) (q2 : TQuery) (W : World) (hG : GlobOk Tryz.prog (fun b => b < W.heap.size) W) (v0 v1 v2 : Value) (h0 : relIn W (l0.enc schemaC) v0) (h1 : relIn W (l1.enc schemaC) v1) (h2 : relIn W (.agg (queryC q2)) v2) : Calls Tryz.prog 3 #[v0, v1, v2] W fun e w' => e = .returned (.bool true) ∧ Below W.heap.size W w' := by
  obtain ⟨d, H', ⟨n, hn⟩, rfl, rfl⟩ := Tz.more_walk l0 l1 q2 H0
  refine (law_calls Tz.tabL_ok (by kernel_rfl) (hn n (Nat.le_refl n)) (W := W) (vs := #[v0, v1, v2]) hG ⟨rfl, fun i d hd => ?_⟩ rfl).mono fun e w' h => ?_
  · match i, hd with
    | 0, hd => simp at hd; subst hd; exact h0
    | 1, hd => simp at hd; subst hd; exact h1
    | 2, hd => simp at hd; subst hd; exact h2
    | i + 3, hd => simp at hd
  · obtain ⟨⟨v, rfl, hr⟩, hb⟩ := h
    exact ⟨by rw [hr.v_inv], hb⟩

set_option maxRecDepth 100000 in
theorem lifted (os : Os) (started : os.Started) (H : Type) (enc : TypeId × Value → H) :
    ReturnsInHanded {} Tryz.checked os 3 .any (fun w args => (Rows.checkMoreSpec.pre enc Tryz.prog Tryz.f3 [] false w args ∧ laidMetH Tryz.prog laidL w) ∧ sizedMet enc Tryz.prog Tryz.f3 (OpenSpec.ofChange Rows.checkMoreSpec) false w args)
      (Rows.checkMoreSpec.post enc Tryz.prog Tryz.f3 false true false false) := by
  refine returnsInHanded_both (C := Tryz.checked) (X := fun w _ => laidMetH Tryz.prog laidL w) (fun _ _ _ hh h => h.of_heap hh) own started (by kernel_rfl) Tryz.func3
    (ChangeSpec.witness_at (enc := enc) (C := Tryz.checked) (os := os) (X := fun w _ => laidMetH Tryz.prog laidL w) false (laidWorld os) #[.slice none 0 0, .slice none 0 0, .agg #[.slice none 0 0, .slice none 0 0, .int .i64 0, .string ByteArray.empty, .int .i64 0]] 8 rfl (by kernel_rfl) (by kernel_rfl) (by kernel_rfl) (by kernel_rfl) (by kernel_rfl) (laidWorld_met os _)) ?_
  intro W base args ds gs before hval0 hW hsh hL
  have hG := globOk_of hsh hL
  have hval : ∀ (j : Nat) t v, Tryz.f3.params[j]? = some t → args[j]? = some v → Value.okWide Tryz.prog W .any base t v := hval0
  have hW' := hW
  obtain ⟨p, q, hA0, hV, rfl, hfz, hnd⟩ := hW
  have hA : DataW.TrodAll enc Tryz.prog W 0 (fun _ => true) true Tryz.f3.params.toList args.toList ds p := hA0
  rw [Tryz.params3] at hA hval
  obtain ⟨v0, vs0, d0, ds0, p0, q0, hargs, rfl, rfl, h0, r0⟩ := trodAll_cons hA
  obtain ⟨v1, vs1, d1, ds1, p1, q1, rfl, rfl, rfl, h1, r1⟩ := trodAll_cons r0
  obtain ⟨v2, vs2, d2, ds2, p2, q2, rfl, rfl, rfl, h2, r2⟩ := trodAll_cons r1
  obtain ⟨rfl, rfl, rfl⟩ := trodAll_nil r2
  obtain rfl : args = #[v0, v1, v2] := by cases args; simp_all
  obtain ⟨rfl, rfl⟩ := trodVars_none hV
  obtain ⟨a0, len0, cap0, rfl⟩ := okWide_slice Tryz.underlying22 (hval 0 22 v0 rfl rfl)
  have lt0 : ∀ x ∈ p0, x.block < W.heap.size := by obtain ⟨m, hm⟩ := h0; exact DataW.trod_lt m _ _ _ hm
  obtain ⟨l0, e0⟩ := Tz.in_sl Tryz.underlying22 (by decide) (fun _ _ => Tz.k_schema) rfl h0
  obtain ⟨a1, len1, cap1, rfl⟩ := okWide_slice Tryz.underlying22 (hval 1 22 v1 rfl rfl)
  have lt1 : ∀ x ∈ p1, x.block < W.heap.size := by obtain ⟨m, hm⟩ := h1; exact DataW.trod_lt m _ _ _ hm
  obtain ⟨l1, e1⟩ := Tz.in_sl Tryz.underlying22 (by decide) (fun _ _ => Tz.k_schema) rfl h1
  obtain ⟨cs2, rfl, -⟩ := okWide_struct Tryz.underlying26 (hval 2 26 v2 rfl rfl)
  have lt2 : ∀ x ∈ p2, x.block < W.heap.size := by obtain ⟨m, hm⟩ := h2; exact DataW.trod_lt m _ _ _ hm
  obtain ⟨q2', e2⟩ := Tz.in_query h2
  clear hA0 hval0
  refine (walk l0 l1 q2' W hG _ _ _ e0 e1 e2).mono fun e W' ⟨he, bel⟩ => ?_
  subst he
  exact ⟨_, rfl, _, _, _, [], _, [], hW', trodAll_mk1 (shut_bool Tryz.underlying4 _), (trodAll_cons_mk (Below.trod laidOut (by kernel_rfl) (of_decide_eq_true (by kernel_rfl)) h0 bel lt0) (trodAll_cons_mk (Below.trod laidOut (by kernel_rfl) (of_decide_eq_true (by kernel_rfl)) h1 bel lt1) (trodAll_cons_mk (Below.trod laidOut (by kernel_rfl) (of_decide_eq_true (by kernel_rfl)) h2 bel lt2) trodAll_mk0))), rfl, bel.frame _, fun h => by cases h⟩

theorem over : Rows.CheckMoreSaid :=
  OpenClaim.holds_of_wide 3 Tryz.f3 rfl rfl rfl rfl rfl rfl rfl ⟨rfl, rfl, rfl, rfl, rfl⟩ rfl rfl rfl rfl rfl (by kernel_rfl) Tryz.func3 (by kernel_rfl)
    (of_decide_eq_true (by kernel_rfl)) (by unfold Func.isWrapper; first | (rw [if_pos (by decide +kernel)]; kernel_rfl) | (rw [if_neg (by decide +kernel)]; exact ⟨rfl, rfl⟩))
    (fun os started H enc _ => lifted os started H enc)
theorem card : Rows.CheckMoreCardSaid :=
  Claim7.holds_tied_plain_at .later [] [.handle] true (true, "a42c4b729db43ddf2335e87661fb4e20247a4e1ccb06a27af7d0ee1db1b9896b") true
    over (fun _ h => by cases h) (by kernel_rfl) (fun _ h => by cases h) checkMore_row_tie rfl ⟨rfl, rfl⟩ (by kernel_rfl) rfl
    (fun f fn hf hfn => by
      obtain rfl : f = 3 := Option.some.inj ((show Tryz.prog.funcNamed Rows.checkMoreRow.func = some 3 by kernel_rfl).symm.trans hf) |>.symm
      obtain rfl : fn = Tryz.f3 := (Option.some.inj (Tryz.func3.symm.trans hfn)).symm
      exact ⟨by kernel_rfl, fun j t ht => by
        rw [Tryz.params3] at ht
        match j, ht with
        | 0, ht => cases ht; exact (show Tryz.prog.wantsStandIn 22 = false by kernel_rfl)
        | 1, ht => cases ht; exact (show Tryz.prog.wantsStandIn 22 = false by kernel_rfl)
        | 2, ht => cases ht; exact (show Tryz.prog.wantsStandIn 26 = false by kernel_rfl)
        | j + 3, ht => simp at ht⟩)
    (by kernel_rfl)
end Go.Proofs.YtnpoicmaiieanaaGreatDoor.checkMore
namespace Go.Proofs.YtnpoicmaiieanaaGreatDoor
/-- The card, under a short name, for the claim. -/
theorem checkMore_card_holds : Rows.CheckMoreCardSaid := checkMore.card
end Go.Proofs.YtnpoicmaiieanaaGreatDoor
