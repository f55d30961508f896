/-
TimelineSpans holds: spans rise, do not meet, end where the next version begins, and are just where a version that is no Drop is in force. Conditions: none beyond the given row's own.
-/
import Derived.Test.YtlnkifnkamojnaaGreatTVv
import Derived.Test.YtlnkifnkamojnaaGreatTRa
namespace Go.Proofs.YtlnkifnkamojnaaGreat.timelineSpans
open Go.ChangeShapes Go.WideShapes Go.ChangeAt Go.RowKit Go.Aug Go.Aug.Api
theorem own : ownKnob Tryz.prog.godebug = none := by kernel_rfl
theorem laidOut : laidOutB Tryz.prog = true := by kernel_rfl
theorem walk (l0 : Sl TVersion) (a1 : Int) (W : World) (hG : GlobOk Tryz.prog (fun b => b < W.heap.size) W) (v0 v1 : Value) (h0 : relIn W (l0.enc versionC) v0) (h1 : relIn W (i64D a1) v1) : Calls Tryz.prog 7 #[v0, v1] W fun e w' => e = .returned (.bool true) ∧ Below W.heap.size W w' := by
  obtain ⟨d, H', ⟨n, hn⟩, rfl, rfl⟩ := Tz.spans_walk l0 a1 H0
  refine (law_calls Tz.tabW_ok (by kernel_rfl) (hn n (Nat.le_refl n)) (W := W) (vs := #[v0, v1]) hG ⟨rfl, fun i d hd => ?_⟩ rfl).mono fun e w' h => ?_
  · match i, hd with
    | 0, hd => simp at hd; subst hd; exact h0
    | 1, hd => simp at hd; subst hd; exact h1
    | i + 2, hd => simp at hd
  · obtain ⟨⟨v, rfl, hr⟩, hb⟩ := h
    exact ⟨by rw [hr.v_inv], hb⟩
set_option maxRecDepth 100000 in
theorem lifted (os : Os) (started : os.Started) (H : Type) (enc : TypeId × Value → H) :
    ReturnsInHanded {} Tryz.checked os 7 .any (Rows.timelineSpansSpec.pre6 enc Tryz.prog Tryz.f7 Rows.timelineSpansRow.domain false) (Rows.timelineSpansSpec.post enc Tryz.prog Tryz.f7 false true false false) := by
  refine returnsInHanded_open (C := Tryz.checked) own started (by kernel_rfl) Tryz.func7
    (ChangeSpec.witness6 (enc := enc) (C := Tryz.checked) false ⟨#[], #[.slice none 0 0, .int .i64 0], []⟩ 8 (by kernel_rfl) (by kernel_rfl) (by kernel_rfl) (by kernel_rfl)) ?_
  intro W base args ds gs before hval0 hW hwt hsh
  have hG := globOk_of hsh
  have hval : ∀ (j : Nat) t v, Tryz.f7.params[j]? = some t → args[j]? = some v → Value.okWide Tryz.prog W .any base t v := hval0
  have hW' := hW
  obtain ⟨p, q, hA0, hV, rfl, hfz, hnd⟩ := hW
  have hA : DataW.TrodAll enc Tryz.prog W 0 (fun _ => true) true Tryz.f7.params.toList args.toList ds p := hA0
  rw [Tryz.params7] at hA hval
  obtain ⟨v0, vs0, d0, ds0, p0, q0, hargs, rfl, rfl, h0, r0⟩ := trodAll_cons hA
  obtain ⟨v1, vs1, d1, ds1, p1, q1, rfl, rfl, rfl, h1, r1⟩ := trodAll_cons r0
  obtain ⟨rfl, rfl, rfl⟩ := trodAll_nil r1
  obtain rfl : args = #[v0, v1] := by cases args; simp_all
  obtain ⟨rfl, rfl⟩ := trodVars_none hV
  obtain ⟨a0, len0, cap0, rfl⟩ := okWide_slice Tryz.underlying22 (hval 0 22 v0 rfl rfl)
  have lt0 : ∀ x ∈ p0, x.block < W.heap.size := by obtain ⟨m, hm⟩ := h0; exact DataW.trod_lt m _ _ _ hm
  obtain ⟨l0, e0⟩ := Tz.in_slV Tryz.underlying22 (by decide) (fun _ _ => Tz.k_version) rfl h0
  obtain ⟨b1, rfl, rfl, rfl, w1⟩ := open_int Tryz.underlying2 (hval 1 2 v1 rfl rfl) h1
  clear hA0 hval0
  refine (walk l0 b1 W hG _ _ e0 (.v _)).mono fun e W' ⟨he, bel⟩ => ?_
  subst he
  exact ⟨_, rfl, _, _, _, [], _, [], hW', trodAll_mk1 (shut_bool Tryz.underlying4 _), (trodAll_cons_mk (Below.trod laidOut (by kernel_rfl) (of_decide_eq_true (by kernel_rfl)) h0 bel lt0) (trodAll_cons_mk (shut_int Tryz.underlying2 w1) trodAll_mk0)), rfl, bel.frame _, fun h => by cases h⟩
theorem over : Rows.timelineSpansRow.holds Tryz.pinned (OpenSpec.ofChange Rows.timelineSpansSpec) :=
  OpenClaim.holds_of_wide 7 Tryz.f7 rfl rfl rfl rfl rfl rfl rfl ⟨rfl, rfl, rfl, rfl, rfl⟩ rfl rfl rfl rfl rfl (by kernel_rfl) Tryz.func7 (by kernel_rfl)
    (of_decide_eq_true (by kernel_rfl)) (by unfold Func.isWrapper; first | (rw [if_pos (by decide +kernel)]; kernel_rfl) | (rw [if_neg (by decide +kernel)]; exact ⟨rfl, rfl⟩))
    (fun os started H enc _ => lifted os started H enc)
theorem proved : Rows.TimelineSpansSaid := over
end Go.Proofs.YtlnkifnkamojnaaGreat.timelineSpans
namespace Go.Proofs.YtlnkifnkamojnaaGreat
theorem timelineSpans_holds : Rows.TimelineSpansSaid := timelineSpans.proved
end Go.Proofs.YtlnkifnkamojnaaGreat
