/-
TimelineTells holds: whether versions are right, what they are with one more and without the last one, how long each is in force, and which at any time, are the document's. Conditions: none beyond the given row's own.
-/
import Derived.Test.YtlnkifnkamojnaaGreatTVA
import Derived.Test.YtlnkifnkamojnaaGreatTRb
namespace Go.Proofs.YtlnkifnkamojnaaGreat.timelineTells
open Go.ChangeShapes Go.WideShapes Go.ChangeAt Go.RowKit Go.Aug Go.Aug.Api
theorem own : ownKnob Tryz.prog.godebug = none := by kernel_rfl
theorem laidOut : laidOutB Tryz.prog = true := by kernel_rfl
theorem walk (l0 : Sl TVersion) (l1 : TVersion) (a2 : Int) (W : World) (hG : GlobOk Tryz.prog (fun b => b < W.heap.size) W) (v0 v1 v2 : Value) (h0 : relIn W (l0.enc versionC) v0) (h1 : relIn W (.agg (versionC l1)) v1) (h2 : relIn W (i64D a2) v2) : Calls Tryz.prog 3 #[v0, v1, v2] W fun e w' => e = .returned (.bool true) ∧ Below W.heap.size W w' := by
  obtain ⟨d, H', ⟨n, hn⟩, rfl, rfl⟩ := Tz.tells_walk l0 l1 a2 H0
  refine (law_calls Tz.tabT_ok (by kernel_rfl) (hn n (Nat.le_refl n)) (W := W) (vs := #[v0, v1, v2]) hG ⟨rfl, fun i d hd => ?_⟩ rfl).mono fun e w' h => ?_
  · match i, hd with
    | 0, hd => simp at hd; subst hd; exact h0
    | 1, hd => simp at hd; subst hd; exact h1
    | 2, hd => simp at hd; subst hd; exact h2
    | i + 3, hd => simp at hd
  · obtain ⟨⟨v, rfl, hr⟩, hb⟩ := h
    exact ⟨by rw [hr.v_inv], hb⟩
set_option maxRecDepth 100000 in
theorem lifted (os : Os) (started : os.Started) (H : Type) (enc : TypeId × Value → H) :
    ReturnsInHanded {} Tryz.checked os 3 .any (Rows.timelineTellsSpec.pre6 enc Tryz.prog Tryz.f3 Rows.timelineTellsRow.domain false) (Rows.timelineTellsSpec.post enc Tryz.prog Tryz.f3 false true false false) := by
  refine returnsInHanded_open (C := Tryz.checked) own started (by kernel_rfl) Tryz.func3
    (ChangeSpec.witness6 (enc := enc) (C := Tryz.checked) false ⟨#[], #[.slice none 0 0, .agg #[.int .i64 0, .bool false, .slice none 0 0, .slice none 0 0, .int .i64 0, .string ByteArray.empty, .int .i64 0], .int .i64 0], []⟩ 8 (by kernel_rfl) (by kernel_rfl) (by kernel_rfl) (by kernel_rfl)) ?_
  intro W base args ds gs before hval0 hW hwt hsh
  have hG := globOk_of hsh
  have hval : ∀ (j : Nat) t v, Tryz.f3.params[j]? = some t → args[j]? = some v → Value.okWide Tryz.prog W .any base t v := hval0
  have hW' := hW
  obtain ⟨p, q, hA0, hV, rfl, hfz, hnd⟩ := hW
  have hA : DataW.TrodAll enc Tryz.prog W 0 (fun _ => true) true Tryz.f3.params.toList args.toList ds p := hA0
  rw [Tryz.params3] at hA hval
  obtain ⟨v0, vs0, d0, ds0, p0, q0, hargs, rfl, rfl, h0, r0⟩ := trodAll_cons hA
  obtain ⟨v1, vs1, d1, ds1, p1, q1, rfl, rfl, rfl, h1, r1⟩ := trodAll_cons r0
  obtain ⟨v2, vs2, d2, ds2, p2, q2, rfl, rfl, rfl, h2, r2⟩ := trodAll_cons r1
  obtain ⟨rfl, rfl, rfl⟩ := trodAll_nil r2
  obtain rfl : args = #[v0, v1, v2] := by cases args; simp_all
  obtain ⟨rfl, rfl⟩ := trodVars_none hV
  obtain ⟨a0, len0, cap0, rfl⟩ := okWide_slice Tryz.underlying22 (hval 0 22 v0 rfl rfl)
  have lt0 : ∀ x ∈ p0, x.block < W.heap.size := by obtain ⟨m, hm⟩ := h0; exact DataW.trod_lt m _ _ _ hm
  obtain ⟨l0, e0⟩ := Tz.in_slV Tryz.underlying22 (by decide) (fun _ _ => Tz.k_version) rfl h0
  obtain ⟨cs1, rfl, -⟩ := okWide_struct Tryz.underlying28 (hval 1 28 v1 rfl rfl)
  have lt1 : ∀ x ∈ p1, x.block < W.heap.size := by obtain ⟨m, hm⟩ := h1; exact DataW.trod_lt m _ _ _ hm
  obtain ⟨l1, e1⟩ := Tz.in_structV (by decide) (fun _ _ => Tz.k_version) h1
  obtain ⟨b2, rfl, rfl, rfl, w2⟩ := open_int Tryz.underlying2 (hval 2 2 v2 rfl rfl) h2
  clear hA0 hval0
  refine (walk l0 l1 b2 W hG _ _ _ e0 e1 (.v _)).mono fun e W' ⟨he, bel⟩ => ?_
  subst he
  exact ⟨_, rfl, _, _, _, [], _, [], hW', trodAll_mk1 (shut_bool Tryz.underlying4 _), (trodAll_cons_mk (Below.trod laidOut (by kernel_rfl) (of_decide_eq_true (by kernel_rfl)) h0 bel lt0) (trodAll_cons_mk (Below.trod laidOut (by kernel_rfl) (of_decide_eq_true (by kernel_rfl)) h1 bel lt1) (trodAll_cons_mk (shut_int Tryz.underlying2 w2) trodAll_mk0))), rfl, bel.frame _, fun h => by cases h⟩
theorem over : Rows.timelineTellsRow.holds Tryz.pinned (OpenSpec.ofChange Rows.timelineTellsSpec) :=
  OpenClaim.holds_of_wide 3 Tryz.f3 rfl rfl rfl rfl rfl rfl rfl ⟨rfl, rfl, rfl, rfl, rfl⟩ rfl rfl rfl rfl rfl (by kernel_rfl) Tryz.func3 (by kernel_rfl)
    (of_decide_eq_true (by kernel_rfl)) (by unfold Func.isWrapper; first | (rw [if_pos (by decide +kernel)]; kernel_rfl) | (rw [if_neg (by decide +kernel)]; exact ⟨rfl, rfl⟩))
    (fun os started H enc _ => lifted os started H enc)
theorem proved : Rows.TimelineTellsSaid := over
end Go.Proofs.YtlnkifnkamojnaaGreat.timelineTells
namespace Go.Proofs.YtlnkifnkamojnaaGreat
theorem timelineTells_holds : Rows.TimelineTellsSaid := timelineTells.proved
end Go.Proofs.YtlnkifnkamojnaaGreat
