/-
strings.Contains at this dump, by the shelf. Conditions: none.
-/
import Derived.Shelf.Strings.Search3
import Derived.Test.YtlnkifnkamojnaaGreatTX0
import Derived.Test.YtlnkifnkamojnaaGreatGR
import Derived.Test.YtlnkifnkamojnaaGreatTO2
import Derived.Test.YtlnkifnkamojnaaGreatTO4
namespace Go.Proofs.YtlnkifnkamojnaaGreat.Tz
open Go.RowKit Go.Shelf Go.Proofs Go.Aug
def containsL_ren : Go.Shelf.Ren := ⟨fun | 144 => 168 | 143 => 191 | 219 => 202 | 217 => 214 | 225 => 215 | 224 => 216 | 267 => 217 | 266 => 229 | 314 => 230 | n => n, fun | 9 => 9 | 4 => 4 | 3 => 3 | 5 => 5 | 46 => 173 | 146 => 271 | 51 => 270 | n => n, fun | 1 => 0 | n => n⟩
theorem containsL : Go.Proofs.Lays.n144 Tryz.prog containsL_ren where
  mixed := by kernel_rfl
  f143 := Tryz.func191.trans (congrArg some (by kernel_rfl))
  f144 := Tryz.func168.trans (congrArg some (by kernel_rfl))
  f217 := Tryz.func214.trans (congrArg some (by kernel_rfl))
  f219 := Tryz.func202.trans (congrArg some (by kernel_rfl))
  f224 := Tryz.func216.trans (congrArg some (by kernel_rfl))
  f225 := Tryz.func215.trans (congrArg some (by kernel_rfl))
  f266 := Tryz.func229.trans (congrArg some (by kernel_rfl))
  f267 := Tryz.func217.trans (congrArg some (by kernel_rfl))
  f314 := Tryz.func230.trans (congrArg some (by kernel_rfl))
  t3 := Tryz.underlying3
  a3 := Tryz.isAgg3
  z3 := Tryz.sizeOf3
  v3 := Tryz.zeroValue3
  t4 := Tryz.underlying4
  a4 := Tryz.isAgg4
  z4 := Tryz.sizeOf4
  v4 := Tryz.zeroValue4
  t5 := Tryz.underlying5
  a5 := Tryz.isAgg5
  z5 := Tryz.sizeOf5
  v5 := Tryz.zeroValue5
  t9 := Tryz.underlying9
  a9 := Tryz.isAgg9
  z9 := Tryz.sizeOf9
  v9 := Tryz.zeroValue9
  t46 := Tryz.underlying173
  a46 := Tryz.isAgg173
  z46 := Tryz.sizeOf173
  v46 := Tryz.zeroValue173
  t51 := Tryz.underlying270
  a51 := Tryz.isAgg270
  z51 := Tryz.sizeOf270
  v51 := Tryz.zeroValue270
  t146 := Tryz.underlying271
  a146 := Tryz.isAgg271
  z146 := Tryz.sizeOf271
  v146 := Tryz.zeroValue271
  g1 := by kernel_rfl
theorem containsS : OrcOk Tryz.prog n_q159 orcContains :=
  contains_ok (g := 0) (by kernel_rfl) (enters_of Tryz.func168 (by kernel_rfl) rfl) fun s sub m W hs hm => Any.strings_Contains containsL s sub m W hs hm
end Go.Proofs.YtlnkifnkamojnaaGreat.Tz

namespace Go.Proofs.YtlnkifnkamojnaaGreat.Tz
open Go.Aug
set_option maxRecDepth 100000
theorem mixed : Tryz.prog.follows .mixedOrders = true := by kernel_rfl
theorem tab_ok' (fz : Nat → Bool) (orc : Nat → Option (List D → Heap → Option (D × Heap))) (h : ∀ f g, orc f = some g → OrcOk Tryz.prog f g) : TabOk Tryz.prog ⟨findF rows, fz, orc⟩ :=
  ⟨mixed, fun f fi hf => rows_ok _ (findF_mem rows f fi hf), h⟩
theorem orcs0_ok (f : Nat) (g : List D → Heap → Option (D × Heap)) (h : orcs0 f = some g) : OrcOk Tryz.prog f g := by
  unfold orcs0 at h
  cases hk0 : Nat.beq f n_q147 with
  | true =>
    rw [hk0] at h
    simp only [cond_true, Option.some.injEq] at h
    rw [← h, Nat.eq_of_beq_eq_true hk0]
    exact sorted_ok keysSorted
  | false =>
    rw [hk0] at h
    simp only [cond_false] at h
    cases hk1 : Nat.beq f n_q49 with
    | true =>
      rw [hk1] at h
      simp only [cond_true, Option.some.injEq] at h
      rw [← h, Nat.eq_of_beq_eq_true hk1]
      exact cmpS
    | false =>
      rw [hk1] at h
      simp only [cond_false] at h
      cases hk2 : Nat.beq f n_q159 with
      | true =>
        rw [hk2] at h
        simp only [cond_true, Option.some.injEq] at h
        rw [← h, Nat.eq_of_beq_eq_true hk2]
        exact containsS
      | false =>
        rw [hk2] at h
        simp only [cond_false] at h
        cases h
theorem tab0_ok : TabOk Tryz.prog tab0 := tab_ok' _ _ orcs0_ok
theorem augurylaw15_head_evF : evF tab0 400 (.fn n_q4) [] H0 = some (.v (.bool true), H0) := by kernel_rfl
theorem augurylaw15_head_ev : ev tab0 400 (.fn n_q4) [] H0 = some (.v (.bool true), H0) := by
  rw [← evF_eq]
  exact augurylaw15_head_evF
theorem augurylaw15_head_orc : OrcOk Tryz.prog n_q4 orcHead := by
  have h := pure_ok tab0_ok (f := n_q4) (spec := fun args => match args with | [] => some (.v (.bool true)) | _ => none) (fun args d h => by
    cases args with
    | nil => simp only [Option.some.injEq] at h; subst h; exact ⟨400, augurylaw15_head_ev⟩
    | cons a l => cases h)
  intro args H r H' hg
  refine h args H r H' ?_
  cases args with
  | nil => simpa [orcHead, pureOrc, D.under.underAll] using hg
  | cons a l => cases hg
theorem orcs_ok (f : Nat) (g : List D → Heap → Option (D × Heap)) (h : orcs f = some g) : OrcOk Tryz.prog f g := by
  unfold orcs at h
  cases hk0 : Nat.beq f n_q4 with
  | true =>
    rw [hk0] at h
    simp only [cond_true, Option.some.injEq] at h
    rw [← h, Nat.eq_of_beq_eq_true hk0]
    exact augurylaw15_head_orc
  | false =>
    rw [hk0] at h
    simp only [cond_false] at h
    exact orcs0_ok f g (by unfold orcs0; exact h)
theorem tab_ok : TabOk Tryz.prog tab := tab_ok' _ _ orcs_ok
end Go.Proofs.YtlnkifnkamojnaaGreat.Tz
