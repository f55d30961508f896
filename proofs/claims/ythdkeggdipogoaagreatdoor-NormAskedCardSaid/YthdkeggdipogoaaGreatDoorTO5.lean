/-
strings.Contains at this dump, by the shelf. Conditions: none.
-/
import Derived.Shelf.Strings.Search3
import Derived.Test.YthdkeggdipogoaaGreatDoorTPr
import Derived.Test.YthdkeggdipogoaaGreatDoorTO2
import Derived.Test.YthdkeggdipogoaaGreatDoorTO4
namespace Go.Proofs.YthdkeggdipogoaaGreatDoor.Tz
open Go.RowKit Go.Shelf Go.Proofs Go.Aug
def containsL_ren : Go.Shelf.Ren := ⟨fun | 144 => 147 | 143 => 179 | 219 => 198 | 217 => 215 | 225 => 216 | 224 => 217 | 267 => 218 | 266 => 224 | 314 => 225 | n => n, fun | 9 => 9 | 4 => 4 | 3 => 3 | 5 => 5 | 46 => 132 | 146 => 279 | 51 => 204 | n => n, fun | 1 => 1 | n => n⟩
theorem containsL : Go.Proofs.Lays.n144 Tryz.prog containsL_ren where
  mixed := by kernel_rfl
  f143 := Tryz.func179.trans (congrArg some (by kernel_rfl))
  f144 := Tryz.func147.trans (congrArg some (by kernel_rfl))
  f217 := Tryz.func215.trans (congrArg some (by kernel_rfl))
  f219 := Tryz.func198.trans (congrArg some (by kernel_rfl))
  f224 := Tryz.func217.trans (congrArg some (by kernel_rfl))
  f225 := Tryz.func216.trans (congrArg some (by kernel_rfl))
  f266 := Tryz.func224.trans (congrArg some (by kernel_rfl))
  f267 := Tryz.func218.trans (congrArg some (by kernel_rfl))
  f314 := Tryz.func225.trans (congrArg some (by kernel_rfl))
  t3 := Tryz.underlying3
  a3 := Tryz.isAgg3
  z3 := Tryz.sizeOf3
  v3 := Tryz.zeroValue3
  t4 := Tryz.underlying4
  a4 := Tryz.isAgg4
  z4 := Tryz.sizeOf4
  v4 := Tryz.zeroValue4
  t5 := Tryz.underlying5
  a5 := Tryz.isAgg5
  z5 := Tryz.sizeOf5
  v5 := Tryz.zeroValue5
  t9 := Tryz.underlying9
  a9 := Tryz.isAgg9
  z9 := Tryz.sizeOf9
  v9 := Tryz.zeroValue9
  t46 := Tryz.underlying132
  a46 := Tryz.isAgg132
  z46 := Tryz.sizeOf132
  v46 := Tryz.zeroValue132
  t51 := Tryz.underlying204
  a51 := Tryz.isAgg204
  z51 := Tryz.sizeOf204
  v51 := Tryz.zeroValue204
  t146 := Tryz.underlying279
  a146 := Tryz.isAgg279
  z146 := Tryz.sizeOf279
  v146 := Tryz.zeroValue279
  g1 := by kernel_rfl
theorem containsS : OrcOk Tryz.prog n_q102 orcContains :=
  contains_ok (g := 1) (by kernel_rfl) (enters_of Tryz.func147 (by kernel_rfl) rfl) fun s sub m W hs hm => Any.strings_Contains containsL s sub m W hs hm
end Go.Proofs.YthdkeggdipogoaaGreatDoor.Tz

namespace Go.Proofs.YthdkeggdipogoaaGreatDoor.Tz
open Go.Aug Go.RowKit
set_option maxRecDepth 100000
theorem orc_chain {P : Program} {f k : Nat} {g0 : List D → Heap → Option (D × Heap)} {rest : Option (List D → Heap → Option (D × Heap))} (h1 : OrcOk P k g0) (h2 : ∀ g, rest = some g → OrcOk P f g) : ∀ g, cond (Nat.beq f k) (some g0) rest = some g → OrcOk P f g := by
  intro g hg
  cases hk : Nat.beq f k with
  | true =>
    rw [hk] at hg
    simp only [cond_true, Option.some.injEq] at hg
    rw [← hg, Nat.eq_of_beq_eq_true hk]
    exact h1
  | false => rw [hk] at hg; exact h2 g hg
def orcsP (f : Nat) : Option (List D → Heap → Option (D × Heap)) := cond (Nat.beq f n_q89) (some (orcSorted 1000000 n_q75)) (cond (Nat.beq f n_q81) (some (orcSorted 1 n_q75)) (cond (Nat.beq f n_q46) (some orcCmpS) (cond (Nat.beq f n_q102) (some orcContains) (cond (Nat.beq f n_q103) (some orcJoin) (cond (Nat.beq f n_q101) (some orcFormat) none)))))
def tabP : Tab := ⟨findF rows, frozen, orcsP⟩
theorem orcsP_ok (f : Nat) : ∀ g, orcsP f = some g → OrcOk Tryz.prog f g :=
  orc_chain (sorted_ok keysSorted) (orc_chain (sorted_ok keysCollected) (orc_chain cmpS (orc_chain containsS (orc_chain joinS (orc_chain formatS fun _ h => nomatch h)))))
theorem tabP_ok : TabOk Tryz.prog tabP := ⟨by kernel_rfl, fun f fi hf => rows_ok _ (findF_mem rows f fi hf), orcsP_ok⟩
def sB (b : ByteArray) : D := .v (.string b)
theorem evRA : evF tabP 200 (.fn n_q107) [queryD dPA] H0 = some (.v (.bool true), H0) := by kernel_rfl
theorem evRB : evF tabP 200 (.fn n_q107) [queryD dPB] H0 = some (.v (.bool true), H0) := by kernel_rfl
theorem evJ1 : (evF tabP 200 (.fn n_q111) [dItems, sB ⟨#[32, 116, 104, 101, 110, 32]⟩, .fn (.func n_q105) [] []] H0).map (fun x => (x.1)) = some (sB j1) := by kernel_rfl
theorem evJA : (evF tabP 200 (.fn n_q112) [dPA, sB ⟨#[32, 97, 110, 100, 32]⟩, .fn (.func n_q106) [] []] H0).map (fun x => (x.1)) = some (sB jA) := by kernel_rfl
theorem evJB : (evF tabP 200 (.fn n_q112) [dPB, sB ⟨#[32, 97, 110, 100, 32]⟩, .fn (.func n_q106) [] []] H0).map (fun x => (x.1)) = some (sB jB) := by kernel_rfl
theorem evPk : (evF tabP 200 (.fn n_q114) [] H0).map (fun x => (x.1)) = some (.agg [sB ⟨#[]⟩, sB ⟨#[97, 110, 121]⟩, sB ⟨#[110, 101, 120, 116]⟩, sB ⟨#[115, 116, 114, 105, 99, 116]⟩]) := by kernel_rfl
theorem later_below {w w' : World} (h : Below w.heap.size w w') : Later ρ0 (fun b => b < w.heap.size) w ρ0 (fun b => b < w'.heap.size) w' where
  ren _ _ h := h
  im b hb := Nat.lt_of_lt_of_le hb h.size
  imk b hb := h.block b hb
  shp b cs e f hb := ⟨cs, f, by rw [h.block b (Array.getElem?_eq_some_iff.1 hb).1]; exact hb, rfl⟩
theorem calls_of {f : FuncId} (ho : tabP.orc f = none) {args : List D} {d : D} (hev : (evF tabP 200 (.fn f) args H0).map (fun x => x.1) = some d) (hd : flat d = true) {W : World} {vs : Array Value} (hG : GlobOk Tryz.prog (fun b => b < W.heap.size) W) (hr : RelL ρ0 (fun b => b < W.heap.size) W args vs) (W' : World) (hb : Below W.heap.size W W') :
    Calls Tryz.prog f vs W' fun e w' => (∃ v, e = .returned v ∧ Rel ρ0 (fun _ => False) w' d v) ∧ Below W'.heap.size W' w' := by
  cases he : evF tabP 200 (.fn f) args H0 with
  | none => rw [he] at hev; cases hev
  | some x =>
    obtain ⟨d', H'⟩ := x
    rw [he] at hev
    simp only [Option.map_some, Option.some.injEq] at hev
    subst hev
    rw [evF_eq] at he
    exact law_calls tabP_ok ho he (hG.later (later_below hb)) (hr.mono (later_below hb)) hd
theorem calls_v {f : FuncId} (ho : tabP.orc f = none) {args : List D} {x : Value} (hev : (evF tabP 200 (.fn f) args H0).map (fun x => x.1) = some (.v x)) (hd : flat (.v x) = true) {W : World} {vs : Array Value} (hG : GlobOk Tryz.prog (fun b => b < W.heap.size) W) (hr : RelL ρ0 (fun b => b < W.heap.size) W args vs) (W' : World) (hb : Below W.heap.size W W') :
    Calls Tryz.prog f vs W' fun e w' => e = .returned x ∧ Below W'.heap.size W' w' := by
  refine (calls_of ho hev hd hG hr W' hb).mono ?_
  rintro e w' ⟨⟨v, rfl, h⟩, h2⟩
  exact ⟨by rw [h.v_inv], h2⟩
theorem arr_n {a : Array Value} {n : Nat} (h : a.size = n) : a = ((List.range n).map (gv a)).toArray := by
  apply Array.ext
  · simp [h]
  · intro i h1 h2
    simp [gv, h1]
theorem picks_val {ρ : Ren} {Im : Nat → Prop} {w : World} {a b c d v : Value} (h : Rel ρ Im w (.agg [.v a, .v b, .v c, .v d]) v) : v = .agg #[a, b, c, d] := by
  obtain ⟨cs, rfl, hl, h1, hr⟩ := h.agg_inv
  rw [arr_n hl.symm]
  have e0 := (hr 0 _ rfl).v_inv
  have e1 := (hr 1 _ rfl).v_inv
  have e2 := (hr 2 _ rfl).v_inv
  have e3 := (hr 3 _ rfl).v_inv
  simp [List.range_succ, e0, e1, e2, e3]
theorem query_val {ρ : Ren} {Im : Nat → Prop} {w : World} {l : List D} {v : Value} (h : Rel ρ Im w (queryD (.sl 1 l (some 1))) v) : ∃ vi a, v = .agg #[vi, .slice a 1 1, .int .i64 5, .string ⟨#[]⟩, .int .i64 1] ∧ Rel ρ Im w dItems vi ∧ Rel ρ Im w (.sl 1 l (some 1)) (.slice a 1 1) := by
  obtain ⟨cs, rfl, hl, h1, hr⟩ := h.agg_inv
  rw [arr_n hl.symm]
  have e0 := hr 0 _ rfl
  have e1 := hr 1 _ rfl
  have e2 := (hr 2 _ rfl).v_inv
  have e3 := (hr 3 _ rfl).v_inv
  have e4 := (hr 4 _ rfl).v_inv
  generalize hg1 : gv cs 1 = v1 at e1
  have h2 : ∃ a, v1 = .slice a 1 1 := by
    cases e1 with
    | sl cs hn hc hi hr => exact ⟨_, by rw [hc 1 rfl]⟩
  obtain ⟨a, rfl⟩ := h2
  refine ⟨gv cs 0, a, ?_, e0, e1⟩
  simp [List.range_succ, hg1, e2, e3, e4]
theorem prog_Print : ∀ args W, (callFunc n_q104 args).run Tryz.prog W = .ok (.enter n_q104 args) W := enters_of Tryz.func77 (by kernel_rfl) rfl
theorem print_of {p : List D} {j2 : ByteArray} (h2 : j2.size ≤ 1000000) (e1 : (evF tabP 200 (.fn n_q107) [queryD (.sl 1 p (some 1))] H0).map (fun x => x.1) = some (.v (.bool true)))
    (e2 : (evF tabP 200 (.fn n_q112) [.sl 1 p (some 1), sB ⟨#[32, 97, 110, 100, 32]⟩, .fn (.func n_q106) [] []] H0).map (fun x => x.1) = some (sB j2))
    {W : World} {v : Value} (hG : GlobOk Tryz.prog (fun b => b < W.heap.size) W) (hr : Rel ρ0 (fun b => b < W.heap.size) W (queryD (.sl 1 p (some 1))) v) :
    Calls Tryz.prog n_q104 #[v] W fun e w' => e = .returned (.string ⟨(printL j1 j2).toArray⟩) ∧ Below W.heap.size W w' := by
  have hr0 := hr
  obtain ⟨vi, a, rfl, hi, hp⟩ := query_val hr
  have rel3 : ∀ {d : D} {v : Value} (s : ByteArray) (g : FuncId), Rel ρ0 (fun b => b < W.heap.size) W d v → RelL ρ0 (fun b => b < W.heap.size) W [d, sB s, .fn (.func g) [] []] #[v, .string s, .func (.func g) #[] #[]] := by
    intro d v s g h
    refine ⟨rfl, fun i d' hd => ?_⟩
    match i, hd with
    | 0, hd => cases hd; exact h
    | 1, hd => cases hd; exact .v _
    | 2, hd => cases hd; exact .fn rfl (fun i d h => by simp at h) rfl (fun i d h => by simp at h)
    | n + 3, hd => simp at hd
  refine Print_walk vi a 1 j1 j2 W (by decide) h2 (calls_v (by kernel_rfl) e1 rfl hG (rel_one hr0)) (calls_v (by kernel_rfl) evJ1 rfl hG (rel3 _ _ hi)) (calls_v (by kernel_rfl) e2 rfl hG (rel3 _ _ hp)) fun W' hb => ?_
  refine (calls_of (by kernel_rfl) evPk rfl hG (vs := #[]) ⟨rfl, fun i d h => by simp at h⟩ W' hb).mono ?_
  rintro e w' ⟨⟨v, rfl, h⟩, h2⟩
  exact ⟨by rw [picks_val h], h2⟩
theorem printS : OrcOk Tryz.prog n_q104 orcPrint := by
  intro args H r H' hg ρ Im w vs hs hr
  unfold orcPrint at hg
  split at hg
  · rename_i a ha
    have him : ∀ b, Im b → b < w.heap.size := hs.imlt
    have hr' : RelL ρ0 (fun b => b < w.heap.size) w [a] vs := by
      obtain ⟨g1, g2⟩ := frzL_get ha
      refine ⟨by rw [g1, hr.1], fun i d' hd' => ?_⟩
      obtain ⟨d, e1, e2⟩ := g2 i d' hd'
      exact frz2_ok (ρ := ρ0) (lo := 0) hs (fun r hr => by omega) him (fun r o b _ h1 h2 => hs.lt h1 h2) 64 d d' _ e2 (hr.2 i d e1)
    have hG : GlobOk Tryz.prog (fun b => b < w.heap.size) w := hs.glob.more him
    have hv : vs = #[gv vs 0] := arr_one (by rw [← hr'.1]; rfl)
    have h0 := hr'.2 0 _ rfl
    have fin : ∀ t, (Calls Tryz.prog n_q104 #[gv vs 0] w fun e w' => e = .returned (.string t) ∧ Below w.heap.size w w') → Go.Aug.Came Tryz.prog ρ Im H w n_q104 args vs (.v (.string t)) H := by
      intro t hc
      rw [hv]
      refine .inl ⟨prog_Print _ w, fun n => (callsIn_wide.2 hc).mono ?_⟩
      rintro e w' ⟨rfl, hb⟩
      exact ⟨_, ρ, Im, rfl, Post.below hs hb, .v _⟩
    cases hA : eqD a (queryD dPA) with
    | true =>
      rw [hA] at hg
      simp only [cond_true, Option.some.injEq, Prod.mk.injEq] at hg
      obtain ⟨rfl, rfl⟩ := hg
      have := eqD_eq _ _ hA
      subst this
      exact fin _ (print_of (j2 := jA) (by decide) (congrArg (Option.map fun x => x.1) evRA) evJA hG h0)
    | false =>
      rw [hA] at hg
      cases hB : eqD a (queryD dPB) with
      | true =>
        rw [hB] at hg
        simp only [cond_true, cond_false, Option.some.injEq, Prod.mk.injEq] at hg
        obtain ⟨rfl, rfl⟩ := hg
        have := eqD_eq _ _ hB
        subst this
        exact fin _ (print_of (j2 := jB) (by decide) (congrArg (Option.map fun x => x.1) evRB) evJB hG h0)
      | false => rw [hB] at hg; simp at hg
  · cases hg
end Go.Proofs.YthdkeggdipogoaaGreatDoor.Tz

namespace Go.Proofs.YthdkeggdipogoaaGreatDoor.Tz
open Go.Aug
set_option maxRecDepth 100000
theorem mixed : Tryz.prog.follows .mixedOrders = true := by kernel_rfl
theorem tab_ok' (fz : Nat → Bool) (orc : Nat → Option (List D → Heap → Option (D × Heap))) (h : ∀ f g, orc f = some g → OrcOk Tryz.prog f g) : TabOk Tryz.prog ⟨findF rows, fz, orc⟩ :=
  ⟨mixed, fun f fi hf => rows_ok _ (findF_mem rows f fi hf), h⟩
theorem orcs0_ok (f : Nat) (g : List D → Heap → Option (D × Heap)) (h : orcs0 f = some g) : OrcOk Tryz.prog f g := by
  unfold orcs0 at h
  cases hk0 : Nat.beq f n_q89 with
  | true =>
    rw [hk0] at h
    simp only [cond_true, Option.some.injEq] at h
    rw [← h, Nat.eq_of_beq_eq_true hk0]
    exact sorted_ok keysSorted
  | false =>
    rw [hk0] at h
    simp only [cond_false] at h
    cases hk1 : Nat.beq f n_q81 with
    | true =>
      rw [hk1] at h
      simp only [cond_true, Option.some.injEq] at h
      rw [← h, Nat.eq_of_beq_eq_true hk1]
      exact sorted_ok keysCollected
    | false =>
      rw [hk1] at h
      simp only [cond_false] at h
      cases hk2 : Nat.beq f n_q46 with
      | true =>
        rw [hk2] at h
        simp only [cond_true, Option.some.injEq] at h
        rw [← h, Nat.eq_of_beq_eq_true hk2]
        exact cmpS
      | false =>
        rw [hk2] at h
        simp only [cond_false] at h
        cases hk3 : Nat.beq f n_q102 with
        | true =>
          rw [hk3] at h
          simp only [cond_true, Option.some.injEq] at h
          rw [← h, Nat.eq_of_beq_eq_true hk3]
          exact containsS
        | false =>
          rw [hk3] at h
          simp only [cond_false] at h
          cases hk4 : Nat.beq f n_q103 with
          | true =>
            rw [hk4] at h
            simp only [cond_true, Option.some.injEq] at h
            rw [← h, Nat.eq_of_beq_eq_true hk4]
            exact joinS
          | false =>
            rw [hk4] at h
            simp only [cond_false] at h
            cases hk5 : Nat.beq f n_q101 with
            | true =>
              rw [hk5] at h
              simp only [cond_true, Option.some.injEq] at h
              rw [← h, Nat.eq_of_beq_eq_true hk5]
              exact formatS
            | false =>
              rw [hk5] at h
              simp only [cond_false] at h
              cases hk6 : Nat.beq f n_q104 with
              | true =>
                rw [hk6] at h
                simp only [cond_true, Option.some.injEq] at h
                rw [← h, Nat.eq_of_beq_eq_true hk6]
                exact printS
              | false =>
                rw [hk6] at h
                simp only [cond_false] at h
                cases h
theorem tab0_ok : TabOk Tryz.prog tab0 := tab_ok' _ _ orcs0_ok
theorem augurylaw10_head_evF : evF tab0 400 (.fn n_q4) [] H0 = some (.v (.bool true), H0) := by kernel_rfl
theorem augurylaw10_head_ev : ev tab0 400 (.fn n_q4) [] H0 = some (.v (.bool true), H0) := by
  rw [← evF_eq]
  exact augurylaw10_head_evF
theorem augurylaw10_head_orc : OrcOk Tryz.prog n_q4 orcHead := by
  have h := pure_ok tab0_ok (f := n_q4) (spec := fun args => match args with | [] => some (.v (.bool true)) | _ => none) (fun args d h => by
    cases args with
    | nil => simp only [Option.some.injEq] at h; subst h; exact ⟨400, augurylaw10_head_ev⟩
    | cons a l => cases h)
  intro args H r H' hg
  refine h args H r H' ?_
  cases args with
  | nil => simpa [orcHead, pureOrc, D.under.underAll] using hg
  | cons a l => cases hg
theorem orcs_ok (f : Nat) (g : List D → Heap → Option (D × Heap)) (h : orcs f = some g) : OrcOk Tryz.prog f g := by
  unfold orcs at h
  cases hk0 : Nat.beq f n_q4 with
  | true =>
    rw [hk0] at h
    simp only [cond_true, Option.some.injEq] at h
    rw [← h, Nat.eq_of_beq_eq_true hk0]
    exact augurylaw10_head_orc
  | false =>
    rw [hk0] at h
    simp only [cond_false] at h
    exact orcs0_ok f g (by unfold orcs0; exact h)
theorem tab_ok : TabOk Tryz.prog tab := tab_ok' _ _ orcs_ok
end Go.Proofs.YthdkeggdipogoaaGreatDoor.Tz
