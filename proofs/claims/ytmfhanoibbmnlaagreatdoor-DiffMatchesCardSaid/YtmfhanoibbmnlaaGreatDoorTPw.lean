/-
What tree.Print is made of, named; strconv.FormatInt. Conditions: none.
-/
import Derived.Test.YtmfhanoibbmnlaaGreatDoorTPm
import Derived.Test.YtmfhanoibbmnlaaGreatDoorTPn
namespace Go.Proofs.YtmfhanoibbmnlaaGreatDoor.Tz
open Go.Aug Go.RowKit
set_option maxRecDepth 100000
theorem format_calls (n : Int) (W : World) (h0 : -9223372036854775808 ≤ n) (h1 : n ≤ 9223372036854775807) (hG : GlobOk Tryz.prog (fun b => b < W.heap.size) W) :
    Calls Tryz.prog n_q105 #[.int .i64 n, .int .i64 10] W fun e w' => e = .returned (.string ⟨(Lib.itoa n).toArray⟩) ∧ Below W.heap.size W w' := by
  have hgl : (Tryz.prog.globals[(Tryz.prog.globalNamed "internal/strconv.uint64pow10").getD 0]?.any fun gl => gl.name == "internal/strconv.uint64pow10") = true := by kernel_rfl
  obtain ⟨gl, hg, hn⟩ : ∃ gl, Tryz.prog.globals[(Tryz.prog.globalNamed "internal/strconv.uint64pow10").getD 0]? = some gl ∧ gl.name = "internal/strconv.uint64pow10" := by
    cases h : Tryz.prog.globals[(Tryz.prog.globalNamed "internal/strconv.uint64pow10").getD 0]? with
    | none => rw [h] at hgl; cases hgl
    | some gl => rw [h] at hgl; exact ⟨gl, rfl, by simpa using hgl⟩
  exact (Go.Proofs.Any.strconv_FormatInt_10 formatL n h0 h1 W (tab_of hg hn (by kernel_rfl) hG)).mono (by
    rintro e w' ⟨rfl, k, os, rfl⟩
    exact ⟨rfl, below_grownF W k os⟩)
end Go.Proofs.YtmfhanoibbmnlaaGreatDoor.Tz

namespace Go.Proofs.YtmfhanoibbmnlaaGreatDoor.Tz
open Go.Aug Go.RowKit
set_option maxRecDepth 100000
def EvOk (ev : FuncId → List D → Option D) : Prop := ∀ (f : FuncId) (args : List D) (x : Value), (f = n_q111 ∨ f = n_q115 ∨ f = n_q116) → flat (.v x) = true → ev f args = some (.v x) → ∀ {W : World} {vs : Array Value}, GlobOk Tryz.prog (fun b => b < W.heap.size) W → RelL ρ0 (fun b => b < W.heap.size) W args vs →
  ∀ W', Below W.heap.size W W' → Calls Tryz.prog f vs W' fun e w' => e = .returned x ∧ Below W'.heap.size W' w'
theorem slLen_val {ρ : Ren} {Im : Nat → Prop} {w : World} {p : D} {m : Nat} {v : Value} (hm : slLen p = some m) (h : Rel ρ Im w p v) : ∃ a c, v = .slice a m c := by
  unfold slLen at hm
  split at hm
  · cases hm
    exact ⟨none, 0, h.v_inv⟩
  · cases hm
    cases h with
    | sl => exact ⟨_, _, rfl⟩
    | sz => exact ⟨_, _, rfl⟩
  · cases hm
theorem queryG_val {ρ : Ren} {Im : Nat → Prop} {w : World} {vi p : D} {m : Nat} {wi pk : Int} {by_ : ByteArray} {v : Value} (hm : slLen p = some m) (h : Rel ρ Im w (.agg [vi, p, .v (.int .i64 wi), .v (.string by_), .v (.int .i64 pk)]) v) :
    ∃ x a c, v = .agg #[x, .slice a m c, .int .i64 wi, .string by_, .int .i64 pk] ∧ Rel ρ Im w vi x ∧ Rel ρ Im w p (.slice a m c) := by
  obtain ⟨cs, rfl, hl, h1, hr⟩ := h.agg_inv
  rw [arr_n hl.symm]
  have e0 := hr 0 _ rfl
  have e1 := hr 1 _ rfl
  have e2 := (hr 2 _ rfl).v_inv
  have e3 := (hr 3 _ rfl).v_inv
  have e4 := (hr 4 _ rfl).v_inv
  generalize hg1 : gv cs 1 = v1 at e1
  obtain ⟨a, c, rfl⟩ := slLen_val hm e1
  refine ⟨gv cs 0, a, c, ?_, e0, e1⟩
  simp [List.range_succ, hg1, e2, e3, e4]
theorem print_by {ev : FuncId → List D → Option D} (hev : EvOk ev) {a : D} {t : ByteArray} (h : printBy ev a = some t) {W : World} {v : Value} (hG : GlobOk Tryz.prog (fun b => b < W.heap.size) W) (hr : Rel ρ0 (fun b => b < W.heap.size) W a v) :
    Calls Tryz.prog n_q108 #[v] W fun e w' => e = .returned (.string t) ∧ Below W.heap.size W w' := by
  unfold printBy at h
  split at h
  · rename_i vi p wi by_ pk
    split at h
    · rename_i m j1 hm e0 e1
      split at h
      · rename_i hb
        obtain ⟨b1, b3', b4, b5, b6, b7⟩ := hb
        have hr0 := hr
        obtain ⟨x, a, c, rfl, hi, hp⟩ := queryG_val hm hr
        have rel3 : ∀ {d : D} {v : Value} (s : ByteArray) (g : FuncId), Rel ρ0 (fun b => b < W.heap.size) W d v → RelL ρ0 (fun b => b < W.heap.size) W [d, sB s, .fn (.func g) [] []] #[v, .string s, .func (.func g) #[] #[]] := by
          intro d v s g h
          refine ⟨rfl, fun i d' hd => ?_⟩
          match i, hd with
          | 0, hd => cases hd; exact h
          | 1, hd => cases hd; exact .v _
          | 2, hd => cases hd; exact .fn rfl (fun i d h => by simp at h) rfl (fun i d h => by simp at h)
          | n + 3, hd => simp at hd
        have hR := hev _ _ _ (.inl rfl) rfl e0 hG (rel_one hr0)
        have hJ1 := hev _ _ _ (.inr (.inl rfl)) rfl e1 hG (rel3 thenB n_q109 hi)
        have hP : ∀ W', Below W.heap.size W W' → Calls Tryz.prog n_q118 #[] W' fun e w' => e = .returned (.agg #[.string ⟨#[]⟩, .string ⟨#[97, 110, 121]⟩, .string ⟨#[110, 101, 120, 116]⟩, .string ⟨#[115, 116, 114, 105, 99, 116]⟩]) ∧ Below W'.heap.size W' w' := fun W' hb => by
          refine (calls_of (by kernel_rfl) evPk rfl hG (vs := #[]) ⟨rfl, fun i d h => by simp at h⟩ W' hb).mono ?_
          rintro e w' ⟨⟨v, rfl, h⟩, h2⟩
          exact ⟨by rw [picks_val h], h2⟩
        have hF : ∀ W', Below W.heap.size W W' → Calls Tryz.prog n_q105 #[.int .i64 wi, .int .i64 10] W' fun e w' => e = .returned (.string ⟨(Lib.itoa wi).toArray⟩) ∧ Below W'.heap.size W' w' := fun W' hb => format_calls wi W' b4 b5 (hG.later (later_below hb))
        have hlen : (⟨(Lib.itoa wi).toArray⟩ : ByteArray).size ≤ 1000000 := by
          have := Lib.itoa_length_le wi b4 b5
          show (Lib.itoa wi).toArray.size ≤ _
          simp
          omega
        have hpk : pk = 1 ∨ pk = 2 ∨ pk = 3 := by omega
        have hps : (pickB pk).size ≤ 1000000 := by rcases hpk with rfl | rfl | rfl <;> decide
        have hidx : ∀ w, (Instr.index 125 (.agg #[.string ⟨#[]⟩, .string ⟨#[97, 110, 121]⟩, .string ⟨#[110, 101, 120, 116]⟩, .string ⟨#[115, 116, 114, 105, 99, 116]⟩]) (.int .i64 pk)).run Tryz.prog w = .ok (.string (pickB pk)) w := fun w => by
          rcases hpk with rfl | rfl | rfl <;> kernel_rfl
        split at h
        · rename_i hm0
          subst hm0
          cases h
          by_cases hby : by_ = ⟨#[]⟩
          · subst hby
            have := Print_walkN0 x a c j1 ⟨(Lib.itoa wi).toArray⟩ (pickB pk) wi pk W hlen hps b1 hR hJ1 hP hF hidx
            unfold textG
            simp only [if_true]
            exact this
          · have := Print_walkNB x a c j1 ⟨(Lib.itoa wi).toArray⟩ (pickB pk) by_ wi pk W hby b3' hlen hps b1 hR hJ1 hP hF hidx
            unfold textG
            simp only [if_neg hby]
            exact this
        · rename_i hm0
          split at h
          · rename_i j2 e2
            split at h
            · rename_i b2
              cases h
              have hJ2 := hev _ _ _ (.inr (.inr rfl)) rfl e2 hG (rel3 andB n_q110 hp)
              have hmp : 0 < m := by omega
              by_cases hby : by_ = ⟨#[]⟩
              · subst hby
                have := Print_walkM0 x a m c hmp j1 j2 ⟨(Lib.itoa wi).toArray⟩ (pickB pk) wi pk W hlen hps b1 b2 hR hJ1 hJ2 hP hF hidx
                unfold textG
                simp only [if_true]
                exact this
              · have := Print_walkMB x a m c hmp j1 j2 ⟨(Lib.itoa wi).toArray⟩ (pickB pk) by_ wi pk W hby b3' hlen hps b1 b2 hR hJ1 hJ2 hP hF hidx
                unfold textG
                simp only [if_neg hby]
                exact this
            · cases h
          · cases h
      · cases h
    · cases h
  · cases h
theorem printS_by {ev : FuncId → List D → Option D} (hev : EvOk ev) : OrcOk Tryz.prog n_q108 (orcPrintBy ev) := by
  intro args H r H' hg ρ Im w vs hs hr
  unfold orcPrintBy at hg
  split at hg
  · rename_i a ha
    have him : ∀ b, Im b → b < w.heap.size := hs.imlt
    have hr' : RelL ρ0 (fun b => b < w.heap.size) w [a] vs := by
      obtain ⟨g1, g2⟩ := frzL_get ha
      refine ⟨by rw [g1, hr.1], fun i d' hd' => ?_⟩
      obtain ⟨d, e1, e2⟩ := g2 i d' hd'
      exact frz2_ok (ρ := ρ0) (lo := 0) hs (fun r hr => by omega) him (fun r o b _ h1 h2 => hs.lt h1 h2) 64 d d' _ e2 (hr.2 i d e1)
    have hG : GlobOk Tryz.prog (fun b => b < w.heap.size) w := hs.glob.more him
    have hv : vs = #[gv vs 0] := arr_one (by rw [← hr'.1]; rfl)
    have h0 := hr'.2 0 _ rfl
    cases ht : printBy ev a with
    | none => rw [ht] at hg; cases hg
    | some t =>
      rw [ht] at hg
      simp only [Option.map_some, Option.some.injEq, Prod.mk.injEq] at hg
      obtain ⟨rfl, rfl⟩ := hg
      rw [hv]
      refine .inl ⟨prog_Print _ w, fun n => (callsIn_wide.2 (print_by hev ht hG h0)).mono ?_⟩
      rintro e w' ⟨rfl, hb⟩
      exact ⟨_, ρ, Im, rfl, Post.below hs hb, .v _⟩
  · cases hg
theorem evP_ok : EvOk evP := fun f args x hf hd hev W vs hG hr W' hb => calls_v (by rcases hf with rfl | rfl | rfl <;> kernel_rfl) hev hd hG hr W' hb
end Go.Proofs.YtmfhanoibbmnlaaGreatDoor.Tz

namespace Go.Proofs.YtmfhanoibbmnlaaGreatDoor.Tz
open Go.Aug
set_option maxRecDepth 100000
theorem mixed : Tryz.prog.follows .mixedOrders = true := by kernel_rfl
theorem tab_ok' (fz : Nat → Bool) (orc : Nat → Option (List D → Heap → Option (D × Heap))) (h : ∀ f g, orc f = some g → OrcOk Tryz.prog f g) : TabOk Tryz.prog ⟨findF rows, fz, orc⟩ :=
  ⟨mixed, fun f fi hf => rows_ok _ (findF_mem rows f fi hf), h⟩
theorem orcs0_ok (f : Nat) (g : List D → Heap → Option (D × Heap)) (h : orcs0 f = some g) : OrcOk Tryz.prog f g := by
  unfold orcs0 at h
  cases hk0 : Nat.beq f n_q93 with
  | true =>
    rw [hk0] at h
    simp only [cond_true, Option.some.injEq] at h
    rw [← h, Nat.eq_of_beq_eq_true hk0]
    exact sorted_ok keysSorted
  | false =>
    rw [hk0] at h
    simp only [cond_false] at h
    cases hk1 : Nat.beq f n_q106 with
    | true =>
      rw [hk1] at h
      simp only [cond_true, Option.some.injEq] at h
      rw [← h, Nat.eq_of_beq_eq_true hk1]
      exact containsS
    | false =>
      rw [hk1] at h
      simp only [cond_false] at h
      cases hk2 : Nat.beq f n_q107 with
      | true =>
        rw [hk2] at h
        simp only [cond_true, Option.some.injEq] at h
        rw [← h, Nat.eq_of_beq_eq_true hk2]
        exact joinS
      | false =>
        rw [hk2] at h
        simp only [cond_false] at h
        cases hk3 : Nat.beq f n_q105 with
        | true =>
          rw [hk3] at h
          simp only [cond_true, Option.some.injEq] at h
          rw [← h, Nat.eq_of_beq_eq_true hk3]
          exact formatS
        | false =>
          rw [hk3] at h
          simp only [cond_false] at h
          cases hk4 : Nat.beq f n_q108 with
          | true =>
            rw [hk4] at h
            simp only [cond_true, Option.some.injEq] at h
            rw [← h, Nat.eq_of_beq_eq_true hk4]
            exact printS_by evP_ok
          | false =>
            rw [hk4] at h
            simp only [cond_false] at h
            cases h
theorem tab0_ok : TabOk Tryz.prog tab0 := tab_ok' _ _ orcs0_ok
theorem augurylaw19_head_evF : evF tab0 400 (.fn n_q6) [] H0 = some (.v (.bool true), H0) := by kernel_rfl
theorem augurylaw19_head_ev : ev tab0 400 (.fn n_q6) [] H0 = some (.v (.bool true), H0) := by
  rw [← evF_eq]
  exact augurylaw19_head_evF
theorem augurylaw19_head_orc : OrcOk Tryz.prog n_q6 orcHead := by
  have h := pure_ok tab0_ok (f := n_q6) (spec := fun args => match args with | [] => some (.v (.bool true)) | _ => none) (fun args d h => by
    cases args with
    | nil => simp only [Option.some.injEq] at h; subst h; exact ⟨400, augurylaw19_head_ev⟩
    | cons a l => cases h)
  intro args H r H' hg
  refine h args H r H' ?_
  cases args with
  | nil => simpa [orcHead, pureOrc, D.under.underAll] using hg
  | cons a l => cases hg
theorem orcs_ok (f : Nat) (g : List D → Heap → Option (D × Heap)) (h : orcs f = some g) : OrcOk Tryz.prog f g := by
  unfold orcs at h
  cases hk0 : Nat.beq f n_q6 with
  | true =>
    rw [hk0] at h
    simp only [cond_true, Option.some.injEq] at h
    rw [← h, Nat.eq_of_beq_eq_true hk0]
    exact augurylaw19_head_orc
  | false =>
    rw [hk0] at h
    simp only [cond_false] at h
    exact orcs0_ok f g (by unfold orcs0; exact h)
theorem tab_ok : TabOk Tryz.prog tab := tab_ok' _ _ orcs_ok
end Go.Proofs.YtmfhanoibbmnlaaGreatDoor.Tz

namespace Go.Proofs.YtmfhanoibbmnlaaGreatDoor.Tz
open Go.Aug Go.RowKit
set_option maxRecDepth 100000
def textP (j1 j2 : ByteArray) (wi : Int) (by_ : ByteArray) (pk : Int) : ByteArray :=
  ⟨(if by_ = ⟨#[]⟩ then partsT j1 j2 ⟨(Lib.itoa wi).toArray⟩ ++ pickT (pickB pk) else partsT j1 j2 ⟨(Lib.itoa wi).toArray⟩ ++ (byT by_ ++ pickT (pickB pk))).toArray⟩
noncomputable def printSpec : D → Option ByteArray
  | .agg [vi, .sl 1 l (some 1), .v (.int .i64 wi), .v (.string by_), .v (.int .i64 pk)] =>
    match runSpec tab n_q111 [.agg [vi, .sl 1 l (some 1), .v (.int .i64 wi), .v (.string by_), .v (.int .i64 pk)]], runSpec tab n_q115 [vi, sB thenB, .fn (.func n_q109) [] []], runSpec tab n_q116 [.sl 1 l (some 1), sB andB, .fn (.func n_q110) [] []] with
    | some (.v (.bool true)), some (.v (.string j1)), some (.v (.string j2)) =>
      if j1.size ≤ 1000000 ∧ j2.size ≤ 1000000 ∧ by_.size ≤ 1000000 ∧ -9223372036854775808 ≤ wi ∧ wi ≤ 9223372036854775807 ∧ 1 ≤ pk ∧ pk ≤ 3 then some (textP j1 j2 wi by_ pk) else none
    | _, _, _ => none
  | _ => none
noncomputable def orcPrintN (args : List D) (H : Heap) : Option (D × Heap) :=
  match frzL (frz2 H 0 64) args with
  | some [a] => (printSpec a).map fun t => (.v (.string t), H)
  | _ => none
theorem queryN_val {ρ : Ren} {Im : Nat → Prop} {w : World} {vi : D} {l : List D} {wi pk : Int} {by_ : ByteArray} {v : Value} (h : Rel ρ Im w (.agg [vi, .sl 1 l (some 1), .v (.int .i64 wi), .v (.string by_), .v (.int .i64 pk)]) v) :
    ∃ x a, v = .agg #[x, .slice a 1 1, .int .i64 wi, .string by_, .int .i64 pk] ∧ Rel ρ Im w vi x ∧ Rel ρ Im w (.sl 1 l (some 1)) (.slice a 1 1) := by
  obtain ⟨cs, rfl, hl, h1, hr⟩ := h.agg_inv
  rw [arr_n hl.symm]
  have e0 := hr 0 _ rfl
  have e1 := hr 1 _ rfl
  have e2 := (hr 2 _ rfl).v_inv
  have e3 := (hr 3 _ rfl).v_inv
  have e4 := (hr 4 _ rfl).v_inv
  generalize hg1 : gv cs 1 = v1 at e1
  have h2 : ∃ a, v1 = .slice a 1 1 := by
    cases e1 with
    | sl cs hn hc hi hr => exact ⟨_, by rw [hc 1 rfl]⟩
  obtain ⟨a, rfl⟩ := h2
  refine ⟨gv cs 0, a, ?_, e0, e1⟩
  simp [List.range_succ, hg1, e2, e3, e4]
theorem calls_spec {f : FuncId} (ho : tab.orc f = none) {args : List D} {x : Value} (hev : runSpec tab f args = some (.v x)) (hd : flat (.v x) = true) {W : World} {vs : Array Value} (hG : GlobOk Tryz.prog (fun b => b < W.heap.size) W) (hr : RelL ρ0 (fun b => b < W.heap.size) W args vs) (W' : World) (hb : Below W.heap.size W W') :
    Calls Tryz.prog f vs W' fun e w' => e = .returned x ∧ Below W'.heap.size W' w' := by
  obtain ⟨n, he⟩ := runSpec_run hev
  refine (law_calls tab_ok ho he (hG.later (later_below hb)) (hr.mono (later_below hb)) hd).mono ?_
  rintro e w' ⟨⟨v, rfl, h⟩, h2⟩
  exact ⟨by rw [h.v_inv], h2⟩
theorem print_spec {a : D} {t : ByteArray} (h : printSpec a = some t) {W : World} {v : Value} (hG : GlobOk Tryz.prog (fun b => b < W.heap.size) W) (hr : Rel ρ0 (fun b => b < W.heap.size) W a v) :
    Calls Tryz.prog n_q108 #[v] W fun e w' => e = .returned (.string t) ∧ Below W.heap.size W w' := by
  unfold printSpec at h
  split at h
  · rename_i vi l wi by_ pk
    split at h
    · rename_i j1 j2 e0 e1 e2
      split at h
      · rename_i hb
        obtain ⟨b1, b2, b3', b4, b5, b6, b7⟩ := hb
        cases h
        have hr0 := hr
        obtain ⟨x, a, rfl, hi, hp⟩ := queryN_val hr
        have rel3 : ∀ {d : D} {v : Value} (s : ByteArray) (g : FuncId), Rel ρ0 (fun b => b < W.heap.size) W d v → RelL ρ0 (fun b => b < W.heap.size) W [d, sB s, .fn (.func g) [] []] #[v, .string s, .func (.func g) #[] #[]] := by
          intro d v s g h
          refine ⟨rfl, fun i d' hd => ?_⟩
          match i, hd with
          | 0, hd => cases hd; exact h
          | 1, hd => cases hd; exact .v _
          | 2, hd => cases hd; exact .fn rfl (fun i d h => by simp at h) rfl (fun i d h => by simp at h)
          | n + 3, hd => simp at hd
        have hR := calls_spec (by kernel_rfl) e0 rfl hG (rel_one hr0)
        have hJ1 := calls_spec (by kernel_rfl) e1 rfl hG (rel3 thenB n_q109 hi)
        have hJ2 := calls_spec (by kernel_rfl) e2 rfl hG (rel3 andB n_q110 hp)
        have hP : ∀ W', Below W.heap.size W W' → Calls Tryz.prog n_q118 #[] W' fun e w' => e = .returned (.agg #[.string ⟨#[]⟩, .string ⟨#[97, 110, 121]⟩, .string ⟨#[110, 101, 120, 116]⟩, .string ⟨#[115, 116, 114, 105, 99, 116]⟩]) ∧ Below W'.heap.size W' w' := fun W' hb => by
          refine (calls_of (by kernel_rfl) evPk rfl hG (vs := #[]) ⟨rfl, fun i d h => by simp at h⟩ W' hb).mono ?_
          rintro e w' ⟨⟨v, rfl, h⟩, h2⟩
          exact ⟨by rw [picks_val h], h2⟩
        have hF : ∀ W', Below W.heap.size W W' → Calls Tryz.prog n_q105 #[.int .i64 wi, .int .i64 10] W' fun e w' => e = .returned (.string ⟨(Lib.itoa wi).toArray⟩) ∧ Below W'.heap.size W' w' := fun W' hb => format_calls wi W' b4 b5 (hG.later (later_below hb))
        have hlen : (⟨(Lib.itoa wi).toArray⟩ : ByteArray).size ≤ 1000000 := by
          have := Lib.itoa_length_le wi b4 b5
          show (Lib.itoa wi).toArray.size ≤ _
          simp
          omega
        have hpk : pk = 1 ∨ pk = 2 ∨ pk = 3 := by omega
        have hps : (pickB pk).size ≤ 1000000 := by rcases hpk with rfl | rfl | rfl <;> decide
        have hidx : ∀ w, (Instr.index 125 (.agg #[.string ⟨#[]⟩, .string ⟨#[97, 110, 121]⟩, .string ⟨#[110, 101, 120, 116]⟩, .string ⟨#[115, 116, 114, 105, 99, 116]⟩]) (.int .i64 pk)).run Tryz.prog w = .ok (.string (pickB pk)) w := fun w => by
          rcases hpk with rfl | rfl | rfl <;> kernel_rfl
        by_cases hby : by_ = ⟨#[]⟩
        · subst hby
          have := Print_walk0 x a 1 j1 j2 ⟨(Lib.itoa wi).toArray⟩ (pickB pk) wi pk W hlen hps b1 b2 hR hJ1 hJ2 hP hF hidx
          unfold textP
          rw [if_pos rfl]
          exact this
        · have := Print_walkB x a 1 j1 j2 ⟨(Lib.itoa wi).toArray⟩ (pickB pk) by_ wi pk W hby b3' hlen hps b1 b2 hR hJ1 hJ2 hP hF hidx
          unfold textP
          rw [if_neg hby]
          exact this
      · cases h
    · cases h
  · cases h
theorem printN : OrcOk Tryz.prog n_q108 orcPrintN := by
  intro args H r H' hg ρ Im w vs hs hr
  unfold orcPrintN at hg
  split at hg
  · rename_i a ha
    have him : ∀ b, Im b → b < w.heap.size := hs.imlt
    have hr' : RelL ρ0 (fun b => b < w.heap.size) w [a] vs := by
      obtain ⟨g1, g2⟩ := frzL_get ha
      refine ⟨by rw [g1, hr.1], fun i d' hd' => ?_⟩
      obtain ⟨d, e1, e2⟩ := g2 i d' hd'
      exact frz2_ok (ρ := ρ0) (lo := 0) hs (fun r hr => by omega) him (fun r o b _ h1 h2 => hs.lt h1 h2) 64 d d' _ e2 (hr.2 i d e1)
    have hG : GlobOk Tryz.prog (fun b => b < w.heap.size) w := hs.glob.more him
    have hv : vs = #[gv vs 0] := arr_one (by rw [← hr'.1]; rfl)
    have h0 := hr'.2 0 _ rfl
    cases ht : printSpec a with
    | none => rw [ht] at hg; cases hg
    | some t =>
      rw [ht] at hg
      simp only [Option.map_some, Option.some.injEq, Prod.mk.injEq] at hg
      obtain ⟨rfl, rfl⟩ := hg
      rw [hv]
      refine .inl ⟨prog_Print _ w, fun n => (callsIn_wide.2 (print_spec ht hG h0)).mono ?_⟩
      rintro e w' ⟨rfl, hb⟩
      exact ⟨_, ρ, Im, rfl, Post.below hs hb, .v _⟩
  · cases hg
end Go.Proofs.YtmfhanoibbmnlaaGreatDoor.Tz

namespace Go.Proofs.YtmfhanoibbmnlaaGreatDoor.Tz
open Go.Aug
set_option maxRecDepth 100000
def isLaw (f : Nat) : List Nat → Bool
  | [] => false
  | k :: l => cond (Nat.beq f k) true (isLaw f l)
end Go.Proofs.YtmfhanoibbmnlaaGreatDoor.Tz
