/-
strings.Contains at this dump, by the shelf. Conditions: none.
-/
import Derived.Shelf.Strings.Search3
import Derived.Test.YtmfhanoibbmnlaaGreatDoorTPr
import Derived.Test.YtmfhanoibbmnlaaGreatDoorTO2
namespace Go.Proofs.YtmfhanoibbmnlaaGreatDoor.Tz
open Go.RowKit Go.Shelf Go.Proofs Go.Aug
def containsL_ren : Go.Shelf.Ren := ⟨fun | 144 => 127 | 143 => 157 | 219 => 176 | 217 => 186 | 225 => 187 | 224 => 188 | 267 => 189 | 266 => 194 | 314 => 195 | n => n, fun | 9 => 9 | 4 => 4 | 3 => 3 | 5 => 5 | 46 => 158 | 146 => 228 | 51 => 183 | n => n, fun | 1 => 1 | n => n⟩
theorem containsL : Go.Proofs.Lays.n144 Tryz.prog containsL_ren where
  mixed := by kernel_rfl
  f143 := Tryz.func157.trans (congrArg some (by kernel_rfl))
  f144 := Tryz.func127.trans (congrArg some (by kernel_rfl))
  f217 := Tryz.func186.trans (congrArg some (by kernel_rfl))
  f219 := Tryz.func176.trans (congrArg some (by kernel_rfl))
  f224 := Tryz.func188.trans (congrArg some (by kernel_rfl))
  f225 := Tryz.func187.trans (congrArg some (by kernel_rfl))
  f266 := Tryz.func194.trans (congrArg some (by kernel_rfl))
  f267 := Tryz.func189.trans (congrArg some (by kernel_rfl))
  f314 := Tryz.func195.trans (congrArg some (by kernel_rfl))
  t3 := Tryz.underlying3
  a3 := Tryz.isAgg3
  z3 := Tryz.sizeOf3
  v3 := Tryz.zeroValue3
  t4 := Tryz.underlying4
  a4 := Tryz.isAgg4
  z4 := Tryz.sizeOf4
  v4 := Tryz.zeroValue4
  t5 := Tryz.underlying5
  a5 := Tryz.isAgg5
  z5 := Tryz.sizeOf5
  v5 := Tryz.zeroValue5
  t9 := Tryz.underlying9
  a9 := Tryz.isAgg9
  z9 := Tryz.sizeOf9
  v9 := Tryz.zeroValue9
  t46 := Tryz.underlying158
  a46 := Tryz.isAgg158
  z46 := Tryz.sizeOf158
  v46 := Tryz.zeroValue158
  t51 := Tryz.underlying183
  a51 := Tryz.isAgg183
  z51 := Tryz.sizeOf183
  v51 := Tryz.zeroValue183
  t146 := Tryz.underlying228
  a146 := Tryz.isAgg228
  z146 := Tryz.sizeOf228
  v146 := Tryz.zeroValue228
  g1 := by kernel_rfl
theorem containsS : OrcOk Tryz.prog n_q106 orcContains :=
  contains_ok (g := 1) (by kernel_rfl) (enters_of Tryz.func127 (by kernel_rfl) rfl) fun s sub m W hs hm => Any.strings_Contains containsL s sub m W hs hm
end Go.Proofs.YtmfhanoibbmnlaaGreatDoor.Tz

namespace Go.Proofs.YtmfhanoibbmnlaaGreatDoor.Tz
open Go.Aug Go.RowKit
set_option maxRecDepth 100000
theorem orc_chain {P : Program} {f k : Nat} {g0 : List D → Heap → Option (D × Heap)} {rest : Option (List D → Heap → Option (D × Heap))} (h1 : OrcOk P k g0) (h2 : ∀ g, rest = some g → OrcOk P f g) : ∀ g, cond (Nat.beq f k) (some g0) rest = some g → OrcOk P f g := by
  intro g hg
  cases hk : Nat.beq f k with
  | true =>
    rw [hk] at hg
    simp only [cond_true, Option.some.injEq] at hg
    rw [← hg, Nat.eq_of_beq_eq_true hk]
    exact h1
  | false => rw [hk] at hg; exact h2 g hg
theorem orcsP_ok (f : Nat) : ∀ g, orcsP f = some g → OrcOk Tryz.prog f g :=
  orc_chain (sorted_ok keysSorted) (orc_chain containsS (orc_chain joinS (orc_chain formatS (fun _ h => nomatch h))))
theorem tabP_ok : TabOk Tryz.prog tabP := ⟨by kernel_rfl, fun f fi hf => rows_ok _ (findF_mem rows f fi hf), orcsP_ok⟩
theorem evPk : (evF tabP 200 (.fn n_q118) [] H0).map (fun x => (x.1)) = some (.agg [sB ⟨#[]⟩, sB ⟨#[97, 110, 121]⟩, sB ⟨#[110, 101, 120, 116]⟩, sB ⟨#[115, 116, 114, 105, 99, 116]⟩]) := by kernel_rfl
theorem later_below {w w' : World} (h : Below w.heap.size w w') : Later ρ0 (fun b => b < w.heap.size) w ρ0 (fun b => b < w'.heap.size) w' where
  ren _ _ h := h
  im b hb := Nat.lt_of_lt_of_le hb h.size
  imk b hb := h.block b hb
  shp b cs e f hb := ⟨cs, f, by rw [h.block b (Array.getElem?_eq_some_iff.1 hb).1]; exact hb, rfl⟩
theorem calls_of {f : FuncId} (ho : tabP.orc f = none) {args : List D} {d : D} (hev : (evF tabP 200 (.fn f) args H0).map (fun x => x.1) = some d) (hd : flat d = true) {W : World} {vs : Array Value} (hG : GlobOk Tryz.prog (fun b => b < W.heap.size) W) (hr : RelL ρ0 (fun b => b < W.heap.size) W args vs) (W' : World) (hb : Below W.heap.size W W') :
    Calls Tryz.prog f vs W' fun e w' => (∃ v, e = .returned v ∧ Rel ρ0 (fun _ => False) w' d v) ∧ Below W'.heap.size W' w' := by
  cases he : evF tabP 200 (.fn f) args H0 with
  | none => rw [he] at hev; cases hev
  | some x =>
    obtain ⟨d', H'⟩ := x
    rw [he] at hev
    simp only [Option.map_some, Option.some.injEq] at hev
    subst hev
    rw [evF_eq] at he
    exact law_calls tabP_ok ho he (hG.later (later_below hb)) (hr.mono (later_below hb)) hd
theorem calls_v {f : FuncId} (ho : tabP.orc f = none) {args : List D} {x : Value} (hev : (evF tabP 200 (.fn f) args H0).map (fun x => x.1) = some (.v x)) (hd : flat (.v x) = true) {W : World} {vs : Array Value} (hG : GlobOk Tryz.prog (fun b => b < W.heap.size) W) (hr : RelL ρ0 (fun b => b < W.heap.size) W args vs) (W' : World) (hb : Below W.heap.size W W') :
    Calls Tryz.prog f vs W' fun e w' => e = .returned x ∧ Below W'.heap.size W' w' := by
  refine (calls_of ho hev hd hG hr W' hb).mono ?_
  rintro e w' ⟨⟨v, rfl, h⟩, h2⟩
  exact ⟨by rw [h.v_inv], h2⟩
theorem arr_n {a : Array Value} {n : Nat} (h : a.size = n) : a = ((List.range n).map (gv a)).toArray := by
  apply Array.ext
  · simp [h]
  · intro i h1 h2
    simp [gv, h1]
theorem picks_val {ρ : Ren} {Im : Nat → Prop} {w : World} {a b c d v : Value} (h : Rel ρ Im w (.agg [.v a, .v b, .v c, .v d]) v) : v = .agg #[a, b, c, d] := by
  obtain ⟨cs, rfl, hl, h1, hr⟩ := h.agg_inv
  rw [arr_n hl.symm]
  have e0 := (hr 0 _ rfl).v_inv
  have e1 := (hr 1 _ rfl).v_inv
  have e2 := (hr 2 _ rfl).v_inv
  have e3 := (hr 3 _ rfl).v_inv
  simp [List.range_succ, e0, e1, e2, e3]
theorem prog_Print : ∀ args W, (callFunc n_q108 args).run Tryz.prog W = .ok (.enter n_q108 args) W := enters_of Tryz.func34 (by kernel_rfl) rfl
end Go.Proofs.YtmfhanoibbmnlaaGreatDoor.Tz

namespace Go.Proofs.YtmfhanoibbmnlaaGreatDoor.Tz
open Go.RowKit Go.Aug Go.Proofs Go.Shelf
set_option maxRecDepth 100000
def QGt (b0 : Nat) (vi vp : Value) (wi : Int) (by_ : ByteArray) (pk : Int) (W : World) : Prop := ∃ T, W.heap[b0]? = some (.cells #[vi, vp, .int .i64 wi, .string by_, .int .i64 pk] T (0, 0))
theorem QGt.cell {b0 : Nat} {vi vp : Value} {wi : Int} {by_ : ByteArray} {pk : Int} {W : World} (h : QGt b0 vi vp wi by_ pk W) (j : Nat) : W.cell? ⟨b0, j, none⟩ = #[vi, vp, .int .i64 wi, .string by_, .int .i64 pk][j]? := let ⟨_, h⟩ := h; Lib.cell_of_heap h j
theorem QGt.lt {b0 : Nat} {vi vp : Value} {wi : Int} {by_ : ByteArray} {pk : Int} {W : World} (h : QGt b0 vi vp wi by_ pk W) : b0 < W.heap.size := let ⟨_, h⟩ := h; (Array.getElem?_eq_some_iff.1 h).1
theorem QGt.below {B b0 : Nat} {vi vp : Value} {wi : Int} {by_ : ByteArray} {pk : Int} {W W' : World} (h : QGt b0 vi vp wi by_ pk W) (hb : Below B W W') (hB : b0 < B) : QGt b0 vi vp wi by_ pk W' := let ⟨T, h⟩ := h; ⟨T, by rw [hb.block b0 hB]; exact h⟩
set_option maxHeartbeats 4000000 in
theorem Print_walk0 (vi : Value) (a : Option Addr) (c : Nat) (j1 j2 jw pw : ByteArray) (wi pk : Int) (W : World) (hw : jw.size ≤ 1000000) (hpw : pw.size ≤ 1000000) (h1 : j1.size ≤ 1000000) (h2 : j2.size ≤ 1000000)
    (hR : ∀ W', Below W.heap.size W W' → Calls Tryz.prog n_q111 #[.agg #[vi, .slice a 1 c, .int .i64 wi, .string ⟨#[]⟩, .int .i64 pk]] W' fun e w' => e = .returned (.bool true) ∧ Below W'.heap.size W' w')
    (hJ1 : ∀ W', Below W.heap.size W W' → Calls Tryz.prog n_q115 #[vi, .string ⟨#[32, 116, 104, 101, 110, 32]⟩, .func (.func n_q109) #[] #[]] W' fun e w' => e = .returned (.string j1) ∧ Below W'.heap.size W' w')
    (hJ2 : ∀ W', Below W.heap.size W W' → Calls Tryz.prog n_q116 #[.slice a 1 c, .string ⟨#[32, 97, 110, 100, 32]⟩, .func (.func n_q110) #[] #[]] W' fun e w' => e = .returned (.string j2) ∧ Below W'.heap.size W' w')
    (hP : ∀ W', Below W.heap.size W W' → Calls Tryz.prog n_q118 #[] W' fun e w' => e = .returned (.agg #[.string ⟨#[]⟩, .string ⟨#[97, 110, 121]⟩, .string ⟨#[110, 101, 120, 116]⟩, .string ⟨#[115, 116, 114, 105, 99, 116]⟩]) ∧ Below W'.heap.size W' w')
    (F5 : ∀ W', Below W.heap.size W W' → Calls Tryz.prog n_q105 #[.int .i64 wi, .int .i64 10] W' fun e w' => e = .returned (.string jw) ∧ Below W'.heap.size W' w')
    (hidx : ∀ w, (Instr.index 125 (.agg #[.string ⟨#[]⟩, .string ⟨#[97, 110, 121]⟩, .string ⟨#[110, 101, 120, 116]⟩, .string ⟨#[115, 116, 114, 105, 99, 116]⟩]) (.int .i64 pk)).run Tryz.prog w = .ok (.string pw) w) :
    Calls Tryz.prog n_q108 #[.agg #[vi, .slice a 1 c, .int .i64 wi, .string ⟨#[]⟩, .int .i64 pk]] W fun e w' => e = .returned (.string ⟨(partsT j1 j2 jw ++ pickT pw).toArray⟩) ∧ Below W.heap.size W w' := by
  have eR : ∀ args w, (callFunc 32 args).run Tryz.prog w = .ok (.enter 32 args) w := enters_of Tryz.func32 (by kernel_rfl) rfl
  go_enter Tryz.func34, Tryz.ntmps34
  go_wp2_with (go_at_call 32; refine (hR _ ?_).mono ?_)
  · exact (Below.refl _ W).alloc (Nat.le_refl _) _
  rintro e W1 ⟨rfl, b1⟩
  have q1 : QGt W.heap.size vi (.slice a 1 c) wi ⟨#[]⟩ pk W1 := by
    refine QGt.below (b0 := W.heap.size) ?_ b1 (by simp)
    exact ⟨_, alloc_new W _⟩
  have B1 : Below W.heap.size W W1 := ((Below.refl _ W).alloc (Nat.le_refl _) _).trans (b1.mono (by simp))
  have l1 := q1.lt
  have n1 : W.heap.size ≠ W1.heap.size := by omega
  have f1 : ∀ o, Below W1.heap.size W1 (W1.alloc o) := fun o => (Below.refl _ W1).alloc (Nat.le_refl _) _
  have q1a := fun o => q1.below (f1 o) l1
  have c0 := fun o => (q1a o).cell 0
  simp only [List.getElem?_toArray, List.getElem?_cons_zero] at c0
  go_wp2_with (go_at_call 62; refine (hJ1 _ ?_).mono ?_)
  · exact B1.trans ((f1 _).mono B1.size)
  rintro e W2 ⟨rfl, b2⟩
  -- the builder
  have hB0 : Lib.IsBuilder 111 5 W1.heap.size W1.heap.size [] (W1.alloc (.cells #[.pointer none, .slice none 0 0] 111)) := Lib.fresh_isBuilder 111 5 W1
  have hB2 : Lib.IsBuilder 111 5 W1.heap.size W1.heap.size [] W2 := hB0.imp (fun h => builder_below h b2) (fun h => builder_below h b2)
  have B2 : Below W1.heap.size W1 W2 := (f1 _).trans (b2.mono (by simp))
  go_wp2_with (go_at_call 61; refine (Any.Builder_WriteString writeL joinX W1.heap.size W1.heap.size [] _ _ hB2 ?_ B2.size).mono ?_)
  · have : ({ data := #[115, 101, 113, 32] } : ByteArray).size = 4 := rfl
    simp only [List.length_nil, ByteArray.size_append, this]
    omega
  rintro e W3 ⟨rfl, hB3, b3⟩
  have q3 : QGt W.heap.size vi (.slice a 1 c) wi ⟨#[]⟩ pk W3 := ((q1a _).below b2 (by simp; omega)).below b3 l1
  have l3 : W1.heap.size ≤ W3.heap.size := Nat.le_trans B2.size b3.size
  have B3 : Below W.heap.size W W3 := B1.trans ((B2.mono B1.size).trans (b3.mono B1.size))
  have d1 := q3.cell 1
  simp only [List.getElem?_toArray, List.getElem?_cons_zero, List.getElem?_cons_succ] at d1
  go_wp2_with (go_at_call 65; refine (hJ2 _ B3).mono ?_)
  rintro e W4 ⟨rfl, b4⟩
  have hB4 := builder_below hB3 b4
  have B4 : Below W.heap.size W W4 := B3.trans (b4.mono B3.size)
  have q4 := q3.below b4 (by omega)
  have l4 : W1.heap.size ≤ W4.heap.size := Nat.le_trans l3 b4.size
  go_wp2_with (go_at_call 61; refine (Any.Builder_WriteString writeL joinX W1.heap.size W1.heap.size _ _ _ (.inr hB4) ?_ l4).mono ?_)
  · have e1 : ({ data := #[115, 101, 113, 32] } : ByteArray).size = 4 := rfl
    have e2 : ({ data := #[32, 119, 104, 101, 114, 101, 32] } : ByteArray).size = 7 := rfl
    simp only [List.nil_append, Lib.strCells_length, ByteArray.size_append, e1, e2]
    omega
  rintro e W5 ⟨rfl, hB5, b5⟩
  have q5 : QGt W.heap.size vi (.slice a 1 c) wi ⟨#[]⟩ pk W5 := q4.below b5 l1
  have l5 : W1.heap.size ≤ W5.heap.size := Nat.le_trans l4 b5.size
  have B5 : Below W.heap.size W W5 := B4.trans (b5.mono B1.size)
  have d2 := q5.cell 2
  have d3 := q5.cell 3
  have d4 := q5.cell 4
  simp only [List.getElem?_toArray, List.getElem?_cons_zero, List.getElem?_cons_succ] at d2 d3 d4
  go_wp2_with (go_at_call 69; refine (F5 _ B5).mono ?_)
  rintro e W5' ⟨rfl, b5'⟩
  have hB5' := builder_below hB5 b5'
  have q5' : QGt W.heap.size vi (.slice a 1 c) wi ⟨#[]⟩ pk W5' := q5.below b5' q5.lt
  have l5' : W1.heap.size ≤ W5'.heap.size := Nat.le_trans l5 b5'.size
  have B5' : Below W.heap.size W W5' := B5.trans (b5'.mono B5.size)
  have d3' := q5'.cell 3
  have d4' := q5'.cell 4
  simp only [List.getElem?_toArray, List.getElem?_cons_zero, List.getElem?_cons_succ] at d3' d4'
  go_wp2_with (go_at_call 61; refine (Any.Builder_WriteString writeL joinX W1.heap.size W1.heap.size _ _ _ (.inr hB5') ?_ l5').mono ?_)
  · have e1 : ({ data := #[115, 101, 113, 32] } : ByteArray).size = 4 := rfl
    have e2 : ({ data := #[32, 119, 104, 101, 114, 101, 32] } : ByteArray).size = 7 := rfl
    have e3 : ({ data := #[32, 119, 105, 116, 104, 105, 110, 32] } : ByteArray).size = 8 := rfl
    simp only [List.nil_append, List.length_append, Lib.strCells_length, ByteArray.size_append, e1, e2, e3]
    omega
  rintro e W6 ⟨rfl, hB6, b6⟩
  have q6 : QGt W.heap.size vi (.slice a 1 c) wi ⟨#[]⟩ pk W6 := q5'.below b6 l1
  have l6 : W1.heap.size ≤ W6.heap.size := Nat.le_trans l5' b6.size
  have B6 : Below W.heap.size W W6 := B5'.trans (b6.mono B1.size)
  have g3 := q6.cell 3
  have g4 := q6.cell 4
  simp only [List.getElem?_toArray, List.getElem?_cons_zero, List.getElem?_cons_succ] at g3 g4
  have hbs6 : ([] ++ Lib.strCells ({ data := #[115, 101, 113, 32] } ++ j1) ++ Lib.strCells ({ data := #[32, 119, 104, 101, 114, 101, 32] } ++ j2) ++ Lib.strCells ({ data := #[32, 119, 105, 116, 104, 105, 110, 32] } ++ jw) : List Value) = Lib.byteCells (partsT j1 j2 jw) := by
    rw [List.nil_append, Lib.strCells_eq, Lib.strCells_eq, Lib.strCells_eq, ← Lib.byteCells_append, ← Lib.byteCells_append]
    rfl
  have hln6 : (partsT j1 j2 jw).length ≤ 3100000 := by
    have e1 : ({ data := #[115, 101, 113, 32] } : ByteArray).size = 4 := rfl
    have e2 : ({ data := #[32, 119, 104, 101, 114, 101, 32] } : ByteArray).size = 7 := rfl
    have e3 : ({ data := #[32, 119, 105, 116, 104, 105, 110, 32] } : ByteArray).size = 8 := rfl
    unfold partsT
    simp only [List.length_append, ← Lib.size_eq, ByteArray.size_append, e1, e2, e3]
    omega
  rw [hbs6] at hB6
  have hlen6 : (Lib.byteCells (partsT j1 j2 jw)).length + ({ data := #[32, 112, 105, 99, 107, 32] } ++ pw : ByteArray).size ≤ 140737488355328 := by
    have e4 : ({ data := #[32, 112, 105, 99, 107, 32] } : ByteArray).size = 6 := rfl
    rw [Lib.byteCells_length, ByteArray.size_append, e4]
    omega
  have B6d : Below W.heap.size W W6.drew := B6.drew
  have q6d : QGt W.heap.size vi (.slice a 1 c) wi ⟨#[]⟩ pk W6.drew := q6
  have hB6d := hB6.drew
  have l6d : W1.heap.size ≤ W6.drew.heap.size := l6
  have g4d : W6.drew.cell? ⟨W.heap.size, 4, none⟩ = some (.int .i64 pk) := g4
  go_wp2
  go_region_with (first
    | (go_at_call 70; refine (hP _ B6d).mono ?_; rintro e W7 ⟨rfl, b7⟩; have g7 := (q6d.below b7 (by omega)).cell 4; simp only [List.getElem?_toArray, List.getElem?_cons_zero, List.getElem?_cons_succ] at g7; have hB7 := builder_below hB6d b7; have l7 : W1.heap.size ≤ W7.heap.size := Nat.le_trans l6d b7.size; have B7 : Below W.heap.size W W7 := B6d.trans (b7.mono (Nat.le_trans B1.size l6)))
    | (go_at_call 61; refine (Any.Builder_WriteString writeL joinX W1.heap.size W1.heap.size _ _ _ (.inr (by assumption)) hlen6 (by assumption)).mono ?_; rintro e W8 ⟨rfl, hB8, b8⟩))
  all_goals
    rw [Lib.strCells_eq, ← Lib.byteCells_append] at hB8
    go_wp2_with (go_at_call 71; refine (Any.Builder_String_any stringL joinX W1.heap.size W1.heap.size (partsT j1 j2 jw ++ pickT pw) _ (.inr hB8) (Nat.le_trans l7 b8.size)).mono ?_)
    rintro e W9 ⟨rfl, b9⟩
    go_wp2
    go_ret
    exact ⟨rfl, B7.trans ((b8.mono B1.size).trans (b9.mono B1.size))⟩
end Go.Proofs.YtmfhanoibbmnlaaGreatDoor.Tz
