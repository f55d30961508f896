/-
tree.Print at this dump, of a query of some predicates, by a walk of the model's code. Conditions: what is said of its callees.
-/
import Derived.Test.YtmfhanoibbmnlaaGreatDoorTPv
namespace Go.Proofs.YtmfhanoibbmnlaaGreatDoor.Tz
open Go.RowKit Go.Aug Go.Proofs Go.Shelf
set_option maxRecDepth 100000
set_option maxHeartbeats 4000000 in
theorem Print_walkM0 (vi : Value) (a : Option Addr) (m c : Nat) (hm : 0 < m) (j1 j2 jw pw : ByteArray) (wi pk : Int) (W : World) (hw : jw.size ≤ 1000000) (hpw : pw.size ≤ 1000000) (h1 : j1.size ≤ 1000000) (h2 : j2.size ≤ 1000000)
    (hR : ∀ W', Below W.heap.size W W' → Calls Tryz.prog n_q111 #[.agg #[vi, .slice a m c, .int .i64 wi, .string ⟨#[]⟩, .int .i64 pk]] W' fun e w' => e = .returned (.bool true) ∧ Below W'.heap.size W' w')
    (hJ1 : ∀ W', Below W.heap.size W W' → Calls Tryz.prog n_q115 #[vi, .string ⟨#[32, 116, 104, 101, 110, 32]⟩, .func (.func n_q109) #[] #[]] W' fun e w' => e = .returned (.string j1) ∧ Below W'.heap.size W' w')
    (hJ2 : ∀ W', Below W.heap.size W W' → Calls Tryz.prog n_q116 #[.slice a m c, .string ⟨#[32, 97, 110, 100, 32]⟩, .func (.func n_q110) #[] #[]] W' fun e w' => e = .returned (.string j2) ∧ Below W'.heap.size W' w')
    (hP : ∀ W', Below W.heap.size W W' → Calls Tryz.prog n_q118 #[] W' fun e w' => e = .returned (.agg #[.string ⟨#[]⟩, .string ⟨#[97, 110, 121]⟩, .string ⟨#[110, 101, 120, 116]⟩, .string ⟨#[115, 116, 114, 105, 99, 116]⟩]) ∧ Below W'.heap.size W' w')
    (F5 : ∀ W', Below W.heap.size W W' → Calls Tryz.prog n_q105 #[.int .i64 wi, .int .i64 10] W' fun e w' => e = .returned (.string jw) ∧ Below W'.heap.size W' w')
    (hidx : ∀ w, (Instr.index 125 (.agg #[.string ⟨#[]⟩, .string ⟨#[97, 110, 121]⟩, .string ⟨#[110, 101, 120, 116]⟩, .string ⟨#[115, 116, 114, 105, 99, 116]⟩]) (.int .i64 pk)).run Tryz.prog w = .ok (.string pw) w) :
    Calls Tryz.prog n_q108 #[.agg #[vi, .slice a m c, .int .i64 wi, .string ⟨#[]⟩, .int .i64 pk]] W fun e w' => e = .returned (.string ⟨(partsT j1 j2 jw ++ pickT pw).toArray⟩) ∧ Below W.heap.size W w' := by
  have hm0 : (0 < (m : Int)) = True := eq_true (by omega)
  have hm1 : decide (0 < (m : Int)) = true := decide_eq_true (by omega)
  have eR : ∀ args w, (callFunc 32 args).run Tryz.prog w = .ok (.enter 32 args) w := enters_of Tryz.func32 (by kernel_rfl) rfl
  go_enter Tryz.func34, Tryz.ntmps34
  go_wp2_with (go_at_call 32; refine (hR _ ?_).mono ?_)
  · exact (Below.refl _ W).alloc (Nat.le_refl _) _
  rintro e W1 ⟨rfl, b1⟩
  have q1 : QGt W.heap.size vi (.slice a m c) wi ⟨#[]⟩ pk W1 := by
    refine QGt.below (b0 := W.heap.size) ?_ b1 (by simp)
    exact ⟨_, alloc_new W _⟩
  have B1 : Below W.heap.size W W1 := ((Below.refl _ W).alloc (Nat.le_refl _) _).trans (b1.mono (by simp))
  have l1 := q1.lt
  have n1 : W.heap.size ≠ W1.heap.size := by omega
  have f1 : ∀ o, Below W1.heap.size W1 (W1.alloc o) := fun o => (Below.refl _ W1).alloc (Nat.le_refl _) _
  have q1a := fun o => q1.below (f1 o) l1
  have c0 := fun o => (q1a o).cell 0
  simp only [List.getElem?_toArray, List.getElem?_cons_zero] at c0
  go_wp2_with (go_at_call 62; refine (hJ1 _ ?_).mono ?_)
  · exact B1.trans ((f1 _).mono B1.size)
  rintro e W2 ⟨rfl, b2⟩
  -- the builder
  have hB0 : Lib.IsBuilder 111 5 W1.heap.size W1.heap.size [] (W1.alloc (.cells #[.pointer none, .slice none 0 0] 111)) := Lib.fresh_isBuilder 111 5 W1
  have hB2 : Lib.IsBuilder 111 5 W1.heap.size W1.heap.size [] W2 := hB0.imp (fun h => builder_below h b2) (fun h => builder_below h b2)
  have B2 : Below W1.heap.size W1 W2 := (f1 _).trans (b2.mono (by simp))
  go_wp2_with (go_at_call 61; refine (Any.Builder_WriteString writeL joinX W1.heap.size W1.heap.size [] _ _ hB2 ?_ B2.size).mono ?_)
  · have : ({ data := #[115, 101, 113, 32] } : ByteArray).size = 4 := rfl
    simp only [List.length_nil, ByteArray.size_append, this]
    omega
  rintro e W3 ⟨rfl, hB3, b3⟩
  have q3 : QGt W.heap.size vi (.slice a m c) wi ⟨#[]⟩ pk W3 := ((q1a _).below b2 (by simp; omega)).below b3 l1
  have l3 : W1.heap.size ≤ W3.heap.size := Nat.le_trans B2.size b3.size
  have B3 : Below W.heap.size W W3 := B1.trans ((B2.mono B1.size).trans (b3.mono B1.size))
  have d1 := q3.cell 1
  simp only [List.getElem?_toArray, List.getElem?_cons_zero, List.getElem?_cons_succ] at d1
  go_wp2_with (go_at_call 65; refine (hJ2 _ B3).mono ?_)
  rintro e W4 ⟨rfl, b4⟩
  have hB4 := builder_below hB3 b4
  have B4 : Below W.heap.size W W4 := B3.trans (b4.mono B3.size)
  have q4 := q3.below b4 (by omega)
  have l4 : W1.heap.size ≤ W4.heap.size := Nat.le_trans l3 b4.size
  go_wp2_with (go_at_call 61; refine (Any.Builder_WriteString writeL joinX W1.heap.size W1.heap.size _ _ _ (.inr hB4) ?_ l4).mono ?_)
  · have e1 : ({ data := #[115, 101, 113, 32] } : ByteArray).size = 4 := rfl
    have e2 : ({ data := #[32, 119, 104, 101, 114, 101, 32] } : ByteArray).size = 7 := rfl
    simp only [List.nil_append, Lib.strCells_length, ByteArray.size_append, e1, e2]
    omega
  rintro e W5 ⟨rfl, hB5, b5⟩
  have q5 : QGt W.heap.size vi (.slice a m c) wi ⟨#[]⟩ pk W5 := q4.below b5 l1
  have l5 : W1.heap.size ≤ W5.heap.size := Nat.le_trans l4 b5.size
  have B5 : Below W.heap.size W W5 := B4.trans (b5.mono B1.size)
  have d2 := q5.cell 2
  have d3 := q5.cell 3
  have d4 := q5.cell 4
  simp only [List.getElem?_toArray, List.getElem?_cons_zero, List.getElem?_cons_succ] at d2 d3 d4
  go_wp2_with (go_at_call 69; refine (F5 _ B5).mono ?_)
  rintro e W5' ⟨rfl, b5'⟩
  have hB5' := builder_below hB5 b5'
  have q5' : QGt W.heap.size vi (.slice a m c) wi ⟨#[]⟩ pk W5' := q5.below b5' q5.lt
  have l5' : W1.heap.size ≤ W5'.heap.size := Nat.le_trans l5 b5'.size
  have B5' : Below W.heap.size W W5' := B5.trans (b5'.mono B5.size)
  have d3' := q5'.cell 3
  have d4' := q5'.cell 4
  simp only [List.getElem?_toArray, List.getElem?_cons_zero, List.getElem?_cons_succ] at d3' d4'
  go_wp2_with (go_at_call 61; refine (Any.Builder_WriteString writeL joinX W1.heap.size W1.heap.size _ _ _ (.inr hB5') ?_ l5').mono ?_)
  · have e1 : ({ data := #[115, 101, 113, 32] } : ByteArray).size = 4 := rfl
    have e2 : ({ data := #[32, 119, 104, 101, 114, 101, 32] } : ByteArray).size = 7 := rfl
    have e3 : ({ data := #[32, 119, 105, 116, 104, 105, 110, 32] } : ByteArray).size = 8 := rfl
    simp only [List.nil_append, List.length_append, Lib.strCells_length, ByteArray.size_append, e1, e2, e3]
    omega
  rintro e W6 ⟨rfl, hB6, b6⟩
  have q6 : QGt W.heap.size vi (.slice a m c) wi ⟨#[]⟩ pk W6 := q5'.below b6 l1
  have l6 : W1.heap.size ≤ W6.heap.size := Nat.le_trans l5' b6.size
  have B6 : Below W.heap.size W W6 := B5'.trans (b6.mono B1.size)
  have g3 := q6.cell 3
  have g4 := q6.cell 4
  simp only [List.getElem?_toArray, List.getElem?_cons_zero, List.getElem?_cons_succ] at g3 g4
  have hbs6 : ([] ++ Lib.strCells ({ data := #[115, 101, 113, 32] } ++ j1) ++ Lib.strCells ({ data := #[32, 119, 104, 101, 114, 101, 32] } ++ j2) ++ Lib.strCells ({ data := #[32, 119, 105, 116, 104, 105, 110, 32] } ++ jw) : List Value) = Lib.byteCells (partsT j1 j2 jw) := by
    rw [List.nil_append, Lib.strCells_eq, Lib.strCells_eq, Lib.strCells_eq, ← Lib.byteCells_append, ← Lib.byteCells_append]
    rfl
  have hln6 : (partsT j1 j2 jw).length ≤ 3100000 := by
    have e1 : ({ data := #[115, 101, 113, 32] } : ByteArray).size = 4 := rfl
    have e2 : ({ data := #[32, 119, 104, 101, 114, 101, 32] } : ByteArray).size = 7 := rfl
    have e3 : ({ data := #[32, 119, 105, 116, 104, 105, 110, 32] } : ByteArray).size = 8 := rfl
    unfold partsT
    simp only [List.length_append, ← Lib.size_eq, ByteArray.size_append, e1, e2, e3]
    omega
  rw [hbs6] at hB6
  have hlen6 : (Lib.byteCells (partsT j1 j2 jw)).length + ({ data := #[32, 112, 105, 99, 107, 32] } ++ pw : ByteArray).size ≤ 140737488355328 := by
    have e4 : ({ data := #[32, 112, 105, 99, 107, 32] } : ByteArray).size = 6 := rfl
    rw [Lib.byteCells_length, ByteArray.size_append, e4]
    omega
  have B6d : Below W.heap.size W W6.drew := B6.drew
  have q6d : QGt W.heap.size vi (.slice a m c) wi ⟨#[]⟩ pk W6.drew := q6
  have hB6d := hB6.drew
  have l6d : W1.heap.size ≤ W6.drew.heap.size := l6
  have g4d : W6.drew.cell? ⟨W.heap.size, 4, none⟩ = some (.int .i64 pk) := g4
  go_wp2
  go_region_with (first
    | (go_at_call 70; refine (hP _ B6d).mono ?_; rintro e W7 ⟨rfl, b7⟩; have g7 := (q6d.below b7 (by omega)).cell 4; simp only [List.getElem?_toArray, List.getElem?_cons_zero, List.getElem?_cons_succ] at g7; have hB7 := builder_below hB6d b7; have l7 : W1.heap.size ≤ W7.heap.size := Nat.le_trans l6d b7.size; have B7 : Below W.heap.size W W7 := B6d.trans (b7.mono (Nat.le_trans B1.size l6)))
    | (go_at_call 61; refine (Any.Builder_WriteString writeL joinX W1.heap.size W1.heap.size _ _ _ (.inr (by assumption)) hlen6 (by assumption)).mono ?_; rintro e W8 ⟨rfl, hB8, b8⟩))
  all_goals
    rw [Lib.strCells_eq, ← Lib.byteCells_append] at hB8
    go_wp2_with (go_at_call 71; refine (Any.Builder_String_any stringL joinX W1.heap.size W1.heap.size (partsT j1 j2 jw ++ pickT pw) _ (.inr hB8) (Nat.le_trans l7 b8.size)).mono ?_)
    rintro e W9 ⟨rfl, b9⟩
    go_wp2
    go_ret
    exact ⟨rfl, B7.trans ((b8.mono B1.size).trans (b9.mono B1.size))⟩
set_option maxHeartbeats 4000000 in
theorem Print_walkMB (vi : Value) (a : Option Addr) (m c : Nat) (hm : 0 < m) (j1 j2 jw pw by_ : ByteArray) (wi pk : Int) (W : World) (hby0 : ¬ by_ = ⟨#[]⟩) (hbs : by_.size ≤ 1000000) (hw : jw.size ≤ 1000000) (hpw : pw.size ≤ 1000000) (h1 : j1.size ≤ 1000000) (h2 : j2.size ≤ 1000000)
    (hR : ∀ W', Below W.heap.size W W' → Calls Tryz.prog n_q111 #[.agg #[vi, .slice a m c, .int .i64 wi, .string by_, .int .i64 pk]] W' fun e w' => e = .returned (.bool true) ∧ Below W'.heap.size W' w')
    (hJ1 : ∀ W', Below W.heap.size W W' → Calls Tryz.prog n_q115 #[vi, .string ⟨#[32, 116, 104, 101, 110, 32]⟩, .func (.func n_q109) #[] #[]] W' fun e w' => e = .returned (.string j1) ∧ Below W'.heap.size W' w')
    (hJ2 : ∀ W', Below W.heap.size W W' → Calls Tryz.prog n_q116 #[.slice a m c, .string ⟨#[32, 97, 110, 100, 32]⟩, .func (.func n_q110) #[] #[]] W' fun e w' => e = .returned (.string j2) ∧ Below W'.heap.size W' w')
    (hP : ∀ W', Below W.heap.size W W' → Calls Tryz.prog n_q118 #[] W' fun e w' => e = .returned (.agg #[.string ⟨#[]⟩, .string ⟨#[97, 110, 121]⟩, .string ⟨#[110, 101, 120, 116]⟩, .string ⟨#[115, 116, 114, 105, 99, 116]⟩]) ∧ Below W'.heap.size W' w')
    (F5 : ∀ W', Below W.heap.size W W' → Calls Tryz.prog n_q105 #[.int .i64 wi, .int .i64 10] W' fun e w' => e = .returned (.string jw) ∧ Below W'.heap.size W' w')
    (hidx : ∀ w, (Instr.index 125 (.agg #[.string ⟨#[]⟩, .string ⟨#[97, 110, 121]⟩, .string ⟨#[110, 101, 120, 116]⟩, .string ⟨#[115, 116, 114, 105, 99, 116]⟩]) (.int .i64 pk)).run Tryz.prog w = .ok (.string pw) w) :
    Calls Tryz.prog n_q108 #[.agg #[vi, .slice a m c, .int .i64 wi, .string by_, .int .i64 pk]] W fun e w' => e = .returned (.string ⟨(partsT j1 j2 jw ++ (byT by_ ++ pickT pw)).toArray⟩) ∧ Below W.heap.size W w' := by
  have hm0 : (0 < (m : Int)) = True := eq_true (by omega)
  have hm1 : decide (0 < (m : Int)) = true := decide_eq_true (by omega)
  have eR : ∀ args w, (callFunc 32 args).run Tryz.prog w = .ok (.enter 32 args) w := enters_of Tryz.func32 (by kernel_rfl) rfl
  go_enter Tryz.func34, Tryz.ntmps34
  go_wp2_with (go_at_call 32; refine (hR _ ?_).mono ?_)
  · exact (Below.refl _ W).alloc (Nat.le_refl _) _
  rintro e W1 ⟨rfl, b1⟩
  have q1 : QGt W.heap.size vi (.slice a m c) wi by_ pk W1 := by
    refine QGt.below (b0 := W.heap.size) ?_ b1 (by simp)
    exact ⟨_, alloc_new W _⟩
  have B1 : Below W.heap.size W W1 := ((Below.refl _ W).alloc (Nat.le_refl _) _).trans (b1.mono (by simp))
  have l1 := q1.lt
  have n1 : W.heap.size ≠ W1.heap.size := by omega
  have f1 : ∀ o, Below W1.heap.size W1 (W1.alloc o) := fun o => (Below.refl _ W1).alloc (Nat.le_refl _) _
  have q1a := fun o => q1.below (f1 o) l1
  have c0 := fun o => (q1a o).cell 0
  simp only [List.getElem?_toArray, List.getElem?_cons_zero] at c0
  go_wp2_with (go_at_call 62; refine (hJ1 _ ?_).mono ?_)
  · exact B1.trans ((f1 _).mono B1.size)
  rintro e W2 ⟨rfl, b2⟩
  -- the builder
  have hB0 : Lib.IsBuilder 111 5 W1.heap.size W1.heap.size [] (W1.alloc (.cells #[.pointer none, .slice none 0 0] 111)) := Lib.fresh_isBuilder 111 5 W1
  have hB2 : Lib.IsBuilder 111 5 W1.heap.size W1.heap.size [] W2 := hB0.imp (fun h => builder_below h b2) (fun h => builder_below h b2)
  have B2 : Below W1.heap.size W1 W2 := (f1 _).trans (b2.mono (by simp))
  go_wp2_with (go_at_call 61; refine (Any.Builder_WriteString writeL joinX W1.heap.size W1.heap.size [] _ _ hB2 ?_ B2.size).mono ?_)
  · have : ({ data := #[115, 101, 113, 32] } : ByteArray).size = 4 := rfl
    simp only [List.length_nil, ByteArray.size_append, this]
    omega
  rintro e W3 ⟨rfl, hB3, b3⟩
  have q3 : QGt W.heap.size vi (.slice a m c) wi by_ pk W3 := ((q1a _).below b2 (by simp; omega)).below b3 l1
  have l3 : W1.heap.size ≤ W3.heap.size := Nat.le_trans B2.size b3.size
  have B3 : Below W.heap.size W W3 := B1.trans ((B2.mono B1.size).trans (b3.mono B1.size))
  have d1 := q3.cell 1
  simp only [List.getElem?_toArray, List.getElem?_cons_zero, List.getElem?_cons_succ] at d1
  go_wp2_with (go_at_call 65; refine (hJ2 _ B3).mono ?_)
  rintro e W4 ⟨rfl, b4⟩
  have hB4 := builder_below hB3 b4
  have B4 : Below W.heap.size W W4 := B3.trans (b4.mono B3.size)
  have q4 := q3.below b4 (by omega)
  have l4 : W1.heap.size ≤ W4.heap.size := Nat.le_trans l3 b4.size
  go_wp2_with (go_at_call 61; refine (Any.Builder_WriteString writeL joinX W1.heap.size W1.heap.size _ _ _ (.inr hB4) ?_ l4).mono ?_)
  · have e1 : ({ data := #[115, 101, 113, 32] } : ByteArray).size = 4 := rfl
    have e2 : ({ data := #[32, 119, 104, 101, 114, 101, 32] } : ByteArray).size = 7 := rfl
    simp only [List.nil_append, Lib.strCells_length, ByteArray.size_append, e1, e2]
    omega
  rintro e W5 ⟨rfl, hB5, b5⟩
  have q5 : QGt W.heap.size vi (.slice a m c) wi by_ pk W5 := q4.below b5 l1
  have l5 : W1.heap.size ≤ W5.heap.size := Nat.le_trans l4 b5.size
  have B5 : Below W.heap.size W W5 := B4.trans (b5.mono B1.size)
  have d2 := q5.cell 2
  have d3 := q5.cell 3
  have d4 := q5.cell 4
  simp only [List.getElem?_toArray, List.getElem?_cons_zero, List.getElem?_cons_succ] at d2 d3 d4
  go_wp2_with (go_at_call 69; refine (F5 _ B5).mono ?_)
  rintro e W5' ⟨rfl, b5'⟩
  have hB5' := builder_below hB5 b5'
  have q5' : QGt W.heap.size vi (.slice a m c) wi by_ pk W5' := q5.below b5' q5.lt
  have l5' : W1.heap.size ≤ W5'.heap.size := Nat.le_trans l5 b5'.size
  have B5' : Below W.heap.size W W5' := B5.trans (b5'.mono B5.size)
  have d3' := q5'.cell 3
  have d4' := q5'.cell 4
  simp only [List.getElem?_toArray, List.getElem?_cons_zero, List.getElem?_cons_succ] at d3' d4'
  go_wp2_with (go_at_call 61; refine (Any.Builder_WriteString writeL joinX W1.heap.size W1.heap.size _ _ _ (.inr hB5') ?_ l5').mono ?_)
  · have e1 : ({ data := #[115, 101, 113, 32] } : ByteArray).size = 4 := rfl
    have e2 : ({ data := #[32, 119, 104, 101, 114, 101, 32] } : ByteArray).size = 7 := rfl
    have e3 : ({ data := #[32, 119, 105, 116, 104, 105, 110, 32] } : ByteArray).size = 8 := rfl
    simp only [List.nil_append, List.length_append, Lib.strCells_length, ByteArray.size_append, e1, e2, e3]
    omega
  rintro e W6 ⟨rfl, hB6, b6⟩
  have q6 : QGt W.heap.size vi (.slice a m c) wi by_ pk W6 := q5'.below b6 l1
  have l6 : W1.heap.size ≤ W6.heap.size := Nat.le_trans l5' b6.size
  have B6 : Below W.heap.size W W6 := B5'.trans (b6.mono B1.size)
  have g3 := q6.cell 3
  have g4 := q6.cell 4
  simp only [List.getElem?_toArray, List.getElem?_cons_zero, List.getElem?_cons_succ] at g3 g4
  have hbs6 : ([] ++ Lib.strCells ({ data := #[115, 101, 113, 32] } ++ j1) ++ Lib.strCells ({ data := #[32, 119, 104, 101, 114, 101, 32] } ++ j2) ++ Lib.strCells ({ data := #[32, 119, 105, 116, 104, 105, 110, 32] } ++ jw) : List Value) = Lib.byteCells (partsT j1 j2 jw) := by
    rw [List.nil_append, Lib.strCells_eq, Lib.strCells_eq, Lib.strCells_eq, ← Lib.byteCells_append, ← Lib.byteCells_append]
    rfl
  have hln6 : (partsT j1 j2 jw).length ≤ 3100000 := by
    have e1 : ({ data := #[115, 101, 113, 32] } : ByteArray).size = 4 := rfl
    have e2 : ({ data := #[32, 119, 104, 101, 114, 101, 32] } : ByteArray).size = 7 := rfl
    have e3 : ({ data := #[32, 119, 105, 116, 104, 105, 110, 32] } : ByteArray).size = 8 := rfl
    unfold partsT
    simp only [List.length_append, ← Lib.size_eq, ByteArray.size_append, e1, e2, e3]
    omega
  rw [hbs6] at hB6
  have hby : by_.toList.isEmpty = false := by
    cases h : by_.toList with
    | nil => exact absurd ((toList_inj by_ ⟨#[]⟩).1 (by rw [h]; simp)) hby0
    | cons x l => rfl
  go_wp2_with (go_at_call 61; refine (Any.Builder_WriteString writeL joinX W1.heap.size W1.heap.size _ _ _ (.inr hB6) ?_ l6).mono ?_)
  · have e4 : ({ data := #[32, 98, 121, 32] } : ByteArray).size = 4 := rfl
    rw [Lib.byteCells_length, ByteArray.size_append, e4]
    omega
  rintro e W6b ⟨rfl, hB6b, b6b⟩
  have q6b : QGt W.heap.size vi (.slice a m c) wi by_ pk W6b := q6.below b6b l1
  have l6b : W1.heap.size ≤ W6b.heap.size := Nat.le_trans l6 b6b.size
  have B6b : Below W.heap.size W W6b := B6.trans (b6b.mono B1.size)
  have h3 := q6b.cell 3
  have h4 := q6b.cell 4
  simp only [List.getElem?_toArray, List.getElem?_cons_zero, List.getElem?_cons_succ] at h3 h4
  rw [Lib.strCells_eq, ← Lib.byteCells_append] at hB6b
  have hlen6 : (Lib.byteCells (partsT j1 j2 jw ++ ({ data := #[32, 98, 121, 32] } ++ by_ : ByteArray).data.toList)).length + ({ data := #[32, 112, 105, 99, 107, 32] } ++ pw : ByteArray).size ≤ 140737488355328 := by
    have e4 : ({ data := #[32, 112, 105, 99, 107, 32] } : ByteArray).size = 6 := rfl
    have e5 : ({ data := #[32, 98, 121, 32] } : ByteArray).size = 4 := rfl
    rw [Lib.byteCells_length, List.length_append, ← Lib.size_eq, ByteArray.size_append, ByteArray.size_append, e4, e5]
    omega
  have B6d : Below W.heap.size W W6b.drew := B6b.drew
  have q6d : QGt W.heap.size vi (.slice a m c) wi by_ pk W6b.drew := q6b
  have hB6d := hB6b.drew
  have l6d : W1.heap.size ≤ W6b.drew.heap.size := l6b
  have g4d : W6b.drew.cell? ⟨W.heap.size, 4, none⟩ = some (.int .i64 pk) := h4
  go_wp2
  go_region_with (first
    | (go_at_call 70; refine (hP _ B6d).mono ?_; rintro e W7 ⟨rfl, b7⟩; have g7 := (q6d.below b7 (by omega)).cell 4; simp only [List.getElem?_toArray, List.getElem?_cons_zero, List.getElem?_cons_succ] at g7; have hB7 := builder_below hB6d b7; have l7 : W1.heap.size ≤ W7.heap.size := Nat.le_trans l6d b7.size; have B7 : Below W.heap.size W W7 := B6d.trans (b7.mono (Nat.le_trans B1.size l6b)))
    | (go_at_call 61; refine (Any.Builder_WriteString writeL joinX W1.heap.size W1.heap.size _ _ _ (.inr (by assumption)) hlen6 (by assumption)).mono ?_; rintro e W8 ⟨rfl, hB8, b8⟩))
  all_goals
    rw [Lib.strCells_eq, ← Lib.byteCells_append] at hB8
    go_wp2_with (go_at_call 71; refine (Any.Builder_String_any stringL joinX W1.heap.size W1.heap.size (partsT j1 j2 jw ++ byT by_ ++ pickT pw) _ (.inr hB8) (Nat.le_trans l7 b8.size)).mono ?_)
    rintro e W9 ⟨rfl, b9⟩
    go_wp2
    go_ret
    exact ⟨rfl, B7.trans ((b8.mono B1.size).trans (b9.mono B1.size))⟩
end Go.Proofs.YtmfhanoibbmnlaaGreatDoor.Tz
