/-
tree.Print at this dump, by a walk of the model's code. Conditions: what is said of its callees.
-/
import Derived.Test.YthdkeggdipogoaaGreatDoorTOb
import Derived.Test.YthdkeggdipogoaaGreatDoorTX0
import Derived.BigCall
import Derived.Deep.RegionWith
namespace Go.Proofs.YthdkeggdipogoaaGreatDoor.Tz
open Go.RowKit Go.Aug Go.Proofs Go.Shelf
set_option maxRecDepth 100000
def preL (j1 j2 : ByteArray) : List UInt8 := ({ data := #[115, 101, 113, 32] } ++ j1 : ByteArray).data.toList ++ ({ data := #[32, 119, 104, 101, 114, 101, 32] } ++ j2 : ByteArray).data.toList ++ ({ data := #[32, 119, 105, 116, 104, 105, 110, 32] } ++ { data := #[53] } : ByteArray).data.toList
def printL (j1 j2 : ByteArray) : List UInt8 := preL j1 j2 ++ ({ data := #[32, 112, 105, 99, 107, 32] } ++ { data := #[97, 110, 121] } : ByteArray).data.toList
theorem builder_below {T e : TypeId} {B b : Nat} {p : Value} {bs : List Value} {w w' : World} (h : Lib.BuilderAt T e B b p bs w) (hb : Below w.heap.size w w') : Lib.BuilderAt T e B b p bs w' := by
  obtain ⟨hB, v, hbk, hown, hne⟩ := h
  refine ⟨hB, v, ?_, ?_, hne⟩
  · rw [hb.block b (Array.getElem?_eq_some_iff.1 hbk).1]; exact hbk
  · obtain ⟨h1, h2⟩ := hown
    refine ⟨h1, ?_⟩
    rcases h2 with h2 | ⟨g, cap, cur, h3, h4, h5, h6⟩
    · exact .inl h2
    · exact .inr ⟨g, cap, cur, h3, h4, by rw [hb.block g (Array.getElem?_eq_some_iff.1 h5).1]; exact h5, h6⟩
theorem alloc_new (W : World) (o : Obj) : (W.alloc o).heap[W.heap.size]? = some o := by
  show (W.heap.push o)[W.heap.size]? = _
  rw [Array.getElem?_push]
  simp
def QAt (b0 : Nat) (vi vp : Value) (W : World) : Prop := ∃ T, W.heap[b0]? = some (.cells #[vi, vp, .int .i64 5, .string ⟨#[]⟩, .int .i64 1] T (0, 0))
theorem QAt.cell {b0 : Nat} {vi vp : Value} {W : World} (h : QAt b0 vi vp W) (j : Nat) : W.cell? ⟨b0, j, none⟩ = #[vi, vp, .int .i64 5, .string ⟨#[]⟩, .int .i64 1][j]? := let ⟨_, h⟩ := h; Lib.cell_of_heap h j
theorem QAt.lt {b0 : Nat} {vi vp : Value} {W : World} (h : QAt b0 vi vp W) : b0 < W.heap.size := let ⟨_, h⟩ := h; (Array.getElem?_eq_some_iff.1 h).1
theorem QAt.below {B b0 : Nat} {vi vp : Value} {W W' : World} (h : QAt b0 vi vp W) (hb : Below B W W') (hB : b0 < B) : QAt b0 vi vp W' := let ⟨T, h⟩ := h; ⟨T, by rw [hb.block b0 hB]; exact h⟩
set_option maxHeartbeats 4000000 in
theorem Print_walk (vi : Value) (a : Option Addr) (c : Nat) (j1 j2 : ByteArray) (W : World) (h1 : j1.size ≤ 1000000) (h2 : j2.size ≤ 1000000)
    (hR : ∀ W', Below W.heap.size W W' → Calls Tryz.prog n_q107 #[.agg #[vi, .slice a 1 c, .int .i64 5, .string ⟨#[]⟩, .int .i64 1]] W' fun e w' => e = .returned (.bool true) ∧ Below W'.heap.size W' w')
    (hJ1 : ∀ W', Below W.heap.size W W' → Calls Tryz.prog n_q111 #[vi, .string ⟨#[32, 116, 104, 101, 110, 32]⟩, .func (.func n_q105) #[] #[]] W' fun e w' => e = .returned (.string j1) ∧ Below W'.heap.size W' w')
    (hJ2 : ∀ W', Below W.heap.size W W' → Calls Tryz.prog n_q112 #[.slice a 1 c, .string ⟨#[32, 97, 110, 100, 32]⟩, .func (.func n_q106) #[] #[]] W' fun e w' => e = .returned (.string j2) ∧ Below W'.heap.size W' w')
    (hP : ∀ W', Below W.heap.size W W' → Calls Tryz.prog n_q114 #[] W' fun e w' => e = .returned (.agg #[.string ⟨#[]⟩, .string ⟨#[97, 110, 121]⟩, .string ⟨#[110, 101, 120, 116]⟩, .string ⟨#[115, 116, 114, 105, 99, 116]⟩]) ∧ Below W'.heap.size W' w') :
    Calls Tryz.prog n_q104 #[.agg #[vi, .slice a 1 c, .int .i64 5, .string ⟨#[]⟩, .int .i64 1]] W fun e w' => e = .returned (.string ⟨(printL j1 j2).toArray⟩) ∧ Below W.heap.size W w' := by
  have eR : ∀ args w, (callFunc 20 args).run Tryz.prog w = .ok (.enter 20 args) w := enters_of Tryz.func20 (by kernel_rfl) rfl
  have F5 : ∀ w, Calls Tryz.prog 134 #[.int .i64 5, .int .i64 10] w fun e w' => e = .returned (.string ⟨#[53]⟩) ∧ w' = w := fun w => by
    have h := Any.strconv_FormatInt_10_small { formatL with } 5 (by decide) w
    rw [show Lib.decDigits 5 = [53] by decide +kernel] at h
    exact h
  have hidx : ∀ w, (Instr.index 193 (.agg #[.string ⟨#[]⟩, .string ⟨#[97, 110, 121]⟩, .string ⟨#[110, 101, 120, 116]⟩, .string ⟨#[115, 116, 114, 105, 99, 116]⟩]) (.int .i64 1)).run Tryz.prog w = .ok (.string ⟨#[97, 110, 121]⟩) w := fun w => by kernel_rfl
  go_enter Tryz.func77, Tryz.ntmps77
  go_wp2_with (go_at_call 20; refine (hR _ ?_).mono ?_)
  · exact (Below.refl _ W).alloc (Nat.le_refl _) _
  rintro e W1 ⟨rfl, b1⟩
  have q1 : QAt W.heap.size vi (.slice a 1 c) W1 := by
    refine QAt.below ?_ b1 (by simp)
    exact ⟨_, alloc_new W _⟩
  have B1 : Below W.heap.size W W1 := ((Below.refl _ W).alloc (Nat.le_refl _) _).trans (b1.mono (by simp))
  have l1 := q1.lt
  have n1 : W.heap.size ≠ W1.heap.size := by omega
  have f1 : ∀ o, Below W1.heap.size W1 (W1.alloc o) := fun o => (Below.refl _ W1).alloc (Nat.le_refl _) _
  have q1a := fun o => q1.below (f1 o) l1
  have c0 := fun o => (q1a o).cell 0
  simp only [List.getElem?_toArray, List.getElem?_cons_zero] at c0
  go_wp2_with (go_at_call 127; refine (hJ1 _ ?_).mono ?_)
  · exact B1.trans ((f1 _).mono B1.size)
  rintro e W2 ⟨rfl, b2⟩
  -- the builder
  have hB0 : Lib.IsBuilder 182 5 W1.heap.size W1.heap.size [] (W1.alloc (.cells #[.pointer none, .slice none 0 0] 182)) := Lib.fresh_isBuilder 182 5 W1
  have hB2 : Lib.IsBuilder 182 5 W1.heap.size W1.heap.size [] W2 := hB0.imp (fun h => builder_below h b2) (fun h => builder_below h b2)
  have B2 : Below W1.heap.size W1 W2 := (f1 _).trans (b2.mono (by simp))
  go_wp2_with (go_at_call 126; refine (Any.Builder_WriteString writeL joinX W1.heap.size W1.heap.size [] _ _ hB2 ?_ B2.size).mono ?_)
  · have : ({ data := #[115, 101, 113, 32] } : ByteArray).size = 4 := rfl
    simp only [List.length_nil, ByteArray.size_append, this]
    omega
  rintro e W3 ⟨rfl, hB3, b3⟩
  have q3 : QAt W.heap.size vi (.slice a 1 c) W3 := ((q1a _).below b2 (by simp; omega)).below b3 l1
  have l3 : W1.heap.size ≤ W3.heap.size := Nat.le_trans B2.size b3.size
  have B3 : Below W.heap.size W W3 := B1.trans ((B2.mono B1.size).trans (b3.mono B1.size))
  have d1 := q3.cell 1
  simp only [List.getElem?_toArray, List.getElem?_cons_zero, List.getElem?_cons_succ] at d1
  go_wp2_with (go_at_call 130; refine (hJ2 _ B3).mono ?_)
  rintro e W4 ⟨rfl, b4⟩
  have hB4 := builder_below hB3 b4
  have B4 : Below W.heap.size W W4 := B3.trans (b4.mono B3.size)
  have q4 := q3.below b4 (by omega)
  have l4 : W1.heap.size ≤ W4.heap.size := Nat.le_trans l3 b4.size
  go_wp2_with (go_at_call 126; refine (Any.Builder_WriteString writeL joinX W1.heap.size W1.heap.size _ _ _ (.inr hB4) ?_ l4).mono ?_)
  · have e1 : ({ data := #[115, 101, 113, 32] } : ByteArray).size = 4 := rfl
    have e2 : ({ data := #[32, 119, 104, 101, 114, 101, 32] } : ByteArray).size = 7 := rfl
    simp only [List.nil_append, Lib.strCells_length, ByteArray.size_append, e1, e2]
    omega
  rintro e W5 ⟨rfl, hB5, b5⟩
  have q5 : QAt W.heap.size vi (.slice a 1 c) W5 := q4.below b5 l1
  have l5 : W1.heap.size ≤ W5.heap.size := Nat.le_trans l4 b5.size
  have B5 : Below W.heap.size W W5 := B4.trans (b5.mono B1.size)
  have d2 := q5.cell 2
  have d3 := q5.cell 3
  have d4 := q5.cell 4
  simp only [List.getElem?_toArray, List.getElem?_cons_zero, List.getElem?_cons_succ] at d2 d3 d4
  go_wp2_with (go_at_call 134; refine (F5 _).mono ?_)
  rintro e w' ⟨rfl, rfl⟩
  go_wp2_with (go_at_call 126; refine (Any.Builder_WriteString writeL joinX W1.heap.size W1.heap.size _ _ _ (.inr hB5) ?_ l5).mono ?_)
  · have e1 : ({ data := #[115, 101, 113, 32] } : ByteArray).size = 4 := rfl
    have e2 : ({ data := #[32, 119, 104, 101, 114, 101, 32] } : ByteArray).size = 7 := rfl
    have e3 : ({ data := #[32, 119, 105, 116, 104, 105, 110, 32] } ++ { data := #[53] } : ByteArray).size = 9 := rfl
    simp only [List.nil_append, List.length_append, Lib.strCells_length, ByteArray.size_append, e1, e2, e3]
    omega
  rintro e W6 ⟨rfl, hB6, b6⟩
  have q6 : QAt W.heap.size vi (.slice a 1 c) W6 := q5.below b6 l1
  have l6 : W1.heap.size ≤ W6.heap.size := Nat.le_trans l5 b6.size
  have B6 : Below W.heap.size W W6 := B5.trans (b6.mono B1.size)
  have g3 := q6.cell 3
  have g4 := q6.cell 4
  simp only [List.getElem?_toArray, List.getElem?_cons_zero, List.getElem?_cons_succ] at g3 g4
  have hbs6 : ([] ++ Lib.strCells ({ data := #[115, 101, 113, 32] } ++ j1) ++ Lib.strCells ({ data := #[32, 119, 104, 101, 114, 101, 32] } ++ j2) ++ Lib.strCells ({ data := #[32, 119, 105, 116, 104, 105, 110, 32] } ++ { data := #[53] }) : List Value) = Lib.byteCells (preL j1 j2) := by
    rw [List.nil_append, Lib.strCells_eq, Lib.strCells_eq, Lib.strCells_eq, ← Lib.byteCells_append, ← Lib.byteCells_append]
    rfl
  have hln6 : (preL j1 j2).length ≤ 3000000 := by
    have e1 : ({ data := #[115, 101, 113, 32] } : ByteArray).size = 4 := rfl
    have e2 : ({ data := #[32, 119, 104, 101, 114, 101, 32] } : ByteArray).size = 7 := rfl
    have e3 : ({ data := #[32, 119, 105, 116, 104, 105, 110, 32] } ++ { data := #[53] } : ByteArray).size = 9 := rfl
    unfold preL
    simp only [List.length_append, ← Lib.size_eq, ByteArray.size_append, e1, e2, e3]
    omega
  rw [hbs6] at hB6
  have hlen6 : (Lib.byteCells (preL j1 j2)).length + ({ data := #[32, 112, 105, 99, 107, 32] } ++ { data := #[97, 110, 121] } : ByteArray).size ≤ 140737488355328 := by
    have e4 : ({ data := #[32, 112, 105, 99, 107, 32] } ++ { data := #[97, 110, 121] } : ByteArray).size = 9 := rfl
    rw [Lib.byteCells_length, e4]
    omega
  have B6d : Below W.heap.size W W6.drew := B6.drew
  have q6d : QAt W.heap.size vi (.slice a 1 c) W6.drew := q6
  have hB6d := hB6.drew
  have l6d : W1.heap.size ≤ W6.drew.heap.size := l6
  have g4d : W6.drew.cell? ⟨W.heap.size, 4, none⟩ = some (.int .i64 1) := g4
  go_wp2
  go_region_with (first
    | (go_at_call 135; refine (hP _ B6d).mono ?_; rintro e W7 ⟨rfl, b7⟩; have g7 := (q6d.below b7 (by omega)).cell 4; simp only [List.getElem?_toArray, List.getElem?_cons_zero, List.getElem?_cons_succ] at g7; have hB7 := builder_below hB6d b7; have l7 : W1.heap.size ≤ W7.heap.size := Nat.le_trans l6d b7.size; have B7 : Below W.heap.size W W7 := B6d.trans (b7.mono (Nat.le_trans B1.size l6)))
    | (go_at_call 126; refine (Any.Builder_WriteString writeL joinX W1.heap.size W1.heap.size _ _ _ (.inr (by assumption)) hlen6 (by assumption)).mono ?_; rintro e W8 ⟨rfl, hB8, b8⟩))
  all_goals
    rw [Lib.strCells_eq, ← Lib.byteCells_append] at hB8
    go_wp2_with (go_at_call 136; refine (Any.Builder_String_any stringL joinX W1.heap.size W1.heap.size (printL j1 j2) _ (.inr hB8) (Nat.le_trans l7 b8.size)).mono ?_)
    rintro e W9 ⟨rfl, b9⟩
    go_wp2
    go_ret
    exact ⟨rfl, B7.trans ((b8.mono B1.size).trans (b9.mono B1.size))⟩
end Go.Proofs.YthdkeggdipogoaaGreatDoor.Tz
