/-
The table. Conditions: none.
-/
import Derived.Test.YtmfhanoibbmnlaaGreatDoorTPd
namespace Go.Proofs.YtmfhanoibbmnlaaGreatDoor.Tz
open Go.Aug
set_option maxRecDepth 100000
def frozen (f : Nat) : Bool := cond (Nat.beq f n_q62) false (cond (Nat.beq f n_q39) false (cond (Nat.beq f n_q43) false (cond (Nat.beq f n_q78) false (true))))
def orcHead : List D → Heap → Option (D × Heap)
  | [], H => some (.v (.bool true), H)
  | _, _ => none
noncomputable def orcs0 (f : Nat) : Option (List D → Heap → Option (D × Heap)) := cond (Nat.beq f n_q85) (some (orcSorted 1000000 n_q63)) (cond (Nat.beq f n_q98) (some orcContains) (cond (Nat.beq f n_q99) (some orcJoin) (cond (Nat.beq f n_q97) (some orcFormat) (cond (Nat.beq f n_q100) (some (orcPrintBy evP)) (none)))))
noncomputable def orcs (f : Nat) : Option (List D → Heap → Option (D × Heap)) := cond (Nat.beq f n_q3) (some orcHead) (cond (Nat.beq f n_q85) (some (orcSorted 1000000 n_q63)) (cond (Nat.beq f n_q98) (some orcContains) (cond (Nat.beq f n_q99) (some orcJoin) (cond (Nat.beq f n_q97) (some orcFormat) (cond (Nat.beq f n_q100) (some (orcPrintBy evP)) (none))))))
noncomputable def tab0 : Tab := ⟨findF rows, frozen, orcs0⟩
noncomputable def tab : Tab := ⟨findF rows, frozen, orcs⟩
theorem t_q2 : tab.fn n_q2 = some F_q2 := by kernel_rfl
theorem t_q0 : tab.fn n_q0 = some F_q0 := by kernel_rfl
theorem o_q0 : tab.orc n_q0 = none := by kernel_rfl
theorem t_q50 : tab.fn n_q50 = some F_q50 := by kernel_rfl
theorem t_q16 : tab.fn n_q16 = some F_q16 := by kernel_rfl
theorem o_q16 : tab.orc n_q16 = none := by kernel_rfl
theorem t_q1 : tab.fn n_q1 = some F_q1 := by kernel_rfl
theorem o_q1 : tab.orc n_q1 = none := by kernel_rfl
theorem t_q103 : tab.fn n_q103 = some F_q103 := by kernel_rfl
theorem o_q103 : tab.orc n_q103 = none := by kernel_rfl
theorem t_q68 : tab.fn n_q68 = some F_q68 := by kernel_rfl
theorem t_q58 : tab.fn n_q58 = some F_q58 := by kernel_rfl
theorem o_q58 : tab.orc n_q58 = none := by kernel_rfl
theorem t_q34 : tab.fn n_q34 = some F_q34 := by kernel_rfl
theorem o_q34 : tab.orc n_q34 = none := by kernel_rfl
theorem t_q17 : tab.fn n_q17 = some F_q17 := by kernel_rfl
theorem o_q17 : tab.orc n_q17 = none := by kernel_rfl
theorem t_q14 : tab.fn n_q14 = some F_q14 := by kernel_rfl
theorem o_q14 : tab.orc n_q14 = none := by kernel_rfl
theorem t_q106 : tab.fn n_q106 = some F_q106 := by kernel_rfl
theorem o_q106 : tab.orc n_q106 = none := by kernel_rfl
theorem t_q104 : tab.fn n_q104 = some F_q104 := by kernel_rfl
theorem o_q104 : tab.orc n_q104 = none := by kernel_rfl
theorem t_q109 : tab.fn n_q109 = some F_q109 := by kernel_rfl
theorem o_q109 : tab.orc n_q109 = none := by kernel_rfl
theorem t_q71 : tab.fn n_q71 = some F_q71 := by kernel_rfl
theorem t_q107 : tab.fn n_q107 = some F_q107 := by kernel_rfl
theorem o_q107 : tab.orc n_q107 = none := by kernel_rfl
theorem t_q101 : tab.fn n_q101 = some F_q101 := by kernel_rfl
theorem o_q101 : tab.orc n_q101 = none := by kernel_rfl
theorem o_q99 : tab.orc n_q99 = some orcJoin := by kernel_rfl
theorem t_q108 : tab.fn n_q108 = some F_q108 := by kernel_rfl
theorem o_q108 : tab.orc n_q108 = none := by kernel_rfl
theorem t_q102 : tab.fn n_q102 = some F_q102 := by kernel_rfl
theorem o_q102 : tab.orc n_q102 = none := by kernel_rfl
theorem t_q113 : tab.fn n_q113 = some F_q113 := by kernel_rfl
theorem o_q113 : tab.orc n_q113 = none := by kernel_rfl
theorem t_q112 : tab.fn n_q112 = some F_q112 := by kernel_rfl
theorem o_q112 : tab.orc n_q112 = none := by kernel_rfl
theorem o_q97 : tab.orc n_q97 = some orcFormat := by kernel_rfl
theorem t_q79 : tab.fn n_q79 = some F_q79 := by kernel_rfl
theorem o_q79 : tab.orc n_q79 = none := by kernel_rfl
theorem t_q59 : tab.fn n_q59 = some F_q59 := by kernel_rfl
theorem o_q59 : tab.orc n_q59 = none := by kernel_rfl
theorem t_q4 : tab.fn n_q4 = some F_q4 := by kernel_rfl
theorem o_q4 : tab.orc n_q4 = none := by kernel_rfl
theorem t_q5 : tab.fn n_q5 = some F_q5 := by kernel_rfl
theorem o_q5 : tab.orc n_q5 = none := by kernel_rfl
theorem t_q6 : tab.fn n_q6 = some F_q6 := by kernel_rfl
theorem o_q6 : tab.orc n_q6 = none := by kernel_rfl
theorem t_q115 : tab.fn n_q115 = some F_q115 := by kernel_rfl
theorem o_q115 : tab.orc n_q115 = none := by kernel_rfl
theorem t_q111 : tab.fn n_q111 = some F_q111 := by kernel_rfl
theorem o_q111 : tab.orc n_q111 = none := by kernel_rfl
theorem t_q60 : tab.fn n_q60 = some F_q60 := by kernel_rfl
theorem o_q60 : tab.orc n_q60 = none := by kernel_rfl
theorem t_q61 : tab.fn n_q61 = some F_q61 := by kernel_rfl
theorem o_q61 : tab.orc n_q61 = none := by kernel_rfl
theorem t_q67 : tab.fn n_q67 = some F_q67 := by kernel_rfl
theorem o_q67 : tab.orc n_q67 = none := by kernel_rfl
theorem t_q70 : tab.fn n_q70 = some F_q70 := by kernel_rfl
theorem o_q70 : tab.orc n_q70 = none := by kernel_rfl
theorem t_q95 : tab.fn n_q95 = some F_q95 := by kernel_rfl
theorem o_q95 : tab.orc n_q95 = none := by kernel_rfl
theorem t_q105 : tab.fn n_q105 = some F_q105 := by kernel_rfl
theorem o_q105 : tab.orc n_q105 = none := by kernel_rfl
theorem t_q81 : tab.fn n_q81 = some F_q81 := by kernel_rfl
theorem o_q81 : tab.orc n_q81 = none := by kernel_rfl
theorem o_q98 : tab.orc n_q98 = some orcContains := by kernel_rfl
theorem t_q114 : tab.fn n_q114 = some F_q114 := by kernel_rfl
theorem o_q114 : tab.orc n_q114 = none := by kernel_rfl
theorem t_q116 : tab.fn n_q116 = some F_q116 := by kernel_rfl
theorem o_q116 : tab.orc n_q116 = none := by kernel_rfl
theorem t_q39 : tab.fn n_q39 = some F_q39 := by kernel_rfl
theorem o_q39 : tab.orc n_q39 = none := by kernel_rfl
theorem t_q83 : tab.fn n_q83 = some F_q83 := by kernel_rfl
theorem o_q83 : tab.orc n_q83 = none := by kernel_rfl
theorem t_q96 : tab.fn n_q96 = some F_q96 := by kernel_rfl
theorem o_q96 : tab.orc n_q96 = none := by kernel_rfl
theorem t_q118 : tab.fn n_q118 = some F_q118 := by kernel_rfl
theorem o_q118 : tab.orc n_q118 = none := by kernel_rfl
theorem t_q43 : tab.fn n_q43 = some F_q43 := by kernel_rfl
theorem o_q43 : tab.orc n_q43 = none := by kernel_rfl
theorem t_q117 : tab.fn n_q117 = some F_q117 := by kernel_rfl
theorem o_q117 : tab.orc n_q117 = none := by kernel_rfl
theorem t_q40 : tab.fn n_q40 = some F_q40 := by kernel_rfl
theorem o_q40 : tab.orc n_q40 = none := by kernel_rfl
theorem t_q44 : tab.fn n_q44 = some F_q44 := by kernel_rfl
theorem o_q44 : tab.orc n_q44 = none := by kernel_rfl
theorem t_q41 : tab.fn n_q41 = some F_q41 := by kernel_rfl
theorem o_q41 : tab.orc n_q41 = none := by kernel_rfl
theorem o_q85 : tab.orc n_q85 = some (orcSorted 1000000 n_q63) := by kernel_rfl
theorem t_q62 : tab.fn n_q62 = some F_q62 := by kernel_rfl
theorem o_q62 : tab.orc n_q62 = none := by kernel_rfl
theorem t_q42 : tab.fn n_q42 = some F_q42 := by kernel_rfl
theorem o_q42 : tab.orc n_q42 = none := by kernel_rfl
theorem z_q67 : tab.fz n_q67 = true := by kernel_rfl
theorem z_q39 : tab.fz n_q39 = false := by kernel_rfl
theorem z_q43 : tab.fz n_q43 = false := by kernel_rfl
theorem z_q40 : tab.fz n_q40 = true := by kernel_rfl
end Go.Proofs.YtmfhanoibbmnlaaGreatDoor.Tz
