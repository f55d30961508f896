/-
The table. Conditions: none.
-/
import Derived.Test.YtmfhanoibbmnlaaGreatDoorTPd
namespace Go.Proofs.YtmfhanoibbmnlaaGreatDoor.Tz
open Go.Aug
set_option maxRecDepth 100000
def frozen (f : Nat) : Bool := cond (Nat.beq f n_q70) false (cond (Nat.beq f n_q47) false (cond (Nat.beq f n_q51) false (cond (Nat.beq f n_q86) false (true))))
def orcHead : List D → Heap → Option (D × Heap)
  | [], H => some (.v (.bool true), H)
  | _, _ => none
noncomputable def orcs0 (f : Nat) : Option (List D → Heap → Option (D × Heap)) := cond (Nat.beq f n_q93) (some (orcSorted 1000000 n_q71)) (cond (Nat.beq f n_q106) (some orcContains) (cond (Nat.beq f n_q107) (some orcJoin) (cond (Nat.beq f n_q105) (some orcFormat) (cond (Nat.beq f n_q108) (some (orcPrintBy evP)) (none)))))
noncomputable def orcs (f : Nat) : Option (List D → Heap → Option (D × Heap)) := cond (Nat.beq f n_q6) (some orcHead) (cond (Nat.beq f n_q93) (some (orcSorted 1000000 n_q71)) (cond (Nat.beq f n_q106) (some orcContains) (cond (Nat.beq f n_q107) (some orcJoin) (cond (Nat.beq f n_q105) (some orcFormat) (cond (Nat.beq f n_q108) (some (orcPrintBy evP)) (none))))))
noncomputable def tab0 : Tab := ⟨findF rows, frozen, orcs0⟩
noncomputable def tab : Tab := ⟨findF rows, frozen, orcs⟩
theorem t_q5 : tab.fn n_q5 = some F_q5 := by kernel_rfl
theorem t_q1 : tab.fn n_q1 = some F_q1 := by kernel_rfl
theorem o_q1 : tab.orc n_q1 = none := by kernel_rfl
theorem t_q4 : tab.fn n_q4 = some F_q4 := by kernel_rfl
theorem o_q4 : tab.orc n_q4 = none := by kernel_rfl
theorem t_q59 : tab.fn n_q59 = some F_q59 := by kernel_rfl
theorem t_q58 : tab.fn n_q58 = some F_q58 := by kernel_rfl
theorem t_q43 : tab.fn n_q43 = some F_q43 := by kernel_rfl
theorem o_q43 : tab.orc n_q43 = none := by kernel_rfl
theorem t_q22 : tab.fn n_q22 = some F_q22 := by kernel_rfl
theorem o_q22 : tab.orc n_q22 = none := by kernel_rfl
theorem t_q2 : tab.fn n_q2 = some F_q2 := by kernel_rfl
theorem o_q2 : tab.orc n_q2 = none := by kernel_rfl
theorem t_q3 : tab.fn n_q3 = some F_q3 := by kernel_rfl
theorem o_q3 : tab.orc n_q3 = none := by kernel_rfl
theorem t_q64 : tab.fn n_q64 = some F_q64 := by kernel_rfl
theorem t_q60 : tab.fn n_q60 = some F_q60 := by kernel_rfl
theorem t_q86 : tab.fn n_q86 = some F_q86 := by kernel_rfl
theorem t_q111 : tab.fn n_q111 = some F_q111 := by kernel_rfl
theorem o_q111 : tab.orc n_q111 = none := by kernel_rfl
theorem t_q76 : tab.fn n_q76 = some F_q76 := by kernel_rfl
theorem t_q66 : tab.fn n_q66 = some F_q66 := by kernel_rfl
theorem o_q66 : tab.orc n_q66 = none := by kernel_rfl
theorem t_q42 : tab.fn n_q42 = some F_q42 := by kernel_rfl
theorem o_q42 : tab.orc n_q42 = none := by kernel_rfl
theorem t_q40 : tab.fn n_q40 = some F_q40 := by kernel_rfl
theorem o_q40 : tab.orc n_q40 = none := by kernel_rfl
theorem t_q23 : tab.fn n_q23 = some F_q23 := by kernel_rfl
theorem o_q23 : tab.orc n_q23 = none := by kernel_rfl
theorem t_q20 : tab.fn n_q20 = some F_q20 := by kernel_rfl
theorem o_q20 : tab.orc n_q20 = none := by kernel_rfl
theorem t_q0 : tab.fn n_q0 = some F_q0 := by kernel_rfl
theorem o_q0 : tab.orc n_q0 = none := by kernel_rfl
theorem t_q114 : tab.fn n_q114 = some F_q114 := by kernel_rfl
theorem o_q114 : tab.orc n_q114 = none := by kernel_rfl
theorem t_q112 : tab.fn n_q112 = some F_q112 := by kernel_rfl
theorem o_q112 : tab.orc n_q112 = none := by kernel_rfl
theorem t_q117 : tab.fn n_q117 = some F_q117 := by kernel_rfl
theorem o_q117 : tab.orc n_q117 = none := by kernel_rfl
theorem t_q79 : tab.fn n_q79 = some F_q79 := by kernel_rfl
theorem t_q115 : tab.fn n_q115 = some F_q115 := by kernel_rfl
theorem o_q115 : tab.orc n_q115 = none := by kernel_rfl
theorem t_q109 : tab.fn n_q109 = some F_q109 := by kernel_rfl
theorem o_q109 : tab.orc n_q109 = none := by kernel_rfl
theorem o_q107 : tab.orc n_q107 = some orcJoin := by kernel_rfl
theorem t_q116 : tab.fn n_q116 = some F_q116 := by kernel_rfl
theorem o_q116 : tab.orc n_q116 = none := by kernel_rfl
theorem t_q110 : tab.fn n_q110 = some F_q110 := by kernel_rfl
theorem o_q110 : tab.orc n_q110 = none := by kernel_rfl
theorem t_q121 : tab.fn n_q121 = some F_q121 := by kernel_rfl
theorem o_q121 : tab.orc n_q121 = none := by kernel_rfl
theorem t_q120 : tab.fn n_q120 = some F_q120 := by kernel_rfl
theorem o_q120 : tab.orc n_q120 = none := by kernel_rfl
theorem o_q105 : tab.orc n_q105 = some orcFormat := by kernel_rfl
theorem t_q87 : tab.fn n_q87 = some F_q87 := by kernel_rfl
theorem o_q87 : tab.orc n_q87 = none := by kernel_rfl
theorem t_q67 : tab.fn n_q67 = some F_q67 := by kernel_rfl
theorem o_q67 : tab.orc n_q67 = none := by kernel_rfl
theorem t_q9 : tab.fn n_q9 = some F_q9 := by kernel_rfl
theorem o_q9 : tab.orc n_q9 = none := by kernel_rfl
theorem t_q7 : tab.fn n_q7 = some F_q7 := by kernel_rfl
theorem o_q7 : tab.orc n_q7 = none := by kernel_rfl
theorem t_q11 : tab.fn n_q11 = some F_q11 := by kernel_rfl
theorem o_q11 : tab.orc n_q11 = none := by kernel_rfl
theorem t_q12 : tab.fn n_q12 = some F_q12 := by kernel_rfl
theorem o_q12 : tab.orc n_q12 = none := by kernel_rfl
theorem t_q123 : tab.fn n_q123 = some F_q123 := by kernel_rfl
theorem o_q123 : tab.orc n_q123 = none := by kernel_rfl
theorem t_q119 : tab.fn n_q119 = some F_q119 := by kernel_rfl
theorem o_q119 : tab.orc n_q119 = none := by kernel_rfl
theorem t_q68 : tab.fn n_q68 = some F_q68 := by kernel_rfl
theorem o_q68 : tab.orc n_q68 = none := by kernel_rfl
theorem t_q69 : tab.fn n_q69 = some F_q69 := by kernel_rfl
theorem o_q69 : tab.orc n_q69 = none := by kernel_rfl
theorem t_q75 : tab.fn n_q75 = some F_q75 := by kernel_rfl
theorem o_q75 : tab.orc n_q75 = none := by kernel_rfl
theorem t_q78 : tab.fn n_q78 = some F_q78 := by kernel_rfl
theorem o_q78 : tab.orc n_q78 = none := by kernel_rfl
theorem t_q103 : tab.fn n_q103 = some F_q103 := by kernel_rfl
theorem o_q103 : tab.orc n_q103 = none := by kernel_rfl
theorem t_q113 : tab.fn n_q113 = some F_q113 := by kernel_rfl
theorem o_q113 : tab.orc n_q113 = none := by kernel_rfl
theorem t_q89 : tab.fn n_q89 = some F_q89 := by kernel_rfl
theorem o_q89 : tab.orc n_q89 = none := by kernel_rfl
theorem t_q10 : tab.fn n_q10 = some F_q10 := by kernel_rfl
theorem o_q10 : tab.orc n_q10 = none := by kernel_rfl
theorem o_q106 : tab.orc n_q106 = some orcContains := by kernel_rfl
theorem t_q122 : tab.fn n_q122 = some F_q122 := by kernel_rfl
theorem o_q122 : tab.orc n_q122 = none := by kernel_rfl
theorem t_q124 : tab.fn n_q124 = some F_q124 := by kernel_rfl
theorem o_q124 : tab.orc n_q124 = none := by kernel_rfl
theorem t_q47 : tab.fn n_q47 = some F_q47 := by kernel_rfl
theorem o_q47 : tab.orc n_q47 = none := by kernel_rfl
theorem t_q91 : tab.fn n_q91 = some F_q91 := by kernel_rfl
theorem o_q91 : tab.orc n_q91 = none := by kernel_rfl
theorem t_q104 : tab.fn n_q104 = some F_q104 := by kernel_rfl
theorem o_q104 : tab.orc n_q104 = none := by kernel_rfl
theorem t_q8 : tab.fn n_q8 = some F_q8 := by kernel_rfl
theorem o_q8 : tab.orc n_q8 = none := by kernel_rfl
theorem t_q126 : tab.fn n_q126 = some F_q126 := by kernel_rfl
theorem o_q126 : tab.orc n_q126 = none := by kernel_rfl
theorem t_q51 : tab.fn n_q51 = some F_q51 := by kernel_rfl
theorem o_q51 : tab.orc n_q51 = none := by kernel_rfl
theorem t_q125 : tab.fn n_q125 = some F_q125 := by kernel_rfl
theorem o_q125 : tab.orc n_q125 = none := by kernel_rfl
theorem t_q48 : tab.fn n_q48 = some F_q48 := by kernel_rfl
theorem o_q48 : tab.orc n_q48 = none := by kernel_rfl
theorem t_q52 : tab.fn n_q52 = some F_q52 := by kernel_rfl
theorem o_q52 : tab.orc n_q52 = none := by kernel_rfl
theorem t_q49 : tab.fn n_q49 = some F_q49 := by kernel_rfl
theorem o_q49 : tab.orc n_q49 = none := by kernel_rfl
theorem o_q93 : tab.orc n_q93 = some (orcSorted 1000000 n_q71) := by kernel_rfl
theorem t_q70 : tab.fn n_q70 = some F_q70 := by kernel_rfl
theorem o_q70 : tab.orc n_q70 = none := by kernel_rfl
theorem t_q50 : tab.fn n_q50 = some F_q50 := by kernel_rfl
theorem o_q50 : tab.orc n_q50 = none := by kernel_rfl
theorem z_q75 : tab.fz n_q75 = true := by kernel_rfl
theorem z_q47 : tab.fz n_q47 = false := by kernel_rfl
theorem z_q51 : tab.fz n_q51 = false := by kernel_rfl
theorem z_q48 : tab.fz n_q48 = true := by kernel_rfl
end Go.Proofs.YtmfhanoibbmnlaaGreatDoor.Tz
