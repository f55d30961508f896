/-
The table. Conditions: none.
-/
import Derived.Test.YthdkeggdipogoaaGreatDoorTM9
import Derived.Test.YthdkeggdipogoaaGreatDoorTO8
import Derived.Test.YthdkeggdipogoaaGreatDoorTPq
namespace Go.Proofs.YthdkeggdipogoaaGreatDoor.Tz
open Go.Aug
set_option maxRecDepth 100000
def frozen (f : Nat) : Bool := cond (Nat.beq f n_q74) false (cond (Nat.beq f n_q49) false (cond (Nat.beq f n_q59) false (true)))
def orcHead : List D → Heap → Option (D × Heap)
  | [], H => some (.v (.bool true), H)
  | _, _ => none
def orcs0 (f : Nat) : Option (List D → Heap → Option (D × Heap)) := cond (Nat.beq f n_q89) (some (orcSorted 1000000 n_q75)) (cond (Nat.beq f n_q81) (some (orcSorted 1 n_q75)) (cond (Nat.beq f n_q46) (some orcCmpS) (cond (Nat.beq f n_q102) (some orcContains) (cond (Nat.beq f n_q103) (some orcJoin) (cond (Nat.beq f n_q101) (some orcFormat) (cond (Nat.beq f n_q104) (some orcPrint) (none)))))))
def orcs (f : Nat) : Option (List D → Heap → Option (D × Heap)) := cond (Nat.beq f n_q4) (some orcHead) (cond (Nat.beq f n_q89) (some (orcSorted 1000000 n_q75)) (cond (Nat.beq f n_q81) (some (orcSorted 1 n_q75)) (cond (Nat.beq f n_q46) (some orcCmpS) (cond (Nat.beq f n_q102) (some orcContains) (cond (Nat.beq f n_q103) (some orcJoin) (cond (Nat.beq f n_q101) (some orcFormat) (cond (Nat.beq f n_q104) (some orcPrint) (none))))))))
def tab0 : Tab := ⟨findF rows, frozen, orcs0⟩
def tab : Tab := ⟨findF rows, frozen, orcs⟩
theorem t_q3 : tab.fn n_q3 = some F_q3 := by kernel_rfl
theorem t_q1 : tab.fn n_q1 = some F_q1 := by kernel_rfl
theorem o_q1 : tab.orc n_q1 = none := by kernel_rfl
theorem t_q79 : tab.fn n_q79 = some F_q79 := by kernel_rfl
theorem o_q79 : tab.orc n_q79 = none := by kernel_rfl
theorem t_q21 : tab.fn n_q21 = some F_q21 := by kernel_rfl
theorem o_q21 : tab.orc n_q21 = none := by kernel_rfl
theorem t_q76 : tab.fn n_q76 = some F_q76 := by kernel_rfl
theorem o_q76 : tab.orc n_q76 = none := by kernel_rfl
theorem t_q20 : tab.fn n_q20 = some F_q20 := by kernel_rfl
theorem o_q20 : tab.orc n_q20 = none := by kernel_rfl
theorem t_q77 : tab.fn n_q77 = some F_q77 := by kernel_rfl
theorem t_q107 : tab.fn n_q107 = some F_q107 := by kernel_rfl
theorem o_q107 : tab.orc n_q107 = none := by kernel_rfl
theorem t_q23 : tab.fn n_q23 = some F_q23 := by kernel_rfl
theorem o_q23 : tab.orc n_q23 = none := by kernel_rfl
theorem t_q0 : tab.fn n_q0 = some F_q0 := by kernel_rfl
theorem o_q0 : tab.orc n_q0 = none := by kernel_rfl
theorem t_q2 : tab.fn n_q2 = some F_q2 := by kernel_rfl
theorem o_q2 : tab.orc n_q2 = none := by kernel_rfl
theorem t_q49 : tab.fn n_q49 = some F_q49 := by kernel_rfl
theorem o_q49 : tab.orc n_q49 = none := by kernel_rfl
theorem t_q87 : tab.fn n_q87 = some F_q87 := by kernel_rfl
theorem o_q87 : tab.orc n_q87 = none := by kernel_rfl
theorem t_q118 : tab.fn n_q118 = some F_q118 := by kernel_rfl
theorem o_q118 : tab.orc n_q118 = none := by kernel_rfl
theorem t_q120 : tab.fn n_q120 = some F_q120 := by kernel_rfl
theorem o_q120 : tab.orc n_q120 = none := by kernel_rfl
theorem t_q22 : tab.fn n_q22 = some F_q22 := by kernel_rfl
theorem o_q22 : tab.orc n_q22 = none := by kernel_rfl
theorem t_q80 : tab.fn n_q80 = some F_q80 := by kernel_rfl
theorem t_q110 : tab.fn n_q110 = some F_q110 := by kernel_rfl
theorem o_q110 : tab.orc n_q110 = none := by kernel_rfl
theorem t_q108 : tab.fn n_q108 = some F_q108 := by kernel_rfl
theorem o_q108 : tab.orc n_q108 = none := by kernel_rfl
theorem t_q113 : tab.fn n_q113 = some F_q113 := by kernel_rfl
theorem o_q113 : tab.orc n_q113 = none := by kernel_rfl
theorem t_q59 : tab.fn n_q59 = some F_q59 := by kernel_rfl
theorem o_q59 : tab.orc n_q59 = none := by kernel_rfl
theorem t_q122 : tab.fn n_q122 = some F_q122 := by kernel_rfl
theorem o_q122 : tab.orc n_q122 = none := by kernel_rfl
theorem t_q119 : tab.fn n_q119 = some F_q119 := by kernel_rfl
theorem o_q119 : tab.orc n_q119 = none := by kernel_rfl
theorem t_q115 : tab.fn n_q115 = some F_q115 := by kernel_rfl
theorem o_q115 : tab.orc n_q115 = none := by kernel_rfl
theorem t_q72 : tab.fn n_q72 = some F_q72 := by kernel_rfl
theorem o_q72 : tab.orc n_q72 = none := by kernel_rfl
theorem t_q73 : tab.fn n_q73 = some F_q73 := by kernel_rfl
theorem o_q73 : tab.orc n_q73 = none := by kernel_rfl
theorem t_q70 : tab.fn n_q70 = some F_q70 := by kernel_rfl
theorem o_q70 : tab.orc n_q70 = none := by kernel_rfl
theorem t_q52 : tab.fn n_q52 = some F_q52 := by kernel_rfl
theorem o_q52 : tab.orc n_q52 = none := by kernel_rfl
theorem t_q48 : tab.fn n_q48 = some F_q48 := by kernel_rfl
theorem o_q48 : tab.orc n_q48 = none := by kernel_rfl
theorem t_q51 : tab.fn n_q51 = some F_q51 := by kernel_rfl
theorem o_q51 : tab.orc n_q51 = none := by kernel_rfl
theorem t_q60 : tab.fn n_q60 = some F_q60 := by kernel_rfl
theorem o_q60 : tab.orc n_q60 = none := by kernel_rfl
theorem t_q53 : tab.fn n_q53 = some F_q53 := by kernel_rfl
theorem o_q53 : tab.orc n_q53 = none := by kernel_rfl
theorem o_q89 : tab.orc n_q89 = some (orcSorted 1000000 n_q75) := by kernel_rfl
theorem t_q74 : tab.fn n_q74 = some F_q74 := by kernel_rfl
theorem o_q74 : tab.orc n_q74 = none := by kernel_rfl
theorem t_q121 : tab.fn n_q121 = some F_q121 := by kernel_rfl
theorem o_q121 : tab.orc n_q121 = none := by kernel_rfl
theorem t_q111 : tab.fn n_q111 = some F_q111 := by kernel_rfl
theorem o_q111 : tab.orc n_q111 = none := by kernel_rfl
theorem t_q105 : tab.fn n_q105 = some F_q105 := by kernel_rfl
theorem o_q105 : tab.orc n_q105 = none := by kernel_rfl
theorem o_q103 : tab.orc n_q103 = some orcJoin := by kernel_rfl
theorem t_q112 : tab.fn n_q112 = some F_q112 := by kernel_rfl
theorem o_q112 : tab.orc n_q112 = none := by kernel_rfl
theorem t_q106 : tab.fn n_q106 = some F_q106 := by kernel_rfl
theorem o_q106 : tab.orc n_q106 = none := by kernel_rfl
theorem t_q117 : tab.fn n_q117 = some F_q117 := by kernel_rfl
theorem o_q117 : tab.orc n_q117 = none := by kernel_rfl
theorem t_q116 : tab.fn n_q116 = some F_q116 := by kernel_rfl
theorem o_q116 : tab.orc n_q116 = none := by kernel_rfl
theorem o_q101 : tab.orc n_q101 = some orcFormat := by kernel_rfl
theorem o_q102 : tab.orc n_q102 = some orcContains := by kernel_rfl
theorem t_q84 : tab.fn n_q84 = some F_q84 := by kernel_rfl
theorem o_q84 : tab.orc n_q84 = none := by kernel_rfl
theorem t_q68 : tab.fn n_q68 = some F_q68 := by kernel_rfl
theorem o_q68 : tab.orc n_q68 = none := by kernel_rfl
theorem t_q85 : tab.fn n_q85 = some F_q85 := by kernel_rfl
theorem o_q85 : tab.orc n_q85 = none := by kernel_rfl
theorem t_q71 : tab.fn n_q71 = some F_q71 := by kernel_rfl
theorem o_q71 : tab.orc n_q71 = none := by kernel_rfl
theorem o_q81 : tab.orc n_q81 = some (orcSorted 1 n_q75) := by kernel_rfl
theorem t_q54 : tab.fn n_q54 = some F_q54 := by kernel_rfl
theorem o_q54 : tab.orc n_q54 = none := by kernel_rfl
theorem t_q99 : tab.fn n_q99 = some F_q99 := by kernel_rfl
theorem o_q99 : tab.orc n_q99 = none := by kernel_rfl
theorem t_q109 : tab.fn n_q109 = some F_q109 := by kernel_rfl
theorem o_q109 : tab.orc n_q109 = none := by kernel_rfl
theorem t_q83 : tab.fn n_q83 = some F_q83 := by kernel_rfl
theorem o_q83 : tab.orc n_q83 = none := by kernel_rfl
theorem t_q69 : tab.fn n_q69 = some F_q69 := by kernel_rfl
theorem o_q69 : tab.orc n_q69 = none := by kernel_rfl
theorem t_q100 : tab.fn n_q100 = some F_q100 := by kernel_rfl
theorem o_q100 : tab.orc n_q100 = none := by kernel_rfl
theorem z_q76 : tab.fz n_q76 = true := by kernel_rfl
theorem z_q49 : tab.fz n_q49 = false := by kernel_rfl
theorem z_q59 : tab.fz n_q59 = false := by kernel_rfl
theorem z_q51 : tab.fz n_q51 = true := by kernel_rfl
end Go.Proofs.YthdkeggdipogoaaGreatDoor.Tz
