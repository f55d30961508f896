/-
The table. Conditions: none.
-/
import Derived.Test.YthdkeggdipogoaaGreatDoorTM9
import Derived.Test.YthdkeggdipogoaaGreatDoorTPq
namespace Go.Proofs.YthdkeggdipogoaaGreatDoor.Tz
open Go.Aug
set_option maxRecDepth 100000
def frozen (f : Nat) : Bool := cond (Nat.beq f n_q73) false (cond (Nat.beq f n_q59) false (cond (Nat.beq f n_q63) false (true)))
def orcHead : List D → Heap → Option (D × Heap)
  | [], H => some (.v (.bool true), H)
  | _, _ => none
def orcs0 (f : Nat) : Option (List D → Heap → Option (D × Heap)) := cond (Nat.beq f n_q84) (some (orcSorted 1000000 n_q74)) (cond (Nat.beq f n_q80) (some (orcSorted 1 n_q74)) (cond (Nat.beq f n_q58) (some orcCmpS) (cond (Nat.beq f n_q97) (some orcContains) (cond (Nat.beq f n_q98) (some orcJoin) (cond (Nat.beq f n_q96) (some orcFormat) (cond (Nat.beq f n_q99) (some orcPrint) (none)))))))
def orcs (f : Nat) : Option (List D → Heap → Option (D × Heap)) := cond (Nat.beq f n_q3) (some orcHead) (cond (Nat.beq f n_q84) (some (orcSorted 1000000 n_q74)) (cond (Nat.beq f n_q80) (some (orcSorted 1 n_q74)) (cond (Nat.beq f n_q58) (some orcCmpS) (cond (Nat.beq f n_q97) (some orcContains) (cond (Nat.beq f n_q98) (some orcJoin) (cond (Nat.beq f n_q96) (some orcFormat) (cond (Nat.beq f n_q99) (some orcPrint) (none))))))))
def tab0 : Tab := ⟨findF rows, frozen, orcs0⟩
def tab : Tab := ⟨findF rows, frozen, orcs⟩
theorem t_q2 : tab.fn n_q2 = some F_q2 := by kernel_rfl
theorem t_q0 : tab.fn n_q0 = some F_q0 := by kernel_rfl
theorem o_q0 : tab.orc n_q0 = none := by kernel_rfl
theorem t_q78 : tab.fn n_q78 = some F_q78 := by kernel_rfl
theorem o_q78 : tab.orc n_q78 = none := by kernel_rfl
theorem t_q52 : tab.fn n_q52 = some F_q52 := by kernel_rfl
theorem o_q52 : tab.orc n_q52 = none := by kernel_rfl
theorem t_q24 : tab.fn n_q24 = some F_q24 := by kernel_rfl
theorem o_q24 : tab.orc n_q24 = none := by kernel_rfl
theorem t_q75 : tab.fn n_q75 = some F_q75 := by kernel_rfl
theorem o_q75 : tab.orc n_q75 = none := by kernel_rfl
theorem t_q50 : tab.fn n_q50 = some F_q50 := by kernel_rfl
theorem o_q50 : tab.orc n_q50 = none := by kernel_rfl
theorem t_q23 : tab.fn n_q23 = some F_q23 := by kernel_rfl
theorem o_q23 : tab.orc n_q23 = none := by kernel_rfl
theorem t_q76 : tab.fn n_q76 = some F_q76 := by kernel_rfl
theorem t_q51 : tab.fn n_q51 = some F_q51 := by kernel_rfl
theorem t_q102 : tab.fn n_q102 = some F_q102 := by kernel_rfl
theorem o_q102 : tab.orc n_q102 = none := by kernel_rfl
theorem t_q26 : tab.fn n_q26 = some F_q26 := by kernel_rfl
theorem o_q26 : tab.orc n_q26 = none := by kernel_rfl
theorem t_q21 : tab.fn n_q21 = some F_q21 := by kernel_rfl
theorem o_q21 : tab.orc n_q21 = none := by kernel_rfl
theorem t_q20 : tab.fn n_q20 = some F_q20 := by kernel_rfl
theorem o_q20 : tab.orc n_q20 = none := by kernel_rfl
theorem t_q1 : tab.fn n_q1 = some F_q1 := by kernel_rfl
theorem o_q1 : tab.orc n_q1 = none := by kernel_rfl
theorem t_q59 : tab.fn n_q59 = some F_q59 := by kernel_rfl
theorem o_q59 : tab.orc n_q59 = none := by kernel_rfl
theorem t_q82 : tab.fn n_q82 = some F_q82 := by kernel_rfl
theorem o_q82 : tab.orc n_q82 = none := by kernel_rfl
theorem t_q46 : tab.fn n_q46 = some F_q46 := by kernel_rfl
theorem o_q46 : tab.orc n_q46 = none := by kernel_rfl
theorem t_q113 : tab.fn n_q113 = some F_q113 := by kernel_rfl
theorem o_q113 : tab.orc n_q113 = none := by kernel_rfl
theorem t_q115 : tab.fn n_q115 = some F_q115 := by kernel_rfl
theorem o_q115 : tab.orc n_q115 = none := by kernel_rfl
theorem t_q4 : tab.fn n_q4 = some F_q4 := by kernel_rfl
theorem o_q4 : tab.orc n_q4 = none := by kernel_rfl
theorem t_q6 : tab.fn n_q6 = some F_q6 := by kernel_rfl
theorem o_q6 : tab.orc n_q6 = none := by kernel_rfl
theorem t_q25 : tab.fn n_q25 = some F_q25 := by kernel_rfl
theorem o_q25 : tab.orc n_q25 = none := by kernel_rfl
theorem t_q79 : tab.fn n_q79 = some F_q79 := by kernel_rfl
theorem t_q54 : tab.fn n_q54 = some F_q54 := by kernel_rfl
theorem o_q54 : tab.orc n_q54 = none := by kernel_rfl
theorem t_q53 : tab.fn n_q53 = some F_q53 := by kernel_rfl
theorem t_q105 : tab.fn n_q105 = some F_q105 := by kernel_rfl
theorem o_q105 : tab.orc n_q105 = none := by kernel_rfl
theorem t_q103 : tab.fn n_q103 = some F_q103 := by kernel_rfl
theorem o_q103 : tab.orc n_q103 = none := by kernel_rfl
theorem t_q108 : tab.fn n_q108 = some F_q108 := by kernel_rfl
theorem o_q108 : tab.orc n_q108 = none := by kernel_rfl
theorem t_q43 : tab.fn n_q43 = some F_q43 := by kernel_rfl
theorem o_q43 : tab.orc n_q43 = none := by kernel_rfl
theorem t_q22 : tab.fn n_q22 = some F_q22 := by kernel_rfl
theorem o_q22 : tab.orc n_q22 = none := by kernel_rfl
theorem t_q18 : tab.fn n_q18 = some F_q18 := by kernel_rfl
theorem o_q18 : tab.orc n_q18 = none := by kernel_rfl
theorem t_q28 : tab.fn n_q28 = some F_q28 := by kernel_rfl
theorem o_q28 : tab.orc n_q28 = none := by kernel_rfl
theorem t_q27 : tab.fn n_q27 = some F_q27 := by kernel_rfl
theorem o_q27 : tab.orc n_q27 = none := by kernel_rfl
theorem t_q44 : tab.fn n_q44 = some F_q44 := by kernel_rfl
theorem o_q44 : tab.orc n_q44 = none := by kernel_rfl
theorem t_q29 : tab.fn n_q29 = some F_q29 := by kernel_rfl
theorem o_q29 : tab.orc n_q29 = none := by kernel_rfl
theorem t_q63 : tab.fn n_q63 = some F_q63 := by kernel_rfl
theorem o_q63 : tab.orc n_q63 = none := by kernel_rfl
theorem t_q48 : tab.fn n_q48 = some F_q48 := by kernel_rfl
theorem o_q48 : tab.orc n_q48 = none := by kernel_rfl
theorem t_q117 : tab.fn n_q117 = some F_q117 := by kernel_rfl
theorem o_q117 : tab.orc n_q117 = none := by kernel_rfl
theorem t_q7 : tab.fn n_q7 = some F_q7 := by kernel_rfl
theorem o_q7 : tab.orc n_q7 = none := by kernel_rfl
theorem t_q8 : tab.fn n_q8 = some F_q8 := by kernel_rfl
theorem o_q8 : tab.orc n_q8 = none := by kernel_rfl
theorem t_q114 : tab.fn n_q114 = some F_q114 := by kernel_rfl
theorem o_q114 : tab.orc n_q114 = none := by kernel_rfl
theorem t_q110 : tab.fn n_q110 = some F_q110 := by kernel_rfl
theorem o_q110 : tab.orc n_q110 = none := by kernel_rfl
theorem t_q71 : tab.fn n_q71 = some F_q71 := by kernel_rfl
theorem o_q71 : tab.orc n_q71 = none := by kernel_rfl
theorem t_q72 : tab.fn n_q72 = some F_q72 := by kernel_rfl
theorem o_q72 : tab.orc n_q72 = none := by kernel_rfl
theorem t_q5 : tab.fn n_q5 = some F_q5 := by kernel_rfl
theorem o_q5 : tab.orc n_q5 = none := by kernel_rfl
theorem t_q9 : tab.fn n_q9 = some F_q9 := by kernel_rfl
theorem o_q9 : tab.orc n_q9 = none := by kernel_rfl
theorem t_q10 : tab.fn n_q10 = some F_q10 := by kernel_rfl
theorem o_q10 : tab.orc n_q10 = none := by kernel_rfl
theorem t_q45 : tab.fn n_q45 = some F_q45 := by kernel_rfl
theorem o_q45 : tab.orc n_q45 = none := by kernel_rfl
theorem t_q60 : tab.fn n_q60 = some F_q60 := by kernel_rfl
theorem o_q60 : tab.orc n_q60 = none := by kernel_rfl
theorem t_q64 : tab.fn n_q64 = some F_q64 := by kernel_rfl
theorem o_q64 : tab.orc n_q64 = none := by kernel_rfl
theorem t_q61 : tab.fn n_q61 = some F_q61 := by kernel_rfl
theorem o_q61 : tab.orc n_q61 = none := by kernel_rfl
theorem o_q84 : tab.orc n_q84 = some (orcSorted 1000000 n_q74) := by kernel_rfl
theorem t_q73 : tab.fn n_q73 = some F_q73 := by kernel_rfl
theorem o_q73 : tab.orc n_q73 = none := by kernel_rfl
theorem t_q47 : tab.fn n_q47 = some F_q47 := by kernel_rfl
theorem o_q47 : tab.orc n_q47 = none := by kernel_rfl
theorem t_q49 : tab.fn n_q49 = some F_q49 := by kernel_rfl
theorem o_q49 : tab.orc n_q49 = none := by kernel_rfl
theorem t_q116 : tab.fn n_q116 = some F_q116 := by kernel_rfl
theorem o_q116 : tab.orc n_q116 = none := by kernel_rfl
theorem t_q106 : tab.fn n_q106 = some F_q106 := by kernel_rfl
theorem o_q106 : tab.orc n_q106 = none := by kernel_rfl
theorem t_q100 : tab.fn n_q100 = some F_q100 := by kernel_rfl
theorem o_q100 : tab.orc n_q100 = none := by kernel_rfl
theorem o_q98 : tab.orc n_q98 = some orcJoin := by kernel_rfl
theorem t_q107 : tab.fn n_q107 = some F_q107 := by kernel_rfl
theorem o_q107 : tab.orc n_q107 = none := by kernel_rfl
theorem t_q101 : tab.fn n_q101 = some F_q101 := by kernel_rfl
theorem o_q101 : tab.orc n_q101 = none := by kernel_rfl
theorem t_q112 : tab.fn n_q112 = some F_q112 := by kernel_rfl
theorem o_q112 : tab.orc n_q112 = none := by kernel_rfl
theorem t_q111 : tab.fn n_q111 = some F_q111 := by kernel_rfl
theorem o_q111 : tab.orc n_q111 = none := by kernel_rfl
theorem o_q96 : tab.orc n_q96 = some orcFormat := by kernel_rfl
theorem o_q97 : tab.orc n_q97 = some orcContains := by kernel_rfl
theorem t_q81 : tab.fn n_q81 = some F_q81 := by kernel_rfl
theorem o_q81 : tab.orc n_q81 = none := by kernel_rfl
theorem t_q62 : tab.fn n_q62 = some F_q62 := by kernel_rfl
theorem o_q62 : tab.orc n_q62 = none := by kernel_rfl
theorem t_q94 : tab.fn n_q94 = some F_q94 := by kernel_rfl
theorem o_q94 : tab.orc n_q94 = none := by kernel_rfl
theorem t_q104 : tab.fn n_q104 = some F_q104 := by kernel_rfl
theorem o_q104 : tab.orc n_q104 = none := by kernel_rfl
theorem t_q95 : tab.fn n_q95 = some F_q95 := by kernel_rfl
theorem o_q95 : tab.orc n_q95 = none := by kernel_rfl
theorem z_q75 : tab.fz n_q75 = true := by kernel_rfl
theorem z_q50 : tab.fz n_q50 = true := by kernel_rfl
theorem z_q59 : tab.fz n_q59 = false := by kernel_rfl
theorem z_q63 : tab.fz n_q63 = false := by kernel_rfl
theorem z_q48 : tab.fz n_q48 = true := by kernel_rfl
theorem z_q60 : tab.fz n_q60 = true := by kernel_rfl
end Go.Proofs.YthdkeggdipogoaaGreatDoor.Tz
