/-
The table. Conditions: none.
-/
import Derived.Test.YtlnkifnkamojnaaGreatTM9
import Derived.Test.YtlnkifnkamojnaaGreatTO8
namespace Go.Proofs.YtlnkifnkamojnaaGreat.Tz
open Go.Aug
set_option maxRecDepth 100000
def frozen (f : Nat) : Bool := cond (Nat.beq f n_q84) false (cond (Nat.beq f n_q38) false (cond (Nat.beq f n_q42) false (cond (Nat.beq f n_q73) false (cond (Nat.beq f n_q110) false (cond (Nat.beq f n_q111) false (cond (Nat.beq f n_q107) false (cond (Nat.beq f n_q77) false (cond (Nat.beq f n_q109) false (cond (Nat.beq f n_q105) false (cond (Nat.beq f n_q108) false (true)))))))))))
def orcHead : List D → Heap → Option (D × Heap)
  | [], H => some (.v (.bool true), H)
  | _, _ => none
def orcs0 (f : Nat) : Option (List D → Heap → Option (D × Heap)) := cond (Nat.beq f n_q135) (some (orcSorted 1000000 n_q85)) (cond (Nat.beq f n_q37) (some orcCmpS) (cond (Nat.beq f n_q147) (some orcContains) (none)))
def orcs (f : Nat) : Option (List D → Heap → Option (D × Heap)) := cond (Nat.beq f n_q4) (some orcHead) (cond (Nat.beq f n_q135) (some (orcSorted 1000000 n_q85)) (cond (Nat.beq f n_q37) (some orcCmpS) (cond (Nat.beq f n_q147) (some orcContains) (none))))
def tab0 : Tab := ⟨findF rows, frozen, orcs0⟩
def tab : Tab := ⟨findF rows, frozen, orcs⟩
theorem t_q3 : tab.fn n_q3 = some F_q3 := by kernel_rfl
theorem t_q2 : tab.fn n_q2 = some F_q2 := by kernel_rfl
theorem o_q2 : tab.orc n_q2 = none := by kernel_rfl
theorem t_q0 : tab.fn n_q0 = some F_q0 := by kernel_rfl
theorem o_q0 : tab.orc n_q0 = none := by kernel_rfl
theorem t_q156 : tab.fn n_q156 = some F_q156 := by kernel_rfl
theorem o_q156 : tab.orc n_q156 = none := by kernel_rfl
theorem t_q155 : tab.fn n_q155 = some F_q155 := by kernel_rfl
theorem o_q155 : tab.orc n_q155 = none := by kernel_rfl
theorem t_q148 : tab.fn n_q148 = some F_q148 := by kernel_rfl
theorem o_q148 : tab.orc n_q148 = none := by kernel_rfl
theorem t_q1 : tab.fn n_q1 = some F_q1 := by kernel_rfl
theorem o_q1 : tab.orc n_q1 = none := by kernel_rfl
theorem t_q158 : tab.fn n_q158 = some F_q158 := by kernel_rfl
theorem o_q158 : tab.orc n_q158 = none := by kernel_rfl
theorem t_q120 : tab.fn n_q120 = some F_q120 := by kernel_rfl
theorem o_q120 : tab.orc n_q120 = none := by kernel_rfl
theorem t_q111 : tab.fn n_q111 = some F_q111 := by kernel_rfl
theorem o_q111 : tab.orc n_q111 = none := by kernel_rfl
theorem t_q159 : tab.fn n_q159 = some F_q159 := by kernel_rfl
theorem o_q159 : tab.orc n_q159 = none := by kernel_rfl
theorem t_q157 : tab.fn n_q157 = some F_q157 := by kernel_rfl
theorem o_q157 : tab.orc n_q157 = none := by kernel_rfl
theorem t_q162 : tab.fn n_q162 = some F_q162 := by kernel_rfl
theorem o_q162 : tab.orc n_q162 = none := by kernel_rfl
theorem t_q161 : tab.fn n_q161 = some F_q161 := by kernel_rfl
theorem o_q161 : tab.orc n_q161 = none := by kernel_rfl
theorem t_q128 : tab.fn n_q128 = some F_q128 := by kernel_rfl
theorem o_q128 : tab.orc n_q128 = none := by kernel_rfl
theorem t_q105 : tab.fn n_q105 = some F_q105 := by kernel_rfl
theorem o_q105 : tab.orc n_q105 = none := by kernel_rfl
theorem t_q160 : tab.fn n_q160 = some F_q160 := by kernel_rfl
theorem o_q160 : tab.orc n_q160 = none := by kernel_rfl
theorem t_q164 : tab.fn n_q164 = some F_q164 := by kernel_rfl
theorem o_q164 : tab.orc n_q164 = none := by kernel_rfl
theorem t_q163 : tab.fn n_q163 = some F_q163 := by kernel_rfl
theorem o_q163 : tab.orc n_q163 = none := by kernel_rfl
theorem t_q165 : tab.fn n_q165 = some F_q165 := by kernel_rfl
theorem o_q165 : tab.orc n_q165 = none := by kernel_rfl
theorem t_q170 : tab.fn n_q170 = some F_q170 := by kernel_rfl
theorem o_q170 : tab.orc n_q170 = none := by kernel_rfl
theorem t_q166 : tab.fn n_q166 = some F_q166 := by kernel_rfl
theorem o_q166 : tab.orc n_q166 = none := by kernel_rfl
theorem t_q67 : tab.fn n_q67 = some F_q67 := by kernel_rfl
theorem o_q67 : tab.orc n_q67 = none := by kernel_rfl
theorem t_q83 : tab.fn n_q83 = some F_q83 := by kernel_rfl
theorem o_q83 : tab.orc n_q83 = none := by kernel_rfl
theorem o_q147 : tab.orc n_q147 = some orcContains := by kernel_rfl
theorem z_q156 : tab.fz n_q156 = true := by kernel_rfl
theorem z_q111 : tab.fz n_q111 = false := by kernel_rfl
theorem z_q159 : tab.fz n_q159 = true := by kernel_rfl
theorem z_q105 : tab.fz n_q105 = false := by kernel_rfl
end Go.Proofs.YtlnkifnkamojnaaGreat.Tz
