/-
The table. Conditions: none.
-/
import Derived.Test.YtlnkifnkamojnaaGreatTM9
import Derived.Test.YtlnkifnkamojnaaGreatTO8
namespace Go.Proofs.YtlnkifnkamojnaaGreat.Tz
open Go.Aug
set_option maxRecDepth 100000
def frozen (f : Nat) : Bool := cond (Nat.beq f n_q89) false (cond (Nat.beq f n_q43) false (cond (Nat.beq f n_q47) false (cond (Nat.beq f n_q78) false (cond (Nat.beq f n_q115) false (cond (Nat.beq f n_q116) false (cond (Nat.beq f n_q112) false (cond (Nat.beq f n_q82) false (cond (Nat.beq f n_q114) false (cond (Nat.beq f n_q110) false (cond (Nat.beq f n_q113) false (true)))))))))))
def orcHead : List D → Heap → Option (D × Heap)
  | [], H => some (.v (.bool true), H)
  | _, _ => none
def orcs0 (f : Nat) : Option (List D → Heap → Option (D × Heap)) := cond (Nat.beq f n_q140) (some (orcSorted 1000000 n_q90)) (cond (Nat.beq f n_q42) (some orcCmpS) (cond (Nat.beq f n_q152) (some orcContains) (none)))
def orcs (f : Nat) : Option (List D → Heap → Option (D × Heap)) := cond (Nat.beq f n_q4) (some orcHead) (cond (Nat.beq f n_q140) (some (orcSorted 1000000 n_q90)) (cond (Nat.beq f n_q42) (some orcCmpS) (cond (Nat.beq f n_q152) (some orcContains) (none))))
def tab0 : Tab := ⟨findF rows, frozen, orcs0⟩
def tab : Tab := ⟨findF rows, frozen, orcs⟩
theorem t_q3 : tab.fn n_q3 = some F_q3 := by kernel_rfl
theorem t_q2 : tab.fn n_q2 = some F_q2 := by kernel_rfl
theorem o_q2 : tab.orc n_q2 = none := by kernel_rfl
theorem t_q0 : tab.fn n_q0 = some F_q0 := by kernel_rfl
theorem o_q0 : tab.orc n_q0 = none := by kernel_rfl
theorem t_q158 : tab.fn n_q158 = some F_q158 := by kernel_rfl
theorem o_q158 : tab.orc n_q158 = none := by kernel_rfl
theorem t_q154 : tab.fn n_q154 = some F_q154 := by kernel_rfl
theorem o_q154 : tab.orc n_q154 = none := by kernel_rfl
theorem t_q160 : tab.fn n_q160 = some F_q160 := by kernel_rfl
theorem o_q160 : tab.orc n_q160 = none := by kernel_rfl
theorem t_q41 : tab.fn n_q41 = some F_q41 := by kernel_rfl
theorem o_q41 : tab.orc n_q41 = none := by kernel_rfl
theorem t_q153 : tab.fn n_q153 = some F_q153 := by kernel_rfl
theorem o_q153 : tab.orc n_q153 = none := by kernel_rfl
theorem t_q1 : tab.fn n_q1 = some F_q1 := by kernel_rfl
theorem o_q1 : tab.orc n_q1 = none := by kernel_rfl
theorem t_q163 : tab.fn n_q163 = some F_q163 := by kernel_rfl
theorem o_q163 : tab.orc n_q163 = none := by kernel_rfl
theorem t_q126 : tab.fn n_q126 = some F_q126 := by kernel_rfl
theorem o_q126 : tab.orc n_q126 = none := by kernel_rfl
theorem t_q115 : tab.fn n_q115 = some F_q115 := by kernel_rfl
theorem o_q115 : tab.orc n_q115 = none := by kernel_rfl
theorem t_q159 : tab.fn n_q159 = some F_q159 := by kernel_rfl
theorem o_q159 : tab.orc n_q159 = none := by kernel_rfl
theorem t_q164 : tab.fn n_q164 = some F_q164 := by kernel_rfl
theorem o_q164 : tab.orc n_q164 = none := by kernel_rfl
theorem t_q20 : tab.fn n_q20 = some F_q20 := by kernel_rfl
theorem o_q20 : tab.orc n_q20 = none := by kernel_rfl
theorem t_q167 : tab.fn n_q167 = some F_q167 := by kernel_rfl
theorem o_q167 : tab.orc n_q167 = none := by kernel_rfl
theorem t_q166 : tab.fn n_q166 = some F_q166 := by kernel_rfl
theorem o_q166 : tab.orc n_q166 = none := by kernel_rfl
theorem t_q135 : tab.fn n_q135 = some F_q135 := by kernel_rfl
theorem o_q135 : tab.orc n_q135 = none := by kernel_rfl
theorem t_q165 : tab.fn n_q165 = some F_q165 := by kernel_rfl
theorem o_q165 : tab.orc n_q165 = none := by kernel_rfl
theorem t_q22 : tab.fn n_q22 = some F_q22 := by kernel_rfl
theorem o_q22 : tab.orc n_q22 = none := by kernel_rfl
theorem t_q23 : tab.fn n_q23 = some F_q23 := by kernel_rfl
theorem o_q23 : tab.orc n_q23 = none := by kernel_rfl
theorem t_q169 : tab.fn n_q169 = some F_q169 := by kernel_rfl
theorem o_q169 : tab.orc n_q169 = none := by kernel_rfl
theorem t_q168 : tab.fn n_q168 = some F_q168 := by kernel_rfl
theorem o_q168 : tab.orc n_q168 = none := by kernel_rfl
theorem t_q170 : tab.fn n_q170 = some F_q170 := by kernel_rfl
theorem o_q170 : tab.orc n_q170 = none := by kernel_rfl
theorem t_q21 : tab.fn n_q21 = some F_q21 := by kernel_rfl
theorem o_q21 : tab.orc n_q21 = none := by kernel_rfl
theorem t_q175 : tab.fn n_q175 = some F_q175 := by kernel_rfl
theorem o_q175 : tab.orc n_q175 = none := by kernel_rfl
theorem t_q171 : tab.fn n_q171 = some F_q171 := by kernel_rfl
theorem o_q171 : tab.orc n_q171 = none := by kernel_rfl
theorem t_q72 : tab.fn n_q72 = some F_q72 := by kernel_rfl
theorem o_q72 : tab.orc n_q72 = none := by kernel_rfl
theorem t_q88 : tab.fn n_q88 = some F_q88 := by kernel_rfl
theorem o_q88 : tab.orc n_q88 = none := by kernel_rfl
theorem o_q152 : tab.orc n_q152 = some orcContains := by kernel_rfl
theorem z_q158 : tab.fz n_q158 = true := by kernel_rfl
theorem z_q154 : tab.fz n_q154 = true := by kernel_rfl
theorem z_q115 : tab.fz n_q115 = false := by kernel_rfl
theorem z_q164 : tab.fz n_q164 = true := by kernel_rfl
end Go.Proofs.YtlnkifnkamojnaaGreat.Tz
