/-
The table. Conditions: none.
-/
import Derived.Test.YtlnkifnkamojnaaGreatTM9
import Derived.Test.YtlnkifnkamojnaaGreatTO8
namespace Go.Proofs.YtlnkifnkamojnaaGreat.Tz
open Go.Aug
set_option maxRecDepth 100000
def frozen (f : Nat) : Bool := cond (Nat.beq f n_q96) false (cond (Nat.beq f n_q50) false (cond (Nat.beq f n_q54) false (cond (Nat.beq f n_q85) false (cond (Nat.beq f n_q122) false (cond (Nat.beq f n_q123) false (cond (Nat.beq f n_q119) false (cond (Nat.beq f n_q89) false (cond (Nat.beq f n_q121) false (cond (Nat.beq f n_q117) false (cond (Nat.beq f n_q120) false (true)))))))))))
def orcHead : List D → Heap → Option (D × Heap)
  | [], H => some (.v (.bool true), H)
  | _, _ => none
def orcs0 (f : Nat) : Option (List D → Heap → Option (D × Heap)) := cond (Nat.beq f n_q147) (some (orcSorted 1000000 n_q97)) (cond (Nat.beq f n_q49) (some orcCmpS) (cond (Nat.beq f n_q159) (some orcContains) (none)))
def orcs (f : Nat) : Option (List D → Heap → Option (D × Heap)) := cond (Nat.beq f n_q4) (some orcHead) (cond (Nat.beq f n_q147) (some (orcSorted 1000000 n_q97)) (cond (Nat.beq f n_q49) (some orcCmpS) (cond (Nat.beq f n_q159) (some orcContains) (none))))
def tab0 : Tab := ⟨findF rows, frozen, orcs0⟩
def tab : Tab := ⟨findF rows, frozen, orcs⟩
theorem t_q3 : tab.fn n_q3 = some F_q3 := by kernel_rfl
theorem t_q2 : tab.fn n_q2 = some F_q2 := by kernel_rfl
theorem o_q2 : tab.orc n_q2 = none := by kernel_rfl
theorem t_q0 : tab.fn n_q0 = some F_q0 := by kernel_rfl
theorem o_q0 : tab.orc n_q0 = none := by kernel_rfl
theorem t_q165 : tab.fn n_q165 = some F_q165 := by kernel_rfl
theorem o_q165 : tab.orc n_q165 = none := by kernel_rfl
theorem t_q43 : tab.fn n_q43 = some F_q43 := by kernel_rfl
theorem o_q43 : tab.orc n_q43 = none := by kernel_rfl
theorem t_q161 : tab.fn n_q161 = some F_q161 := by kernel_rfl
theorem o_q161 : tab.orc n_q161 = none := by kernel_rfl
theorem t_q42 : tab.fn n_q42 = some F_q42 := by kernel_rfl
theorem o_q42 : tab.orc n_q42 = none := by kernel_rfl
theorem t_q168 : tab.fn n_q168 = some F_q168 := by kernel_rfl
theorem o_q168 : tab.orc n_q168 = none := by kernel_rfl
theorem t_q47 : tab.fn n_q47 = some F_q47 := by kernel_rfl
theorem o_q47 : tab.orc n_q47 = none := by kernel_rfl
theorem t_q167 : tab.fn n_q167 = some F_q167 := by kernel_rfl
theorem o_q167 : tab.orc n_q167 = none := by kernel_rfl
theorem t_q44 : tab.fn n_q44 = some F_q44 := by kernel_rfl
theorem o_q44 : tab.orc n_q44 = none := by kernel_rfl
theorem t_q46 : tab.fn n_q46 = some F_q46 := by kernel_rfl
theorem o_q46 : tab.orc n_q46 = none := by kernel_rfl
theorem t_q160 : tab.fn n_q160 = some F_q160 := by kernel_rfl
theorem o_q160 : tab.orc n_q160 = none := by kernel_rfl
theorem t_q41 : tab.fn n_q41 = some F_q41 := by kernel_rfl
theorem o_q41 : tab.orc n_q41 = none := by kernel_rfl
theorem t_q1 : tab.fn n_q1 = some F_q1 := by kernel_rfl
theorem o_q1 : tab.orc n_q1 = none := by kernel_rfl
theorem t_q170 : tab.fn n_q170 = some F_q170 := by kernel_rfl
theorem o_q170 : tab.orc n_q170 = none := by kernel_rfl
theorem t_q133 : tab.fn n_q133 = some F_q133 := by kernel_rfl
theorem o_q133 : tab.orc n_q133 = none := by kernel_rfl
theorem t_q122 : tab.fn n_q122 = some F_q122 := by kernel_rfl
theorem o_q122 : tab.orc n_q122 = none := by kernel_rfl
theorem t_q166 : tab.fn n_q166 = some F_q166 := by kernel_rfl
theorem o_q166 : tab.orc n_q166 = none := by kernel_rfl
theorem t_q45 : tab.fn n_q45 = some F_q45 := by kernel_rfl
theorem o_q45 : tab.orc n_q45 = none := by kernel_rfl
theorem t_q132 : tab.fn n_q132 = some F_q132 := by kernel_rfl
theorem o_q132 : tab.orc n_q132 = none := by kernel_rfl
theorem t_q123 : tab.fn n_q123 = some F_q123 := by kernel_rfl
theorem o_q123 : tab.orc n_q123 = none := by kernel_rfl
theorem t_q171 : tab.fn n_q171 = some F_q171 := by kernel_rfl
theorem o_q171 : tab.orc n_q171 = none := by kernel_rfl
theorem t_q169 : tab.fn n_q169 = some F_q169 := by kernel_rfl
theorem o_q169 : tab.orc n_q169 = none := by kernel_rfl
theorem t_q48 : tab.fn n_q48 = some F_q48 := by kernel_rfl
theorem o_q48 : tab.orc n_q48 = none := by kernel_rfl
theorem t_q20 : tab.fn n_q20 = some F_q20 := by kernel_rfl
theorem o_q20 : tab.orc n_q20 = none := by kernel_rfl
theorem t_q174 : tab.fn n_q174 = some F_q174 := by kernel_rfl
theorem o_q174 : tab.orc n_q174 = none := by kernel_rfl
theorem t_q173 : tab.fn n_q173 = some F_q173 := by kernel_rfl
theorem o_q173 : tab.orc n_q173 = none := by kernel_rfl
theorem t_q142 : tab.fn n_q142 = some F_q142 := by kernel_rfl
theorem o_q142 : tab.orc n_q142 = none := by kernel_rfl
theorem t_q18 : tab.fn n_q18 = some F_q18 := by kernel_rfl
theorem o_q18 : tab.orc n_q18 = none := by kernel_rfl
theorem t_q140 : tab.fn n_q140 = some F_q140 := by kernel_rfl
theorem o_q140 : tab.orc n_q140 = none := by kernel_rfl
theorem t_q117 : tab.fn n_q117 = some F_q117 := by kernel_rfl
theorem o_q117 : tab.orc n_q117 = none := by kernel_rfl
theorem t_q172 : tab.fn n_q172 = some F_q172 := by kernel_rfl
theorem o_q172 : tab.orc n_q172 = none := by kernel_rfl
theorem t_q22 : tab.fn n_q22 = some F_q22 := by kernel_rfl
theorem o_q22 : tab.orc n_q22 = none := by kernel_rfl
theorem t_q23 : tab.fn n_q23 = some F_q23 := by kernel_rfl
theorem o_q23 : tab.orc n_q23 = none := by kernel_rfl
theorem t_q176 : tab.fn n_q176 = some F_q176 := by kernel_rfl
theorem o_q176 : tab.orc n_q176 = none := by kernel_rfl
theorem t_q175 : tab.fn n_q175 = some F_q175 := by kernel_rfl
theorem o_q175 : tab.orc n_q175 = none := by kernel_rfl
theorem t_q177 : tab.fn n_q177 = some F_q177 := by kernel_rfl
theorem o_q177 : tab.orc n_q177 = none := by kernel_rfl
theorem t_q39 : tab.fn n_q39 = some F_q39 := by kernel_rfl
theorem o_q39 : tab.orc n_q39 = none := by kernel_rfl
theorem t_q19 : tab.fn n_q19 = some F_q19 := by kernel_rfl
theorem o_q19 : tab.orc n_q19 = none := by kernel_rfl
theorem t_q16 : tab.fn n_q16 = some F_q16 := by kernel_rfl
theorem o_q16 : tab.orc n_q16 = none := by kernel_rfl
theorem t_q21 : tab.fn n_q21 = some F_q21 := by kernel_rfl
theorem o_q21 : tab.orc n_q21 = none := by kernel_rfl
theorem t_q7 : tab.fn n_q7 = some F_q7 := by kernel_rfl
theorem o_q7 : tab.orc n_q7 = none := by kernel_rfl
theorem t_q6 : tab.fn n_q6 = some F_q6 := by kernel_rfl
theorem o_q6 : tab.orc n_q6 = none := by kernel_rfl
theorem t_q182 : tab.fn n_q182 = some F_q182 := by kernel_rfl
theorem o_q182 : tab.orc n_q182 = none := by kernel_rfl
theorem t_q178 : tab.fn n_q178 = some F_q178 := by kernel_rfl
theorem o_q178 : tab.orc n_q178 = none := by kernel_rfl
theorem t_q79 : tab.fn n_q79 = some F_q79 := by kernel_rfl
theorem o_q79 : tab.orc n_q79 = none := by kernel_rfl
theorem t_q95 : tab.fn n_q95 = some F_q95 := by kernel_rfl
theorem o_q95 : tab.orc n_q95 = none := by kernel_rfl
theorem t_q8 : tab.fn n_q8 = some F_q8 := by kernel_rfl
theorem o_q8 : tab.orc n_q8 = none := by kernel_rfl
theorem o_q159 : tab.orc n_q159 = some orcContains := by kernel_rfl
theorem z_q165 : tab.fz n_q165 = true := by kernel_rfl
theorem z_q43 : tab.fz n_q43 = true := by kernel_rfl
theorem z_q161 : tab.fz n_q161 = true := by kernel_rfl
theorem z_q42 : tab.fz n_q42 = true := by kernel_rfl
theorem z_q168 : tab.fz n_q168 = true := by kernel_rfl
theorem z_q47 : tab.fz n_q47 = true := by kernel_rfl
theorem z_q122 : tab.fz n_q122 = false := by kernel_rfl
theorem z_q123 : tab.fz n_q123 = false := by kernel_rfl
theorem z_q171 : tab.fz n_q171 = true := by kernel_rfl
theorem z_q117 : tab.fz n_q117 = false := by kernel_rfl
end Go.Proofs.YtlnkifnkamojnaaGreat.Tz
