/-
  NARROWER THAN 'FOR EVERY INPUT', by the rows' own cells (each row's printed sentence says how): EvalOther: loops · EvalTurned: loops · EvalNothing: loops.
  DERIVED. THE GIVEN ROWS OF THIS SEAT. 4 by the template 'for every input the law returns true; each argument reads behind the call as it read before'; 0 by the template 'total and deterministic' (their statements: YtnkbdcaiepecdaaGreatTotals.lean).
  GIVEN WITH THE SEED: the statements are not yours to turn. If you find one false, say at which input.
  Laid BY PROGRAM, IN A SANDBOX (cutbox-rows.mjs): the forced cells as the released guide's own fill.sh prints them over the translation c5e305edf9ac38c1… (all of the seat's roots in one cut). By AI agents, Wed Nov 11 2026. No macro, syntax, notation, axiom, sorry.
-/
import Derived.Test.YtnkbdcaiepecdaaGreatChecked
import GoSem.Claim
import GoSem.ClaimJoined
import GoSem.ClaimMapViews
import Derived.JoinedTies
import Derived.KernelRfl
namespace Go.Proofs.YtnkbdcaiepecdaaGreat
/- THE CELL 'sum', in the pinned program and in every row, IS THE sha256 OF THE DUMP (.gsa) THAT YtnkbdcaiepecdaaGreatProg.lean LOADS. Nothing in Lean hashes anything: it is a label: what it is worth is what the hold of that sum in a sandbox is worth. -/
noncomputable def Tryz.pinned : Pinned := { name := "ytnkbdcaiepecdaagreat", sum := "c5e305edf9ac38c1a40f5f7b46c2486e7711538e7a8eaa6774618eb7c7ef2ebf", checked := Tryz.checked }
namespace Rows
def none {H : Type} : Left H := { results := [], args := [] }

/-- 'augurylaw11.EvalOther': WHATEVER THE INPUT: true; the input reads as it did. -/
def evalOtherSpec : ChangeSpec := { name := "evalOther", fn := fun _ => fun
  | [d1, d2, d3, d4, d5] => { results := [.lit (.bool true)], args := [d1, d2, d3, d4, d5] }
  | _ => none }
def evalOtherRow : OpenClaim := { program := "ytnkbdcaiepecdaagreat", sum := "c5e305edf9ac38c1a40f5f7b46c2486e7711538e7a8eaa6774618eb7c7ef2ebf", func := "augury/augurylaw11.EvalOther", spec := "evalOther", inPlace := ["internal/bytealg.abigen_runtime_cmpstring"], unfollowed := true, recurses := true, loops := true, apart := false }
def EvalOtherSaid : Prop := evalOtherRow.holds Tryz.pinned (OpenSpec.ofChange evalOtherSpec)

/-- ITS FALSE NEIGHBOUR: 'it returns false'. Refute it at one input. -/
def evalOtherWrong : ChangeSpec := { name := "evalOther", fn := fun _ => fun
  | [d1, d2, d3, d4, d5] => { results := [.lit (.bool false)], args := [d1, d2, d3, d4, d5] }
  | _ => none }
def EvalOtherWrongFalsely : Prop := evalOtherRow.holds Tryz.pinned (OpenSpec.ofChange evalOtherWrong)

/-- 'augurylaw11.EvalFolds': WHATEVER THE INPUT: true; the input reads as it did. -/
def evalFoldsSpec : ChangeSpec := { name := "evalFolds", fn := fun _ => fun
  | [d] => { results := [.lit (.bool true)], args := [d] }
  | _ => none }
def evalFoldsRow : OpenClaim := { program := "ytnkbdcaiepecdaagreat", sum := "c5e305edf9ac38c1a40f5f7b46c2486e7711538e7a8eaa6774618eb7c7ef2ebf", func := "augury/augurylaw11.EvalFolds", spec := "evalFolds", inPlace := ["internal/bytealg.abigen_runtime_cmpstring"], unfollowed := true, recurses := true, apart := false }
def EvalFoldsSaid : Prop := evalFoldsRow.holds Tryz.pinned (OpenSpec.ofChange evalFoldsSpec)

/-- ITS FALSE NEIGHBOUR: 'it returns false'. Refute it at one input. -/
def evalFoldsWrong : ChangeSpec := { name := "evalFolds", fn := fun _ => fun
  | [d] => { results := [.lit (.bool false)], args := [d] }
  | _ => none }
def EvalFoldsWrongFalsely : Prop := evalFoldsRow.holds Tryz.pinned (OpenSpec.ofChange evalFoldsWrong)

/-- 'augurylaw11.EvalTurned': WHATEVER THE INPUT: true; the input reads as it did. -/
def evalTurnedSpec : ChangeSpec := { name := "evalTurned", fn := fun _ => fun
  | [d1, d2, d3] => { results := [.lit (.bool true)], args := [d1, d2, d3] }
  | _ => none }
def evalTurnedRow : OpenClaim := { program := "ytnkbdcaiepecdaagreat", sum := "c5e305edf9ac38c1a40f5f7b46c2486e7711538e7a8eaa6774618eb7c7ef2ebf", func := "augury/augurylaw11.EvalTurned", spec := "evalTurned", inPlace := ["internal/bytealg.abigen_runtime_cmpstring"], unfollowed := true, recurses := true, loops := true, apart := false }
def EvalTurnedSaid : Prop := evalTurnedRow.holds Tryz.pinned (OpenSpec.ofChange evalTurnedSpec)

/-- ITS FALSE NEIGHBOUR: 'it returns false'. Refute it at one input. -/
def evalTurnedWrong : ChangeSpec := { name := "evalTurned", fn := fun _ => fun
  | [d1, d2, d3] => { results := [.lit (.bool false)], args := [d1, d2, d3] }
  | _ => none }
def EvalTurnedWrongFalsely : Prop := evalTurnedRow.holds Tryz.pinned (OpenSpec.ofChange evalTurnedWrong)

/-- 'augurylaw11.EvalNothing': WHATEVER THE INPUT: true; the input reads as it did. -/
def evalNothingSpec : ChangeSpec := { name := "evalNothing", fn := fun _ => fun
  | [d1, d2] => { results := [.lit (.bool true)], args := [d1, d2] }
  | _ => none }
def evalNothingRow : OpenClaim := { program := "ytnkbdcaiepecdaagreat", sum := "c5e305edf9ac38c1a40f5f7b46c2486e7711538e7a8eaa6774618eb7c7ef2ebf", func := "augury/augurylaw11.EvalNothing", spec := "evalNothing", inPlace := ["internal/bytealg.abigen_runtime_cmpstring"], unfollowed := true, recurses := true, loops := true, apart := false }
def EvalNothingSaid : Prop := evalNothingRow.holds Tryz.pinned (OpenSpec.ofChange evalNothingSpec)

/-- ITS FALSE NEIGHBOUR: 'it returns false'. Refute it at one input. -/
def evalNothingWrong : ChangeSpec := { name := "evalNothing", fn := fun _ => fun
  | [d1, d2] => { results := [.lit (.bool false)], args := [d1, d2] }
  | _ => none }
def EvalNothingWrongFalsely : Prop := evalNothingRow.holds Tryz.pinned (OpenSpec.ofChange evalNothingWrong)

/- THE SECOND FORM. 'bulk': how many values and letters a reading holds, each counted each time it is reached (what is shared counts as often as it is met; a slice's spare places count too). A statement '..UptoSaid' is the law's where the arguments, and the package variables that the reading takes, are together of bulk at most 1048576: NARROWER than '..Said'. Prove '..Said' where nothing that the law and all that it calls make is longer than what came in: it says more and counts as full. Else prove '..UptoSaid'. A law counts once. -/
mutual
def uptoBulk {H : Type} : DataW H → Nat
  | .lit (.string bytes) => bytes.length + 1
  | .lit _ => 1
  | .nil => 1
  | .ptr d => uptoBulk d + 1
  | .slice elems spare => uptoBulkAll elems + uptoBulkAll spare + 1
  | .agg parts => uptoBulkAll parts + 1
  | .iface _ d => uptoBulk d + 1
  | .map entries => uptoBulkEntries entries + 1
  | .held _ => 1
def uptoBulkAll {H : Type} : List (DataW H) → Nat
  | [] => 0
  | d :: r => uptoBulk d + uptoBulkAll r
def uptoBulkEntries {H : Type} : List (Lit × DataW H) → Nat
  | [] => 0
  | x :: r => uptoBulkEntry x + uptoBulkEntries r
def uptoBulkEntry {H : Type} : Lit × DataW H → Nat
  | (.string bytes, d) => bytes.length + uptoBulk d + 1
  | (_, d) => uptoBulk d + 1
 end
def uptoSmall : (H : Type) → List (DataW H) → Bool := fun _ ds => decide (uptoBulkAll ds ≤ 1048576)
def OpenSpec.upto (s : _root_.Go.ChangeSpec) : _root_.Go.OpenSpec := { _root_.Go.OpenSpec.ofChange s with cond := some uptoSmall }

/-- 'augurylaw11.EvalOther', WHERE WHAT IT READS IS OF BULK AT MOST 1048576: true; the input reads as it did. -/
def evalOtherUptoRow : OpenClaim := { program := "ytnkbdcaiepecdaagreat", sum := "c5e305edf9ac38c1a40f5f7b46c2486e7711538e7a8eaa6774618eb7c7ef2ebf", func := "augury/augurylaw11.EvalOther", spec := "evalOther", inPlace := ["internal/bytealg.abigen_runtime_cmpstring"], unfollowed := true, recurses := true, loops := true, apart := false, narrowed := true }
def EvalOtherUptoSaid : Prop := evalOtherUptoRow.holds Tryz.pinned (OpenSpec.upto evalOtherSpec)

/-- 'augurylaw11.EvalFolds', WHERE WHAT IT READS IS OF BULK AT MOST 1048576: true; the input reads as it did. -/
def evalFoldsUptoRow : OpenClaim := { program := "ytnkbdcaiepecdaagreat", sum := "c5e305edf9ac38c1a40f5f7b46c2486e7711538e7a8eaa6774618eb7c7ef2ebf", func := "augury/augurylaw11.EvalFolds", spec := "evalFolds", inPlace := ["internal/bytealg.abigen_runtime_cmpstring"], unfollowed := true, recurses := true, apart := false, narrowed := true }
def EvalFoldsUptoSaid : Prop := evalFoldsUptoRow.holds Tryz.pinned (OpenSpec.upto evalFoldsSpec)

/-- 'augurylaw11.EvalTurned', WHERE WHAT IT READS IS OF BULK AT MOST 1048576: true; the input reads as it did. -/
def evalTurnedUptoRow : OpenClaim := { program := "ytnkbdcaiepecdaagreat", sum := "c5e305edf9ac38c1a40f5f7b46c2486e7711538e7a8eaa6774618eb7c7ef2ebf", func := "augury/augurylaw11.EvalTurned", spec := "evalTurned", inPlace := ["internal/bytealg.abigen_runtime_cmpstring"], unfollowed := true, recurses := true, loops := true, apart := false, narrowed := true }
def EvalTurnedUptoSaid : Prop := evalTurnedUptoRow.holds Tryz.pinned (OpenSpec.upto evalTurnedSpec)

/-- 'augurylaw11.EvalNothing', WHERE WHAT IT READS IS OF BULK AT MOST 1048576: true; the input reads as it did. -/
def evalNothingUptoRow : OpenClaim := { program := "ytnkbdcaiepecdaagreat", sum := "c5e305edf9ac38c1a40f5f7b46c2486e7711538e7a8eaa6774618eb7c7ef2ebf", func := "augury/augurylaw11.EvalNothing", spec := "evalNothing", inPlace := ["internal/bytealg.abigen_runtime_cmpstring"], unfollowed := true, recurses := true, loops := true, apart := false, narrowed := true }
def EvalNothingUptoSaid : Prop := evalNothingUptoRow.holds Tryz.pinned (OpenSpec.upto evalNothingSpec)

end Rows
end Go.Proofs.YtnkbdcaiepecdaaGreat
