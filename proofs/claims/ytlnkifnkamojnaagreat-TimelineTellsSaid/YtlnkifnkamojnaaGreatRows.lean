/-
  NARROWER THAN 'FOR EVERY INPUT', by the rows' own cells (each row's printed sentence says how): TimelineTells: loops · TimelineBooks: loops · TimelineChange: loops · TimelineBack: loops · TimelineSpans: loops · TimelineForce: loops.
  DERIVED. THE GIVEN ROWS OF THIS SEAT. 6 by the template 'for every input the law returns true; each argument reads behind the call as it read before'; 0 by the template 'total and deterministic' (their statements: YtlnkifnkamojnaaGreatTotals.lean).
  GIVEN WITH THE SEED: the statements are not yours to turn. If you find one false, say at which input.
  Laid BY PROGRAM, IN A SANDBOX (cutbox-rows.mjs): the forced cells as the released guide's own fill.sh prints them over the translation e61064517d8212da… (all of the seat's roots in one cut). By AI agents, Wed Nov 11 2026. No macro, syntax, notation, axiom, sorry.
-/
import Derived.Test.YtlnkifnkamojnaaGreatChecked
import GoSem.Claim
import GoSem.ClaimJoined
import GoSem.ClaimMapViews
import Derived.JoinedTies
import Derived.KernelRfl
namespace Go.Proofs.YtlnkifnkamojnaaGreat
/- THE CELL 'sum', in the pinned program and in every row, IS THE sha256 OF THE DUMP (.gsa) THAT YtlnkifnkamojnaaGreatProg.lean LOADS. Nothing in Lean hashes anything: it is a label: what it is worth is what the hold of that sum in a sandbox is worth. -/
noncomputable def Tryz.pinned : Pinned := { name := "ytlnkifnkamojnaagreat", sum := "e61064517d8212dad31e7df04fccd5298bb1e94b51e840558394a7437ad127f5", checked := Tryz.checked }
namespace Rows
def none {H : Type} : Left H := { results := [], args := [] }

/-- 'augurylaw15.TimelineTells': WHATEVER THE INPUT: true; the input reads as it did. -/
def timelineTellsSpec : ChangeSpec := { name := "timelineTells", fn := fun _ => fun
  | [d1, d2, d3] => { results := [.lit (.bool true)], args := [d1, d2, d3] }
  | _ => none }
def timelineTellsRow : OpenClaim := { program := "ytlnkifnkamojnaagreat", sum := "e61064517d8212dad31e7df04fccd5298bb1e94b51e840558394a7437ad127f5", func := "augury/augurylaw15.TimelineTells", spec := "timelineTells", inPlace := ["internal/bytealg.IndexByteString", "internal/bytealg.IndexString", "internal/bytealg.abigen_runtime_cmpstring"], unfollowed := true, recurses := true, named := ["internal/bytealg.MaxLen"], loops := true, plainKeys := false, apart := false }
def TimelineTellsSaid : Prop := timelineTellsRow.holds Tryz.pinned (OpenSpec.ofChange timelineTellsSpec)

/-- ITS FALSE NEIGHBOUR: 'it returns false'. Refute it at one input. -/
def timelineTellsWrong : ChangeSpec := { name := "timelineTells", fn := fun _ => fun
  | [d1, d2, d3] => { results := [.lit (.bool false)], args := [d1, d2, d3] }
  | _ => none }
def TimelineTellsWrongFalsely : Prop := timelineTellsRow.holds Tryz.pinned (OpenSpec.ofChange timelineTellsWrong)

/-- 'augurylaw15.TimelineBooks': WHATEVER THE INPUT: true; the input reads as it did. -/
def timelineBooksSpec : ChangeSpec := { name := "timelineBooks", fn := fun _ => fun
  | [d1, d2, d3, d4] => { results := [.lit (.bool true)], args := [d1, d2, d3, d4] }
  | _ => none }
def timelineBooksRow : OpenClaim := { program := "ytlnkifnkamojnaagreat", sum := "e61064517d8212dad31e7df04fccd5298bb1e94b51e840558394a7437ad127f5", func := "augury/augurylaw15.TimelineBooks", spec := "timelineBooks", inPlace := ["internal/bytealg.IndexByteString", "internal/bytealg.IndexString", "internal/bytealg.abigen_runtime_cmpstring"], unfollowed := true, recurses := true, named := ["internal/bytealg.MaxLen"], loops := true, plainKeys := false, apart := false }
def TimelineBooksSaid : Prop := timelineBooksRow.holds Tryz.pinned (OpenSpec.ofChange timelineBooksSpec)

/-- ITS FALSE NEIGHBOUR: 'it returns false'. Refute it at one input. -/
def timelineBooksWrong : ChangeSpec := { name := "timelineBooks", fn := fun _ => fun
  | [d1, d2, d3, d4] => { results := [.lit (.bool false)], args := [d1, d2, d3, d4] }
  | _ => none }
def TimelineBooksWrongFalsely : Prop := timelineBooksRow.holds Tryz.pinned (OpenSpec.ofChange timelineBooksWrong)

/-- 'augurylaw15.TimelineChange': WHATEVER THE INPUT: true; the input reads as it did. -/
def timelineChangeSpec : ChangeSpec := { name := "timelineChange", fn := fun _ => fun
  | [d1, d2, d3, d4, d5] => { results := [.lit (.bool true)], args := [d1, d2, d3, d4, d5] }
  | _ => none }
def timelineChangeRow : OpenClaim := { program := "ytlnkifnkamojnaagreat", sum := "e61064517d8212dad31e7df04fccd5298bb1e94b51e840558394a7437ad127f5", func := "augury/augurylaw15.TimelineChange", spec := "timelineChange", inPlace := ["internal/bytealg.IndexByteString", "internal/bytealg.IndexString", "internal/bytealg.abigen_runtime_cmpstring"], unfollowed := true, recurses := true, named := ["internal/bytealg.MaxLen"], loops := true, plainKeys := false, apart := false }
def TimelineChangeSaid : Prop := timelineChangeRow.holds Tryz.pinned (OpenSpec.ofChange timelineChangeSpec)

/-- ITS FALSE NEIGHBOUR: 'it returns false'. Refute it at one input. -/
def timelineChangeWrong : ChangeSpec := { name := "timelineChange", fn := fun _ => fun
  | [d1, d2, d3, d4, d5] => { results := [.lit (.bool false)], args := [d1, d2, d3, d4, d5] }
  | _ => none }
def TimelineChangeWrongFalsely : Prop := timelineChangeRow.holds Tryz.pinned (OpenSpec.ofChange timelineChangeWrong)

/-- 'augurylaw15.TimelineBack': WHATEVER THE INPUT: true; the input reads as it did. -/
def timelineBackSpec : ChangeSpec := { name := "timelineBack", fn := fun _ => fun
  | [d1, d2] => { results := [.lit (.bool true)], args := [d1, d2] }
  | _ => none }
def timelineBackRow : OpenClaim := { program := "ytlnkifnkamojnaagreat", sum := "e61064517d8212dad31e7df04fccd5298bb1e94b51e840558394a7437ad127f5", func := "augury/augurylaw15.TimelineBack", spec := "timelineBack", inPlace := ["internal/bytealg.IndexByteString", "internal/bytealg.IndexString", "internal/bytealg.abigen_runtime_cmpstring"], unfollowed := true, recurses := true, named := ["internal/bytealg.MaxLen"], loops := true, plainKeys := false, apart := false }
def TimelineBackSaid : Prop := timelineBackRow.holds Tryz.pinned (OpenSpec.ofChange timelineBackSpec)

/-- ITS FALSE NEIGHBOUR: 'it returns false'. Refute it at one input. -/
def timelineBackWrong : ChangeSpec := { name := "timelineBack", fn := fun _ => fun
  | [d1, d2] => { results := [.lit (.bool false)], args := [d1, d2] }
  | _ => none }
def TimelineBackWrongFalsely : Prop := timelineBackRow.holds Tryz.pinned (OpenSpec.ofChange timelineBackWrong)

/-- 'augurylaw15.TimelineSpans': WHATEVER THE INPUT: true; the input reads as it did. -/
def timelineSpansSpec : ChangeSpec := { name := "timelineSpans", fn := fun _ => fun
  | [d1, d2] => { results := [.lit (.bool true)], args := [d1, d2] }
  | _ => none }
def timelineSpansRow : OpenClaim := { program := "ytlnkifnkamojnaagreat", sum := "e61064517d8212dad31e7df04fccd5298bb1e94b51e840558394a7437ad127f5", func := "augury/augurylaw15.TimelineSpans", spec := "timelineSpans", inPlace := ["internal/bytealg.IndexByteString", "internal/bytealg.IndexString", "internal/bytealg.abigen_runtime_cmpstring"], unfollowed := true, recurses := true, named := ["internal/bytealg.MaxLen"], loops := true, plainKeys := false, apart := false }
def TimelineSpansSaid : Prop := timelineSpansRow.holds Tryz.pinned (OpenSpec.ofChange timelineSpansSpec)

/-- ITS FALSE NEIGHBOUR: 'it returns false'. Refute it at one input. -/
def timelineSpansWrong : ChangeSpec := { name := "timelineSpans", fn := fun _ => fun
  | [d1, d2] => { results := [.lit (.bool false)], args := [d1, d2] }
  | _ => none }
def TimelineSpansWrongFalsely : Prop := timelineSpansRow.holds Tryz.pinned (OpenSpec.ofChange timelineSpansWrong)

/-- 'augurylaw15.TimelineForce': WHATEVER THE INPUT: true; the input reads as it did. -/
def timelineForceSpec : ChangeSpec := { name := "timelineForce", fn := fun _ => fun
  | [d1, d2, d3, d4] => { results := [.lit (.bool true)], args := [d1, d2, d3, d4] }
  | _ => none }
def timelineForceRow : OpenClaim := { program := "ytlnkifnkamojnaagreat", sum := "e61064517d8212dad31e7df04fccd5298bb1e94b51e840558394a7437ad127f5", func := "augury/augurylaw15.TimelineForce", spec := "timelineForce", inPlace := ["internal/bytealg.IndexByteString", "internal/bytealg.IndexString", "internal/bytealg.abigen_runtime_cmpstring"], unfollowed := true, recurses := true, named := ["internal/bytealg.MaxLen"], loops := true, plainKeys := false, apart := false }
def TimelineForceSaid : Prop := timelineForceRow.holds Tryz.pinned (OpenSpec.ofChange timelineForceSpec)

/-- ITS FALSE NEIGHBOUR: 'it returns false'. Refute it at one input. -/
def timelineForceWrong : ChangeSpec := { name := "timelineForce", fn := fun _ => fun
  | [d1, d2, d3, d4] => { results := [.lit (.bool false)], args := [d1, d2, d3, d4] }
  | _ => none }
def TimelineForceWrongFalsely : Prop := timelineForceRow.holds Tryz.pinned (OpenSpec.ofChange timelineForceWrong)

/- THE SECOND FORM. 'bulk': how many values and letters a reading holds, each counted each time it is reached (what is shared counts as often as it is met; a slice's spare places count too). A statement '..UptoSaid' is the law's where the arguments, and the package variables that the reading takes, are together of bulk at most 1048576: NARROWER than '..Said'. Prove '..Said' where nothing that the law and all that it calls make is longer than what came in: it says more and counts as full. Else prove '..UptoSaid'. A law counts once. -/
mutual
def uptoBulk {H : Type} : DataW H → Nat
  | .lit (.string bytes) => bytes.length + 1
  | .lit _ => 1
  | .nil => 1
  | .ptr d => uptoBulk d + 1
  | .slice elems spare => uptoBulkAll elems + uptoBulkAll spare + 1
  | .agg parts => uptoBulkAll parts + 1
  | .iface _ d => uptoBulk d + 1
  | .map entries => uptoBulkEntries entries + 1
  | .held _ => 1
def uptoBulkAll {H : Type} : List (DataW H) → Nat
  | [] => 0
  | d :: r => uptoBulk d + uptoBulkAll r
def uptoBulkEntries {H : Type} : List (Lit × DataW H) → Nat
  | [] => 0
  | x :: r => uptoBulkEntry x + uptoBulkEntries r
def uptoBulkEntry {H : Type} : Lit × DataW H → Nat
  | (.string bytes, d) => bytes.length + uptoBulk d + 1
  | (_, d) => uptoBulk d + 1
 end
def uptoSmall : (H : Type) → List (DataW H) → Bool := fun _ ds => decide (uptoBulkAll ds ≤ 1048576)
def OpenSpec.upto (s : _root_.Go.ChangeSpec) : _root_.Go.OpenSpec := { _root_.Go.OpenSpec.ofChange s with cond := some uptoSmall }

/-- 'augurylaw15.TimelineTells', WHERE WHAT IT READS IS OF BULK AT MOST 1048576: true; the input reads as it did. -/
def timelineTellsUptoRow : OpenClaim := { program := "ytlnkifnkamojnaagreat", sum := "e61064517d8212dad31e7df04fccd5298bb1e94b51e840558394a7437ad127f5", func := "augury/augurylaw15.TimelineTells", spec := "timelineTells", inPlace := ["internal/bytealg.IndexByteString", "internal/bytealg.IndexString", "internal/bytealg.abigen_runtime_cmpstring"], unfollowed := true, recurses := true, named := ["internal/bytealg.MaxLen"], loops := true, plainKeys := false, apart := false, narrowed := true }
def TimelineTellsUptoSaid : Prop := timelineTellsUptoRow.holds Tryz.pinned (OpenSpec.upto timelineTellsSpec)

/-- 'augurylaw15.TimelineBooks', WHERE WHAT IT READS IS OF BULK AT MOST 1048576: true; the input reads as it did. -/
def timelineBooksUptoRow : OpenClaim := { program := "ytlnkifnkamojnaagreat", sum := "e61064517d8212dad31e7df04fccd5298bb1e94b51e840558394a7437ad127f5", func := "augury/augurylaw15.TimelineBooks", spec := "timelineBooks", inPlace := ["internal/bytealg.IndexByteString", "internal/bytealg.IndexString", "internal/bytealg.abigen_runtime_cmpstring"], unfollowed := true, recurses := true, named := ["internal/bytealg.MaxLen"], loops := true, plainKeys := false, apart := false, narrowed := true }
def TimelineBooksUptoSaid : Prop := timelineBooksUptoRow.holds Tryz.pinned (OpenSpec.upto timelineBooksSpec)

/-- 'augurylaw15.TimelineChange', WHERE WHAT IT READS IS OF BULK AT MOST 1048576: true; the input reads as it did. -/
def timelineChangeUptoRow : OpenClaim := { program := "ytlnkifnkamojnaagreat", sum := "e61064517d8212dad31e7df04fccd5298bb1e94b51e840558394a7437ad127f5", func := "augury/augurylaw15.TimelineChange", spec := "timelineChange", inPlace := ["internal/bytealg.IndexByteString", "internal/bytealg.IndexString", "internal/bytealg.abigen_runtime_cmpstring"], unfollowed := true, recurses := true, named := ["internal/bytealg.MaxLen"], loops := true, plainKeys := false, apart := false, narrowed := true }
def TimelineChangeUptoSaid : Prop := timelineChangeUptoRow.holds Tryz.pinned (OpenSpec.upto timelineChangeSpec)

/-- 'augurylaw15.TimelineBack', WHERE WHAT IT READS IS OF BULK AT MOST 1048576: true; the input reads as it did. -/
def timelineBackUptoRow : OpenClaim := { program := "ytlnkifnkamojnaagreat", sum := "e61064517d8212dad31e7df04fccd5298bb1e94b51e840558394a7437ad127f5", func := "augury/augurylaw15.TimelineBack", spec := "timelineBack", inPlace := ["internal/bytealg.IndexByteString", "internal/bytealg.IndexString", "internal/bytealg.abigen_runtime_cmpstring"], unfollowed := true, recurses := true, named := ["internal/bytealg.MaxLen"], loops := true, plainKeys := false, apart := false, narrowed := true }
def TimelineBackUptoSaid : Prop := timelineBackUptoRow.holds Tryz.pinned (OpenSpec.upto timelineBackSpec)

/-- 'augurylaw15.TimelineSpans', WHERE WHAT IT READS IS OF BULK AT MOST 1048576: true; the input reads as it did. -/
def timelineSpansUptoRow : OpenClaim := { program := "ytlnkifnkamojnaagreat", sum := "e61064517d8212dad31e7df04fccd5298bb1e94b51e840558394a7437ad127f5", func := "augury/augurylaw15.TimelineSpans", spec := "timelineSpans", inPlace := ["internal/bytealg.IndexByteString", "internal/bytealg.IndexString", "internal/bytealg.abigen_runtime_cmpstring"], unfollowed := true, recurses := true, named := ["internal/bytealg.MaxLen"], loops := true, plainKeys := false, apart := false, narrowed := true }
def TimelineSpansUptoSaid : Prop := timelineSpansUptoRow.holds Tryz.pinned (OpenSpec.upto timelineSpansSpec)

/-- 'augurylaw15.TimelineForce', WHERE WHAT IT READS IS OF BULK AT MOST 1048576: true; the input reads as it did. -/
def timelineForceUptoRow : OpenClaim := { program := "ytlnkifnkamojnaagreat", sum := "e61064517d8212dad31e7df04fccd5298bb1e94b51e840558394a7437ad127f5", func := "augury/augurylaw15.TimelineForce", spec := "timelineForce", inPlace := ["internal/bytealg.IndexByteString", "internal/bytealg.IndexString", "internal/bytealg.abigen_runtime_cmpstring"], unfollowed := true, recurses := true, named := ["internal/bytealg.MaxLen"], loops := true, plainKeys := false, apart := false, narrowed := true }
def TimelineForceUptoSaid : Prop := timelineForceUptoRow.holds Tryz.pinned (OpenSpec.upto timelineForceSpec)

end Rows
end Go.Proofs.YtlnkifnkamojnaaGreat
