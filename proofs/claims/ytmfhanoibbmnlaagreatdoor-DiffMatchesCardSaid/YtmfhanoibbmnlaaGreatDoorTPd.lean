/-
tree.Print as an oracle: its text, put together of what its parts come to. Conditions: none; definitions.
-/
import Derived.Test.YtmfhanoibbmnlaaGreatDoorTM9
import Derived.Test.YtmfhanoibbmnlaaGreatDoorGR
import Derived.Lib.ItoaLen
namespace Go.Proofs.YtmfhanoibbmnlaaGreatDoor.Tz
open Go.Aug Go.RowKit
set_option maxRecDepth 100000
def partsT (a b c : ByteArray) : List UInt8 := ({ data := #[115, 101, 113, 32] } ++ a : ByteArray).data.toList ++ ({ data := #[32, 119, 104, 101, 114, 101, 32] } ++ b : ByteArray).data.toList ++ ({ data := #[32, 119, 105, 116, 104, 105, 110, 32] } ++ c : ByteArray).data.toList
def byT (by_ : ByteArray) : List UInt8 := ({ data := #[32, 98, 121, 32] } ++ by_ : ByteArray).data.toList
def pickT (p : ByteArray) : List UInt8 := ({ data := #[32, 112, 105, 99, 107, 32] } ++ p : ByteArray).data.toList
def partsN (a c : ByteArray) : List UInt8 := ({ data := #[115, 101, 113, 32] } ++ a : ByteArray).data.toList ++ ({ data := #[32, 119, 105, 116, 104, 105, 110, 32] } ++ c : ByteArray).data.toList
def thenB : ByteArray := ⟨#[32, 116, 104, 101, 110, 32]⟩
def andB : ByteArray := ⟨#[32, 97, 110, 100, 32]⟩
def pickB (pk : Int) : ByteArray := if pk = 1 then ⟨#[97, 110, 121]⟩ else if pk = 2 then ⟨#[110, 101, 120, 116]⟩ else ⟨#[115, 116, 114, 105, 99, 116]⟩
def orcsP (f : Nat) : Option (List D → Heap → Option (D × Heap)) := cond (Nat.beq f n_q93) (some (orcSorted 1000000 n_q71)) (cond (Nat.beq f n_q106) (some orcContains) (cond (Nat.beq f n_q107) (some orcJoin) (cond (Nat.beq f n_q105) (some orcFormat) (none))))
def tabP : Tab := ⟨findF rows, fun f => !(Nat.beq f n_q70), orcsP⟩
def sB (b : ByteArray) : D := .v (.string b)
def slLen : D → Option Nat
  | .v (.slice none 0 0) => some 0
  | .sl n _ _ => some n
  | _ => none
def textG (j1 : ByteArray) (j2 : Option ByteArray) (wi : Int) (by_ : ByteArray) (pk : Int) : ByteArray :=
  match j2 with
  | some j2 => ⟨(if by_ = ⟨#[]⟩ then partsT j1 j2 ⟨(Lib.itoa wi).toArray⟩ ++ pickT (pickB pk) else partsT j1 j2 ⟨(Lib.itoa wi).toArray⟩ ++ (byT by_ ++ pickT (pickB pk))).toArray⟩
  | none => ⟨(if by_ = ⟨#[]⟩ then partsN j1 ⟨(Lib.itoa wi).toArray⟩ ++ pickT (pickB pk) else partsN j1 ⟨(Lib.itoa wi).toArray⟩ ++ (byT by_ ++ pickT (pickB pk))).toArray⟩
noncomputable def printBy (ev : FuncId → List D → Option D) : D → Option ByteArray
  | .agg [vi, p, .v (.int .i64 wi), .v (.string by_), .v (.int .i64 pk)] =>
    match slLen p, ev n_q111 [.agg [vi, p, .v (.int .i64 wi), .v (.string by_), .v (.int .i64 pk)]], ev n_q115 [vi, sB thenB, .fn (.func n_q109) [] []] with
    | some m, some (.v (.bool true)), some (.v (.string j1)) =>
      if j1.size ≤ 1000000 ∧ by_.size ≤ 1000000 ∧ -9223372036854775808 ≤ wi ∧ wi ≤ 9223372036854775807 ∧ 1 ≤ pk ∧ pk ≤ 3 then
        (if m = 0 then some (textG j1 none wi by_ pk) else
          match ev n_q116 [p, sB andB, .fn (.func n_q110) [] []] with
          | some (.v (.string j2)) => if j2.size ≤ 1000000 then some (textG j1 (some j2) wi by_ pk) else none
          | _ => none)
      else none
    | _, _, _ => none
  | _ => none
noncomputable def evP (f : FuncId) (args : List D) : Option D := (evF tabP 200 (.fn f) args H0).map fun x => x.1
noncomputable def orcPrintBy (ev : FuncId → List D → Option D) (args : List D) (H : Heap) : Option (D × Heap) :=
  match frzL (frz2 H 0 64) args with
  | some [a] => (printBy ev a).map fun t => (.v (.string t), H)
  | _ => none
end Go.Proofs.YtmfhanoibbmnlaaGreatDoor.Tz
