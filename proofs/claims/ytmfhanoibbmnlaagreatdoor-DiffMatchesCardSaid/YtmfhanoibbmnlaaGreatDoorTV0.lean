/-
EvalFolds in plain terms: what the five kinds of expressions are worth of events that have a number in one field. Conditions: none.
-/
import Derived.Test.YtmfhanoibbmnlaaGreatDoorGS
namespace Go.Aug.Api
open Go.Aug
def mx (a b : Int) : Int := if a < b then b else a
variable {l : List Int} {h : l.length ≤ big}
end Go.Aug.Api

namespace Go.Aug.Api
open Go.Aug
def reckV (k : Int) (a b : TVal) : VE := if k = 8 then subV a b else addV a b
def valE (v : TVal) : TExpr := .mk 1 v emptyS emptyS none []
def foldedTwo (k : Int) (v : TVal) (var f : ByteArray) (a b : TExpr) : TExpr :=
  if a.kind = 1 ∧ b.kind = 1 ∧ (reckV k a.val b.val).2 = 0 then valE (reckV k a.val b.val).1 else .mk k v var f (some (some 2)) [a, b]
mutual
def foldX : TExpr → TExpr
  | .mk k v var f rep kids => if k = 7 ∨ k = 8 then foldTwo k v var f rep kids else .mk k v var f rep kids
def foldTwo (k : Int) (v : TVal) (var f : ByteArray) (rep : Option (Option Nat)) : List TExpr → TExpr
  | [a, b] => foldedTwo k v var f (foldX a) (foldX b)
  | l => .mk k v var f rep l
end
theorem foldX_other {k : Int} {v : TVal} {var f : ByteArray} {rep : Option (Option Nat)} {kids : List TExpr} (h : ¬ (k = 7 ∨ k = 8)) : foldX (.mk k v var f rep kids) = .mk k v var f rep kids := by
  rw [foldX, if_neg h]
theorem foldX_two {k : Int} {v : TVal} {var f : ByteArray} {rep : Option (Option Nat)} {a b : TExpr} (h : k = 7 ∨ k = 8) : foldX (.mk k v var f rep [a, b]) = foldedTwo k v var f (foldX a) (foldX b) := by
  rw [foldX, if_pos h, foldTwo]
theorem foldX_not {k : Int} {v : TVal} {var f : ByteArray} {rep : Option (Option Nat)} {kids : List TExpr} (h : kids.length ≠ 2) : foldX (.mk k v var f rep kids) = .mk k v var f rep kids := by
  rw [foldX]
  split
  · match kids, h with
    | [], _ => simp [foldTwo]
    | [_], _ => simp [foldTwo]
    | [_, _], h => exact absurd rfl h
    | _ :: _ :: _ :: _, _ => simp [foldTwo]
  · rfl
end Go.Aug.Api
