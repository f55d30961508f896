/-
A query's normal form, as chapter 10 has it: predicates' texts, places and keys; what is there once; what is sorted. Conditions: none; definitions and plain lemmas.
-/
import Derived.Test.YtlnkifnkamojnaaGreatTV0
import Derived.Lib.ItoaLen
namespace Go.Aug.Api
open Go.Aug
structure TKeyed where
  pred : TPred
  place : Int
  text : ByteArray
end Go.Aug.Api

namespace Go.Aug.Api
open Go.Aug
mutual
def sameX : TExpr → TExpr → Bool
  | .mk k v var f _ kids, .mk k' v' var' f' _ kids' => decide (k = k') && decide (v = v') && decide (var = var') && decide (f = f') && decide (kids.length = kids'.length) && sameXs kids kids'
def sameXs : List TExpr → List TExpr → Bool
  | a :: l, b :: m => sameX a b && sameXs l m
  | _, _ => true
end
def sameP (a b : TPred) : Bool := decide (a.cmp = b.cmp) && sameX a.L b.L && sameX a.R b.R
def samePs : List TPred → List TPred → Bool
  | a :: l, b :: m => sameP a b && samePs l m
  | _, _ => true
mutual
theorem sameX_refl : ∀ x : TExpr, sameX x x = true
  | .mk k v var f rep kids => by simp [sameX, sameXs_refl kids]
theorem sameXs_refl : ∀ l : List TExpr, sameXs l l = true
  | [] => rfl
  | x :: l => by simp [sameXs, sameX_refl x, sameXs_refl l]
end
theorem sameP_refl (p : TPred) : sameP p p = true := by simp [sameP, sameX_refl]
theorem samePs_refl : ∀ l : List TPred, samePs l l = true
  | [] => rfl
  | x :: l => by simp [samePs, sameP_refl x, samePs_refl l]
end Go.Aug.Api
