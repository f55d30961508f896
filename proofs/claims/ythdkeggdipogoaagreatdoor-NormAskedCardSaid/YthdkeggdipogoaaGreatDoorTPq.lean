/-
tree.Print at the two queries that chapter 10's live question prints, as an oracle. Conditions: none; definitions and plain lemmas.
-/
import Derived.Test.YthdkeggdipogoaaGreatDoorTOa
import Derived.Test.YthdkeggdipogoaaGreatDoorGR
namespace Go.Proofs.YthdkeggdipogoaaGreatDoor.Tz
open Go.Aug
mutual
def eqD : D → D → Bool
  | .v (.int k a), .v (.int k' b) => decide (k = k') && decide (a = b)
  | .v (.string a), .v (.string b) => a.data.toList == b.data.toList
  | .v (.bool a), .v (.bool b) => a == b
  | .v (.slice none a b), .v (.slice none c d) => decide (a = c) && decide (b = d)
  | .agg l, .agg m => eqDL l m
  | .sl n l c, .sl n' m c' => decide (n = n') && decide (c = c') && eqDL l m
  | _, _ => false
def eqDL : List D → List D → Bool
  | [], [] => true
  | a :: l, b :: m => eqD a b && eqDL l m
  | _, _ => false
end
mutual
theorem eqD_eq : ∀ a b : D, eqD a b = true → a = b
  | a, b, h => by
    unfold eqD at h
    split at h
    · simp only [Bool.and_eq_true, decide_eq_true_eq] at h
      rw [h.1, h.2]
    · rename_i x y
      simp only [beq_iff_eq] at h
      obtain ⟨⟨x⟩⟩ := x
      obtain ⟨⟨y⟩⟩ := y
      simp at h
      rw [h]
    · simp only [beq_iff_eq] at h
      rw [h]
    · simp only [Bool.and_eq_true, decide_eq_true_eq] at h
      rw [h.1, h.2]
    · rename_i l m
      rw [eqDL_eq l m h]
    · rename_i n l c n' m c'
      simp only [Bool.and_eq_true, decide_eq_true_eq] at h
      rw [h.1.1, h.1.2, eqDL_eq l m h.2]
    · cases h
theorem eqDL_eq : ∀ l m : List D, eqDL l m = true → l = m
  | [], [], _ => rfl
  | a :: l, b :: m, h => by
    simp only [eqDL, Bool.and_eq_true] at h
    rw [eqD_eq a b h.1, eqDL_eq l m h.2]
  | [], _ :: _, h => by simp [eqDL] at h
  | _ :: _, [], h => by simp [eqDL] at h
end
def dItems : D := .sl 2 [.v (.bool false), .sl 1 [.v (.string ⟨#[97]⟩)] none, .v (.string ⟨#[112]⟩), .v (.int .i64 1), .v (.bool false), .sl 1 [.v (.string ⟨#[98]⟩)] none, .v (.string ⟨#[114]⟩), .v (.int .i64 1)] none
def dPA : D := .sl 1 [.v (.int .i64 4), .v (.int .i64 1), .v (.int .i64 1), .v (.int .i64 3), .v (.string ⟨#[]⟩), .v (.string ⟨#[]⟩), .v (.string ⟨#[]⟩), .v (.slice none 0 0), .v (.int .i64 2), .v (.int .i64 0), .v (.int .i64 0), .v (.string ⟨#[]⟩), .v (.string ⟨#[114]⟩), .v (.string ⟨#[120]⟩), .v (.slice none 0 0)] (some 1)
def dPB : D := .sl 1 [.v (.int .i64 1), .v (.int .i64 2), .v (.int .i64 0), .v (.int .i64 0), .v (.string ⟨#[]⟩), .v (.string ⟨#[112]⟩), .v (.string ⟨#[120]⟩), .v (.slice none 0 0), .v (.int .i64 1), .v (.int .i64 1), .v (.int .i64 4), .v (.string ⟨#[]⟩), .v (.string ⟨#[]⟩), .v (.string ⟨#[]⟩), .v (.slice none 0 0)] (some 1)
def queryD (p : D) : D := .agg [dItems, p, .v (.int .i64 5), .v (.string ⟨#[]⟩), .v (.int .i64 1)]
def j1 : ByteArray := ⟨#[97, 32, 112, 32, 116, 104, 101, 110, 32, 98, 32, 114]⟩
def jA : ByteArray := ⟨#[51, 32, 60, 61, 32, 114, 46, 120]⟩
def jB : ByteArray := ⟨#[112, 46, 120, 32, 61, 32, 52]⟩
def tA : ByteArray := ⟨#[115, 101, 113, 32, 97, 32, 112, 32, 116, 104, 101, 110, 32, 98, 32, 114, 32, 119, 104, 101, 114, 101, 32, 51, 32, 60, 61, 32, 114, 46, 120, 32, 119, 105, 116, 104, 105, 110, 32, 53, 32, 112, 105, 99, 107, 32, 97, 110, 121]⟩
def tB : ByteArray := ⟨#[115, 101, 113, 32, 97, 32, 112, 32, 116, 104, 101, 110, 32, 98, 32, 114, 32, 119, 104, 101, 114, 101, 32, 112, 46, 120, 32, 61, 32, 52, 32, 119, 105, 116, 104, 105, 110, 32, 53, 32, 112, 105, 99, 107, 32, 97, 110, 121]⟩
def orcPrint (args : List D) (H : Heap) : Option (D × Heap) :=
  match frzL (frz H 0 64) args with
  | some [a] => cond (eqD a (queryD dPA)) (some (.v (.string tA), H)) (cond (eqD a (queryD dPB)) (some (.v (.string tB), H)) none)
  | _ => none
end Go.Proofs.YthdkeggdipogoaaGreatDoor.Tz
