/-
An element appended to a row of one's own, for any kind. Conditions: none.
-/
import Derived.Test.YtlnkifnkamojnaaGreatTR5
namespace Go.Aug
theorem roomOkR {bytes n : Nat} (h : n ≤ 200000) (hb : bytes ≤ 100000) : roomOk bytes n = true := by
  unfold roomOk
  simp only [Bool.and_eq_true, decide_eq_true_eq]
  refine ⟨⟨?_, by omega⟩, by omega⟩
  calc n * bytes ≤ 200000 * 100000 := Nat.mul_le_mul h hb
    _ ≤ 2 ^ 47 := by decide
theorem firstR_one {H : Heap} {size r2 : Nat} {c : Option Nat} {X : List D} (hX : X.length = size) (h2 : H.get r2 = some (.cells X)) : firstD H false size (.rs r2 0 1 c size) = some (1, X) := by
  have : X.take size = X := List.take_of_length_le (by omega)
  simp [firstD, h2, hX, this]
theorem appR_first {H : Heap} {size bytes r2 : Nat} {c : Option Nat} {X : List D} (hX : X.length = size) (hb : bytes ≤ 100000) (h2 : H.get r2 = some (.cells X)) :
    evApp H false size bytes (.v (.slice none 0 0)) (.rs r2 0 1 c size) = some (.rs H.next 0 1 none size, H.add (.cells X)) := by
  have h1 : ((1 : Nat) == 0) = false := rfl
  simp only [evApp, firstR_one hX h2, h1, roomOkR (n := 1) (by decide) hb, if_true, Bool.false_eq_true, if_false]
def OwnR (L : List D) (n size b : Nat) (H : Heap) (d : D) : Prop :=
  (n = 0 ∧ L = [] ∧ d = .v (.slice none 0 0)) ∨ (0 < n ∧ ∃ r, d = .rs r 0 n none size ∧ b ≤ r ∧ r < H.next ∧ H.get r = some (.cells L))
theorem OwnR.mono {L : List D} {n size b : Nat} {H H' : Heap} {d : D} (ho : OwnR L n size b H d) (hn : H.next ≤ H'.next) (hg : ∀ q, b ≤ q → q < H.next → H'.get q = H.get q) : OwnR L n size b H' d := by
  rcases ho with h | ⟨h1, r, h2, h3, h4, h5⟩
  · exact .inl h
  · exact .inr ⟨h1, r, h2, h3, by omega, by rw [hg r h3 h4]; exact h5⟩
end Go.Aug
