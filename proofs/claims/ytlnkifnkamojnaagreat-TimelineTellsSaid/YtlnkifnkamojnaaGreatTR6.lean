/-
An element appended to a row of one's own, for any kind. Conditions: none.
-/
import Derived.Test.YtlnkifnkamojnaaGreatTR5
namespace Go.Aug
theorem roomOkR {bytes n : Nat} (h : n ≤ 200000) (hb : bytes ≤ 100000) : roomOk bytes n = true := by
  unfold roomOk
  simp only [Bool.and_eq_true, decide_eq_true_eq]
  refine ⟨⟨?_, by omega⟩, by omega⟩
  calc n * bytes ≤ 200000 * 100000 := Nat.mul_le_mul h hb
    _ ≤ 2 ^ 47 := by decide
theorem firstR_one {H : Heap} {size r2 : Nat} {c : Option Nat} {X : List D} (hX : X.length = size) (h2 : H.get r2 = some (.cells X)) : firstD H false size (.rs r2 0 1 c size) = some (1, X) := by
  have : X.take size = X := List.take_of_length_le (by omega)
  simp [firstD, h2, hX, this]
theorem appR_first {H : Heap} {size bytes r2 : Nat} {c : Option Nat} {X : List D} (hX : X.length = size) (hb : bytes ≤ 100000) (h2 : H.get r2 = some (.cells X)) :
    evApp H false size bytes (.v (.slice none 0 0)) (.rs r2 0 1 c size) = some (.rs H.next 0 1 none size, H.add (.cells X)) := by
  have h1 : ((1 : Nat) == 0) = false := rfl
  simp only [evApp, firstR_one hX h2, h1, roomOkR (n := 1) (by decide) hb, if_true, Bool.false_eq_true, if_false]
theorem appR_next {H : Heap} {size bytes r r2 n : Nat} {c : Option Nat} {L X : List D} (hX : X.length = size) (hL : L.length = n * size) (hn : n ≤ 100000) (hb : bytes ≤ 100000) (h2 : H.get r2 = some (.cells X)) (h : H.get r = some (.cells L)) :
    evApp H false size bytes (.rs r 0 n none size) (.rs r2 0 1 c size) = some (.rs H.next 0 (n + 1) none size, (H.del r).add (.cells (L ++ X))) := by
  have h1 : ((1 : Nat) == 0) = false := rfl
  have h0 : ((0 : Nat) == 0) = true := rfl
  have hs : (n * size == L.length) = true := by rw [hL]; simp
  simp only [evApp, firstR_one hX h2, h1, h0, h, hs, beq_self_eq_true, roomOkR (n := n + 1) (by omega) hb, if_true, Bool.and_self, Bool.false_eq_true, if_false]
def OwnR (L : List D) (n size b : Nat) (H : Heap) (d : D) : Prop :=
  (n = 0 ∧ L = [] ∧ d = .v (.slice none 0 0)) ∨ (0 < n ∧ ∃ r, d = .rs r 0 n none size ∧ b ≤ r ∧ r < H.next ∧ H.get r = some (.cells L))
theorem ownR_app {L X : List D} {n size bytes b lo r2 : Nat} {c : Option Nat} {H : Heap} {d : D} (ho : OwnR L n size b H d) (hX : X.length = size) (hL : L.length = n * size) (hn : n ≤ 100000) (hb : bytes ≤ 100000) (h2 : H.get r2 = some (.cells X)) (hlow : lo ≤ H.low) (hln : H.low ≤ H.next) (hbn : b ≤ H.next) (hlb : lo ≤ b) (k : D × Heap → Prop)
    (hk : ∀ d' H', OwnR (L ++ X) (n + 1) size b H' d' → H'.next = H.next + 1 → lo ≤ H'.low → H'.low ≤ H'.next → (∀ q, q < b → H'.get q = H.get q) → k (d', H')) : oK (evApp H false size bytes d (.rs r2 0 1 c size)) k := by
  rcases ho with ⟨rfl, rfl, rfl⟩ | ⟨hpos, r, rfl, hr1, hr2, hg⟩
  · refine ⟨_, appR_first hX hb h2, hk _ _ (.inr ⟨by omega, H.next, by simp, hbn, by simp, by simp⟩) (by simp) (by simpa using hlow) (by simp; omega) fun q hq => ?_⟩
    have : (q = H.next) = False := by simp; omega
    simp [this]
  · refine ⟨_, appR_next hX hL hn hb h2 hg, hk _ _ (.inr ⟨by omega, H.next, by simp, hbn, by simp, by simp⟩) (by simp) (by simp; split <;> omega) (by simp; split <;> omega) fun q hq => ?_⟩
    have e1 : (q = H.next) = False := by simp; omega
    have e2 : (q = r) = False := by simp; omega
    simp [e1, get_del, e2]
theorem OwnR.mono {L : List D} {n size b : Nat} {H H' : Heap} {d : D} (ho : OwnR L n size b H d) (hn : H.next ≤ H'.next) (hg : ∀ q, b ≤ q → q < H.next → H'.get q = H.get q) : OwnR L n size b H' d := by
  rcases ho with h | ⟨h1, r, h2, h3, h4, h5⟩
  · exact .inl h
  · exact .inr ⟨h1, r, h2, h3, by omega, by rw [hg r h3 h4]; exact h5⟩
end Go.Aug
