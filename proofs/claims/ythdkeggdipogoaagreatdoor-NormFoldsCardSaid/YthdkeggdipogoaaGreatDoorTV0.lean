/-
EvalFolds in plain terms: what the five kinds of expressions are worth of events that have a number in one field. Conditions: none.
-/
import Derived.Test.YthdkeggdipogoaaGreatDoorGS
namespace Go.Aug.Api
open Go.Aug

def strA : ByteArray := ⟨#[97]⟩
def strP : ByteArray := ⟨#[112]⟩
def strX : ByteArray := ⟨#[120]⟩
def numV (n : Int) : TVal := ⟨1, n, emptyS⟩
def ev1 (n : Int) : TEvent := ⟨n, 0, 0, strA, ⟨some (some 1), [numV n], Nat.le_of_ble_eq_true rfl⟩⟩
def fieldX : TField := ⟨strX, 1, by decide⟩
def schemaA : TSchema := ⟨strA, ⟨some (some 1), [fieldX], by decide⟩⟩
def slS : Sl TSchema := ⟨some (some 1), [schemaA], by decide⟩
def itemP : TItem := ⟨false, ⟨some (some 1), [strA], by decide⟩, strP, 2, fun s h => by simp at h; subst h; exact Nat.le_of_ble_eq_true rfl, Nat.le_of_ble_eq_true rfl⟩
def qA : TQuery := ⟨⟨some (some 1), [itemP], by decide⟩, .nil, 0, emptyS, 1, Nat.le_of_ble_eq_true rfl⟩
def rowN (l : List Int) (h : l.length ≤ big) : Sl TEvent := ⟨some none, l.map ev1, by simpa using h⟩
def bN (l : List Int) (h : l.length ≤ big) : Sl (Sl TEvent) := ⟨some (some 1), [rowN l h], Nat.le_of_ble_eq_true rfl⟩
def scN (l : List Int) (h : l.length ≤ big) : TScope := ⟨slS, qA, bN l h⟩
def exK (k : Int) : TExpr := .mk k zVal strP strX none []

def mn (a b : Int) : Int := if b < a then b else a
def mx (a b : Int) : Int := if a < b then b else a

variable {l : List Int} {h : l.length ≤ big}

theorem row_p : rowS (scN l h) strP = (rowN l h, true) := by
  have e : idx (fun x : TItem => decide (x.var = strP)) (scN l h).q.items.l = 0 := by
    have := idx_some (p := fun x : TItem => decide (x.var = strP)) [] itemP [] (by simp) (by decide)
    exact this
  unfold rowS
  rw [e]
  rfl

theorem num_x (n : Int) : fieldE (scN l h) (ev1 n) strX = (numV n, 0) := by
  have e : idx (fun x : TField => decide (x.name = strX)) [fieldX] = 0 := idx_some (p := fun x : TField => decide (x.name = strX)) [] fieldX [] (by simp) (by decide)
  have hs : (findS (scN l h).l.l (ev1 n).name) = (schemaA, true) := by
    unfold findS
    have : (scN l h).l.l.find? (fun s => decide (s.name = (ev1 n).name)) = some schemaA := by
      show [schemaA].find? _ = _
      rw [List.find?_cons]
      have : decide (schemaA.name = (ev1 n).name) = true := by show decide (strA = strA) = true; simp
      rw [this]
    rw [this]
  have hf : (fieldS schemaA strX).1 = 0 := e
  unfold fieldE
  rw [hs]
  simp only [hf]
  rfl

theorem numE_x (n : Int) : numE (scN l h) (ev1 n) strX = (numV n, 0) := by
  unfold numE
  rw [num_x]
  rfl

theorem add_num {a b : Int} (ha : -maxNum ≤ a) (ha' : a ≤ maxNum) (hb : -maxNum ≤ b) (hb' : b ≤ maxNum) (hc : -maxNum ≤ a + b) (hc' : a + b ≤ maxNum) : addV (numV a) (numV b) = (numV (a + b), 0) := by
  have h1 : rightV (numV a) = true := by simp [rightV, numV, ha, ha']
  have h2 : rightV (numV b) = true := by simp [rightV, numV, hb, hb']
  have h3 : bothV (numV a) (numV b) = 0 := by unfold bothV; simp [h1, h2]; simp [numV]
  unfold addV ofSum
  rw [if_pos h3, if_pos ⟨hc, hc'⟩]
  rfl

theorem fold_sum : ∀ (r : List Int) (out : Int), (∀ n ∈ r, -1000000 ≤ n ∧ n ≤ 1000000) → -1000000 * (60 - (r.length : Int)) ≤ out → out ≤ 1000000 * (60 - (r.length : Int)) → r.length ≤ 60 → foldS (scN l h) 4 strX (r.map ev1) (numV out) = (numV (r.foldl (· + ·) out), 0)
  | [], out, _, _, _, _ => rfl
  | n :: r, out, hr, h1, h2, h3 => by
    have hn := hr n (List.mem_cons_self ..)
    simp only [List.length_cons] at h1 h2 h3
    have hadd : addV (numV out) (numV n) = (numV (out + n), 0) := add_num (by unfold maxNum; omega) (by unfold maxNum; omega) (by unfold maxNum; omega) (by unfold maxNum; omega) (by unfold maxNum; omega) (by unfold maxNum; omega)
    simp only [List.map_cons, foldS, numE_x, foldOf, if_true, hadd]
    simp only [ne_eq, not_true_eq_false, if_false, List.foldl_cons]
    exact fold_sum r (out + n) (fun m hm => hr m (List.mem_cons_of_mem _ hm)) (by omega) (by omega) (by omega)

theorem fold_min : ∀ (r : List Int) (out : Int), foldS (scN l h) 5 strX (r.map ev1) (numV out) = (numV (r.foldl mn out), 0)
  | [], out => rfl
  | n :: r, out => by
    have hf : foldOf 5 (numV out) (numV n) = (numV (mn out n), 0) := by
      by_cases hlt : n < out <;> simp [foldOf, numV, mn, hlt]
    simp only [List.map_cons, foldS, numE_x, hf]
    simp only [ne_eq, not_true_eq_false, if_false, List.foldl_cons]
    exact fold_min r _

theorem fold_max : ∀ (r : List Int) (out : Int), foldS (scN l h) 6 strX (r.map ev1) (numV out) = (numV (r.foldl mx out), 0)
  | [], out => rfl
  | n :: r, out => by
    have hf : foldOf 6 (numV out) (numV n) = (numV (mx out n), 0) := by
      by_cases hlt : out < n <;> simp [foldOf, numV, mx, hlt]
    simp only [List.map_cons, foldS, numE_x, hf]
    simp only [ne_eq, not_true_eq_false, if_false, List.foldl_cons]
    exact fold_max r _

/-- What is wanted of each kind. -/
def wantK (l : List Int) (last : Int) (k : Int) : Int :=
  if k = 2 then last else if k = 3 then l.length else if k = 4 then l.foldl (· + ·) 0 else if k = 5 then l.foldl mn (l.headD 0) else l.foldl mx (l.headD 0)

theorem folds_are (last : Int) (hl : l.getLast? = some last) (hlen : l.length ≤ 60) (hn : ∀ n ∈ l, -1000000 ≤ n ∧ n ≤ 1000000) (k : Int) (hk : 2 ≤ k) (hk' : k ≤ 6) : valueS (scN l h) (exK k) = (numV (wantK l last k), 0) := by
  have e1 : valueS (scN l h) (exK k) = leafS (scN l h) k zVal strP strX := by
    unfold exK valueS
    rw [if_neg (by omega), if_neg (by omega)]
  rw [e1]
  unfold leafS
  rw [if_neg (by omega), row_p, if_neg (by simp; omega)]
  have hg : (rowN l h).l.getLast? = some (ev1 last) := by
    show (l.map ev1).getLast? = _
    rw [List.getLast?_map, hl]; rfl
  by_cases h3 : k = 3
  · subst h3
    simp only [if_true]
    show (TVal.mk 1 ((l.map ev1).length : Nat) emptyS, 0) = _
    simp [numV, wantK]
  · rw [if_neg h3]
    simp only [hg]
    by_cases h2 : k = 2
    · subst h2
      simp only [if_true, num_x]
      simp [wantK]
    · rw [if_neg h2]
      show foldedS (scN l h) k strX (l.map ev1) = _
      cases l with
      | nil => simp at hl
      | cons n r =>
        simp only [List.map_cons, foldedS, numE_x]
        simp only [ne_eq, not_true_eq_false, if_false]
        have hn0 := hn n (List.mem_cons_self ..)
        simp only [List.length_cons] at hlen
        have hk3 : k = 4 ∨ k = 5 ∨ k = 6 := by omega
        rcases hk3 with rfl | rfl | rfl
        · rw [fold_sum r n (fun m hm => hn m (List.mem_cons_of_mem _ hm)) (by omega) (by omega) (by omega)]
          simp [wantK]
        · rw [fold_min r n]
          simp [wantK, mn]
        · rw [fold_max r n]
          simp [wantK, mx]

end Go.Aug.Api
