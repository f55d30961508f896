/-
The walk of TimelineSpans. Conditions: none.
-/
import Derived.Test.YtlnkifnkamojnaaGreatTVu
import Derived.Test.YtlnkifnkamojnaaGreatTO5
namespace Go.Proofs.YtlnkifnkamojnaaGreat.Tz
open Go.Aug Go.Aug.Api
set_option maxRecDepth 100000
theorem Great15_run (l : Sl TVersion) (H : Heap) : SomeB tab n_q2 [l.enc versionC] H := by
  refine cK_fn o_q2 t_q2 (Nat.le_of_ble_eq_true rfl) (by decide) ?_
  simp [Sl.enc]
  refine LR_rule (WR_mono _) (fun j E H' => H' = low0 H ∧ ∃ pre suf, l.l = pre ++ suf ∧ j = suf.length ∧ E 0 = slD l.rep l.l.length (l.l.flatMap versionC) ∧ E 3 = i64D pre.length) ?_ (j := l.l.length) ⟨rfl, [], l.l, by simp⟩
  rintro j E H' ⟨rfl, pre, suf, hl, rfl, e0, e3⟩
  cases suf with
  | nil =>
    have hp : l.l = pre := by simpa using hl
    have hlt' : ((pre.length : Int) < (l.l.length : Int)) = False := by simp [hp]
    simp [e0, e3, hlt']
    omega
  | cons v suf =>
    have hlt : pre.length < l.l.length := by rw [hl]; simp
    have hlt' : ((pre.length : Int) < (l.l.length : Int)) = True := by simp; omega
    have hw := wrap_more hlt l.ok
    have ev := elem_at versionC_len l.rep l.l .i64 pre.length v (by rw [hl]; simp)
    obtain ⟨g, hg⟩ := (Great_run v.query (low0 H)).run
    have hG := hg.cK
    have f2 : ∀ (x : TVersion) rest, evFadr 2 (.cp (versionC x ++ rest)) = some (.cp (queryC x.query ++ rest)) := fun _ _ => rfl
    simp [e0, e3, hlt']
    refine gK_of (fun h1 => ?_) (fun h1 => ?_)
    · simp [-fadr_cp, h1, e0, e3, ev, f2, load_elem _ _ _ _ (queryC_len v.query), hG]
      cases g with
      | true => simp
      | false =>
        simp [e0, e3, hw]
        exact ⟨suf.length, by omega, pre ++ [v], suf, by simp [hl], rfl, by simp⟩
    · simp [h1, e0]
      omega
def isLawV (f : Nat) : List Nat → Bool
  | [] => false
  | n :: l => cond (Nat.beq f n) true (isLawV f l)
def lawFnsV : List Nat := [n_q2, n_q168, n_q160]
noncomputable def orcsW (f : Nat) : Option (List D → Heap → Option (D × Heap)) := cond (isLawV f lawFnsV) (some (pureOrc2 (runSpec tab f))) (orcs f)
noncomputable def tabW : Tab := ⟨findF rows, frozen, orcsW⟩
theorem tW {f : Nat} {fi : FI} (h : tab.fn f = some fi) : tabW.fn f = some fi := h
end Go.Proofs.YtlnkifnkamojnaaGreat.Tz

namespace Go.Aug.Api
open Go.Aug
def lastD (l : List TVersion) : Bool := match l.getLast? with | some w => w.drop | none => true
def leftV (v : TVersion) (l : List TVersion) : List TVersion := l.filter fun x => !decide (v.from_ ≤ x.from_)
def putD (l : Sl TVersion) (v : TVersion) : D :=
  if (rightVs l.l && oneV v) = false then .tup [.v (.slice none 0 0), i64D 1]
  else if (v.drop && lastD (leftV v l.l)) = true then .tup [l.enc versionC, i64D 12]
  else if (leftV v l.l).length = 8 then .tup [l.enc versionC, i64D 2]
  else .tup [.sl ((leftV v l.l).length + 1) ((leftV v l.l ++ [v]).flatMap versionC) none, i64D 0]
def backD (l : Sl TVersion) : D :=
  if rightVs l.l = false then .tup [.v (.slice none 0 0), i64D 1]
  else if l.l.length < 2 then .tup [l.enc versionC, i64D 12]
  else .tup [.sl (l.l.length - 1) (l.l.dropLast.flatMap versionC) none, i64D 0]
end Go.Aug.Api
