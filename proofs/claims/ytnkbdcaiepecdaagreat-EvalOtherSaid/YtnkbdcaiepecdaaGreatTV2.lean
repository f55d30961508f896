/-
EvalOther: plain law and walk. Conditions: none.
-/
import Derived.Test.YtnkbdcaiepecdaaGreatTV1
import Derived.Test.YtnkbdcaiepecdaaGreatTW7
namespace Go.Aug.Api
open Go.Aug

theorem row_other (l : Sl TSchema) (q : TQuery) (b c : Sl (Sl TEvent)) (k : Nat) (more : Sl TEvent) (hc : c.l = b.l.set k more) (v : ByteArray) (hv : ∀ x, q.items.l[k]? = some x → x.var ≠ v) : rowS ⟨l, q, b⟩ v = rowS ⟨l, q, c⟩ v := by
  unfold rowS
  rcases idx_cases (fun x : TItem => decide (x.var = v)) q.items.l with ⟨h1, -, -⟩ | ⟨pre, x, suf, h1, -, h3, h4, -⟩
  · simp [h1]
  · have hx : q.items.l[pre.length]? = some x := by rw [h1]; simp
    have hne : k ≠ pre.length := by
      rintro rfl
      exact hv x hx (by simpa using h3)
    simp only [h4, hc]
    rw [if_neg (by omega), if_neg (by omega), Int.toNat_natCast, List.getElem?_set_ne hne]

theorem leaf_other (l : Sl TSchema) (q : TQuery) (b c : Sl (Sl TEvent)) (k : Nat) (more : Sl TEvent) (hc : c.l = b.l.set k more) (kind : Int) (val : TVal) (v field : ByteArray) (hv : ∀ x, q.items.l[k]? = some x → x.var ≠ v) :
    leafS ⟨l, q, b⟩ kind val v field = leafS ⟨l, q, c⟩ kind val v field := by
  have hrow := row_other l q b c k more hc v hv
  have hf : ∀ e n, fieldE ⟨l, q, b⟩ e n = fieldE ⟨l, q, c⟩ e n := fun _ _ => rfl
  have hn : ∀ e n, numE ⟨l, q, b⟩ e n = numE ⟨l, q, c⟩ e n := fun _ _ => rfl
  have hfs : ∀ (r : List TEvent) (out : TVal), foldS ⟨l, q, b⟩ kind field r out = foldS ⟨l, q, c⟩ kind field r out := by
    intro r
    induction r with
    | nil => intro _; rfl
    | cons e r ih => intro out; simp only [foldS, hn, ih]
  have hfd : ∀ r, foldedS ⟨l, q, b⟩ kind field r = foldedS ⟨l, q, c⟩ kind field r := by
    intro r
    cases r with
    | nil => rfl
    | cons e r => simp only [foldedS, hn, hfs]
  unfold leafS
  rw [hrow]
  simp only [hf, hfd]

theorem value_other (l : Sl TSchema) (q : TQuery) (b c : Sl (Sl TEvent)) (k : Nat) (more : Sl TEvent) (hc : c.l = b.l.set k more) : ∀ (x : TExpr), (∀ y, q.items.l[k]? = some y → namesE x y.var = false) → valueS ⟨l, q, b⟩ x = valueS ⟨l, q, c⟩ x
  | .mk kind val v field rep kids, h => by
    have hv : ∀ y, q.items.l[k]? = some y → y.var ≠ v := by
      intro y hy e
      have := h y hy
      simp [namesE, e] at this
    have hk : ∀ x ∈ kids, ∀ y, q.items.l[k]? = some y → namesE x y.var = false := by
      intro x hx y hy
      have h1 := h y hy
      obtain ⟨s, t, rfl⟩ := List.append_of_mem hx
      simp [namesE, namesEs_append, namesEs] at h1
      exact h1.2.2.1
    have two : ∀ of, twoKids ⟨l, q, b⟩ of kids = twoKids ⟨l, q, c⟩ of kids := by
      intro of
      match kids, hk with
      | [], _ => rfl
      | [_], _ => rfl
      | [x, y], hk =>
        simp only [twoKids]
        rw [value_other l q b c k more hc x (hk x (by simp)), value_other l q b c k more hc y (hk y (by simp))]
      | _ :: _ :: _ :: _, _ => rfl
    simp only [valueS, two, leaf_other l q b c k more hc kind val v field hv]

end Go.Aug.Api
