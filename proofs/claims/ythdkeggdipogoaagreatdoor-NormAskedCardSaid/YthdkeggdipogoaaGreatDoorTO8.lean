/-
errors.As as an oracle: into a pointer of the error's own kind, and into an error number behind one Unwrap. Conditions: the two contracts.
-/
import Derived.Test.YthdkeggdipogoaaGreatDoorTO3
namespace Go.Aug
open Go.RowKit
variable {P : Program} {ρ : Ren} {Im : Nat → Prop} {H : Heap} {w w' : World}
def allocs (w : World) (xs : List Obj) : World := xs.foldl World.alloc w
theorem Post.skips : ∀ (xs : List Obj) {w : World} (_h : Sim P ρ Im H w), Post P ρ Im H w ρ Im H (allocs w xs)
  | [], _, h => Post.refl h
  | x :: xs, _, h => (Post.skip h x).trans (Post.skips xs (Post.skip h x).sim)
theorem Post.setCell {r b off : Nat} {l : List D} {d : D} {v : Value} (h : Sim P ρ Im H w) (hg : H.get r = some (.cells l)) (hb : ρ r = some b) (ho : off < l.length) (hd : Rel ρ Im w d v) (h1 : v.oneCell' = true) :
    Post P ρ Im H w ρ Im (H.set r (.cells (l.set off d))) (w.setCell ⟨b, off, none⟩ v) := by
  obtain ⟨cs, te, hblk, hl, hone, hr⟩ := h.cells hg hb
  have hheap : (w.setCell ⟨b, off, none⟩ v).heap[b]? = some (.cells (cs.setIfInBounds off v) te (0, 0)) := by
    simp [World.setCell, Array.getElem?_modify, hblk]
  have hgv : ∀ i, gv (cs.setIfInBounds off v) i = if i = off then v else gv cs i := by
    intro i
    unfold gv
    by_cases hi : i = off
    · subst hi
      simp [Array.getElem?_setIfInBounds_self_of_lt (show i < cs.size by omega)]
    · rw [Array.getElem?_setIfInBounds_ne (fun e => hi e.symm)]
      simp [hi]
  refine Post.set h hg hb (x := .cells (cs.setIfInBounds off v) te (0, 0)) (.cells (by simp; omega) (fun i hi => ?_) (fun i d' hd' => ?_)) hheap (fun k hk => ?_) (by simp [World.setCell]) (fun cs0 e0 f0 h0 => ?_) ⟨rfl, rfl, rfl⟩
  · rw [hgv]
    split
    · exact h1
    · exact hone i (by simpa using hi)
  · rw [hgv]
    by_cases hi : i = off
    · subst hi
      rw [List.getElem?_set_self ho] at hd'
      cases hd'
      rw [if_pos rfl]
      exact hd
    · rw [List.getElem?_set_ne (fun e => hi e.symm)] at hd'
      rw [if_neg hi]
      exact hr i d' hd'
  · simp [World.setCell, Array.getElem?_modify, Ne.symm hk]
  · rw [hblk] at h0
    cases h0
    exact ⟨_, _, rfl, by simp⟩
def orcAs (tW tPW tPE tE : TypeId) : List D → Heap → Option (D × Heap)
  | [.v .nilIface, _], H => some (.v (.bool false), H)
  | [.ifc t (.cp c), .ifc u (.rf r off)], H =>
    if t = tW then match H.get r with
      | some (.cells l) => if off < l.length then
          if u = tPW then some (.v (.bool true), H.set r (.cells (l.set off (.cp c))))
          else if u = tPE then (match (c[1]? : Option D) with
            | some (.ifc e (.v (.int .i64 n))) => if e = tE then some (.v (.bool true), H.set r (.cells (l.set off (.v (.int .i64 n))))) else none
            | _ => none)
          else none
        else none
      | _ => none
    else none
  | _, _ => none
structure AsOk (P : Program) (f g : Nat) (V : Value) (tW tPW tPE tE : TypeId) : Prop where
  enter : ∀ args W, (callFunc f args).run P W = .ok (.enter f args) W
  nil : ∀ (t : Value) (W : World), Calls P f #[.nilIface, t] W fun e w' => e = .returned (.bool false) ∧ w' = W
  hit : ∀ (e t : Addr) (old : Value) (W : World), W.cell? ⟨g, 0, none⟩ = some V → W.cell? t = some old → W.frozen? t = false →
    Calls P f #[.iface tW (.pointer (some e)), .iface tPW (.pointer (some t))] W fun ev w' => ev = .returned (.bool true) ∧ ∃ xs, w' = (allocs W xs).setCell t (.pointer (some e))
  unwrap : ∀ (eb eo : Nat) (n : Int) (t : Addr) (old : Value) (W : World), W.cell? ⟨eb, eo + 1, none⟩ = some (.iface tE (.int .i64 n)) → W.cell? ⟨g, 0, none⟩ = some V → W.cell? t = some old → W.frozen? t = false →
    Calls P f #[.iface tW (.pointer (some ⟨eb, eo, none⟩)), .iface tPE (.pointer (some t))] W fun ev w' => ev = .returned (.bool true) ∧ ∃ xs, w' = (allocs W xs).setCell t (.int .i64 n)
theorem as_ok {f g : Nat} {V : Value} {tW tPW tPE tE : TypeId} (hA : AsOk P f g V tW tPW tPE tE) (hG : (P.globals[g]?.any fun gl => gl.name == "errors.errorType") = true)
    (hV : ∀ o, globFact P "errors.errorType" o → ∃ (cs : Array Value) (e : TypeId) (f : Nat × Nat), o = some (Obj.cells cs e f) ∧ cs[0]? = some V) : OrcOk P f (orcAs tW tPW tPE tE) := by
  obtain ⟨gl, hg, hn⟩ : ∃ gl, P.globals[g]? = some gl ∧ gl.name = "errors.errorType" := by
    cases h : P.globals[g]? with
    | none => rw [h] at hG; cases hG
    | some gl => rw [h] at hG; exact ⟨gl, rfl, by simpa using hG⟩
  intro args H r H' hgo ρ Im w vs hs hr
  have hcell : w.cell? ⟨g, 0, none⟩ = some V := by
    obtain ⟨-, h2⟩ := hs.glob g gl hg (by unfold globNeed; rw [hn]; rfl)
    rw [hn] at h2
    obtain ⟨cs, e, f', c1, c2⟩ := hV _ h2
    simp [World.cell?, c1, c2]
  unfold orcAs at hgo
  obtain ⟨hl, hrel⟩ := hr
  split at hgo
  · -- no error
    simp only [Option.some.injEq, Prod.mk.injEq] at hgo
    obtain ⟨rfl, rfl⟩ := hgo
    have h0 := (hrel 0 _ rfl).v_inv
    rw [arr_two (a := vs) (by simpa using hl.symm), h0]
    refine .inl ⟨hA.enter _ w, fun n => (callsIn_wide.2 (hA.nil _ w)).mono ?_⟩
    rintro e w' ⟨rfl, rfl⟩
    exact ⟨_, ρ, Im, rfl, Post.refl hs, .v _⟩
  · rename_i t c u q off
    split at hgo
    · rename_i ht
      subst ht
      split at hgo
      · rename_i l hget
        split at hgo
        · rename_i hoff
          have h0 := hrel 0 _ rfl
          have h1 := hrel 1 _ rfl
          rw [arr_two (a := vs) (by simpa using hl.symm)]
          generalize gv vs 0 = v0 at h0
          generalize gv vs 1 = v1 at h1
          cases h0 with
          | ifc h0 =>
          cases h1 with
          | ifc h1 =>
          cases h1 with
          | rf hb =>
          rename_i b
          have h0' := h0
          cases h0 with
          | cp cs hi hrc =>
          rename_i eb eo
          obtain ⟨ds, te, hblk, hlen, hone, hrr⟩ := hs.cells hget hb
          have ho : w.cell? ⟨b, off, none⟩ = some (gv ds off) := by
            have : off < ds.size := by omega
            simp [World.cell?, hblk, gv, this]
          have hf : w.frozen? ⟨b, off, none⟩ = false := by simp [World.frozen?, hblk]
          split at hgo
          · rename_i hu
            subst hu
            simp only [Option.some.injEq, Prod.mk.injEq] at hgo
            obtain ⟨rfl, rfl⟩ := hgo
            refine .inl ⟨hA.enter _ w, fun n => (callsIn_wide.2 (hA.hit _ _ _ w hcell ho hf)).mono ?_⟩
            rintro e w' ⟨rfl, xs, rfl⟩
            have p1 := Post.skips xs hs
            have p2 := Post.setCell (d := .cp c) (v := .pointer (some ⟨eb, eo, none⟩)) p1.sim hget hb hoff (h0'.mono p1.later) rfl
            exact ⟨_, ρ, Im, rfl, p1.trans p2, .v _⟩
          · split at hgo
            · rename_i hu
              subst hu
              split at hgo
              · rename_i ee n hc1
                split at hgo
                · rename_i hee
                  subst hee
                  simp only [Option.some.injEq, Prod.mk.injEq] at hgo
                  obtain ⟨rfl, rfl⟩ := hgo
                  have hlt : 1 < c.length := (List.getElem?_eq_some_iff.1 hc1).1
                  have hrel1 := hrc 1 _ hc1
                  have hcs1 : cs 1 = .iface ee (.int .i64 n) := by
                    generalize cs 1 = z at hrel1
                    cases hrel1 with
                    | ifc hh => rw [hh.v_inv]
                  have he := (hi 1 hlt).2.1
                  rw [hcs1] at he
                  refine .inl ⟨hA.enter _ w, fun n' => (callsIn_wide.2 (hA.unwrap _ _ n _ _ w he hcell ho hf)).mono ?_⟩
                  rintro e w' ⟨rfl, xs, rfl⟩
                  have p1 := Post.skips xs hs
                  have p2 := Post.setCell (d := .v (.int .i64 n)) (v := .int .i64 n) p1.sim hget hb hoff (.v _) rfl
                  exact ⟨_, ρ, Im, rfl, p1.trans p2, .v _⟩
                · cases hgo
              · cases hgo
            · cases hgo
        · cases hgo
      · cases hgo
    · cases hgo
  · cases hgo
end Go.Aug
