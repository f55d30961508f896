/-
All rows of the table are the program's. Conditions: none.
-/
import Derived.Test.YtmfhanoibbmnlaaGreatDoorTM0
import Derived.Test.YtmfhanoibbmnlaaGreatDoorGF
namespace Go.Proofs.YtmfhanoibbmnlaaGreatDoor.Tz
open Go.Aug
set_option maxRecDepth 100000
def rows : List (Nat × FI) := [(n_q5, F_q5), (n_q6, F_q6), (n_q1, F_q1), (n_q4, F_q4), (n_q59, F_q59), (n_q62, F_q62), (n_q58, F_q58), (n_q43, F_q43), (n_q22, F_q22), (n_q21, F_q21), (n_q2, F_q2), (n_q3, F_q3), (n_q64, F_q64), (n_q60, F_q60), (n_q88, F_q88), (n_q86, F_q86), (n_q61, F_q61), (n_q80, F_q80), (n_q65, F_q65), (n_q63, F_q63), (n_q81, F_q81), (n_q111, F_q111), (n_q76, F_q76), (n_q66, F_q66), (n_q42, F_q42), (n_q40, F_q40), (n_q23, F_q23), (n_q20, F_q20), (n_q13, F_q13), (n_q37, F_q37), (n_q0, F_q0), (n_q90, F_q90), (n_q85, F_q85), (n_q83, F_q83), (n_q114, F_q114), (n_q112, F_q112), (n_q117, F_q117), (n_q79, F_q79), (n_q92, F_q92), (n_q77, F_q77), (n_q55, F_q55), (n_q53, F_q53), (n_q54, F_q54), (n_q115, F_q115), (n_q109, F_q109), (n_q116, F_q116), (n_q110, F_q110), (n_q121, F_q121), (n_q120, F_q120), (n_q118, F_q118), (n_q87, F_q87), (n_q67, F_q67), (n_q9, F_q9), (n_q7, F_q7), (n_q11, F_q11), (n_q12, F_q12), (n_q15, F_q15), (n_q19, F_q19), (n_q14, F_q14), (n_q16, F_q16), (n_q17, F_q17), (n_q18, F_q18), (n_q32, F_q32), (n_q31, F_q31), (n_q38, F_q38), (n_q36, F_q36), (n_q35, F_q35), (n_q33, F_q33), (n_q26, F_q26), (n_q28, F_q28), (n_q72, F_q72), (n_q82, F_q82), (n_q84, F_q84), (n_q123, F_q123), (n_q119, F_q119), (n_q68, F_q68), (n_q69, F_q69), (n_q75, F_q75), (n_q78, F_q78), (n_q101, F_q101), (n_q44, F_q44), (n_q56, F_q56), (n_q57, F_q57), (n_q103, F_q103), (n_q113, F_q113), (n_q89, F_q89), (n_q10, F_q10), (n_q30, F_q30), (n_q27, F_q27), (n_q25, F_q25), (n_q34, F_q34), (n_q73, F_q73), (n_q122, F_q122), (n_q124, F_q124), (n_q47, F_q47), (n_q91, F_q91), (n_q97, F_q97), (n_q46, F_q46), (n_q104, F_q104), (n_q8, F_q8), (n_q39, F_q39), (n_q74, F_q74), (n_q126, F_q126), (n_q51, F_q51), (n_q41, F_q41), (n_q29, F_q29), (n_q125, F_q125), (n_q48, F_q48), (n_q52, F_q52), (n_q49, F_q49), (n_q70, F_q70), (n_q50, F_q50), (n_q71, F_q71)]
def findF : List (Nat × FI) → Nat → Option FI
  | [], _ => none
  | (k, f) :: l, n => cond (Nat.beq n k) (some f) (findF l n)
theorem findF_mem : ∀ (l : List (Nat × FI)) (n : Nat) (f : FI), findF l n = some f → (n, f) ∈ l
  | [], n, f, h => by simp [findF] at h
  | (k, g) :: l, n, f, h => by
    simp only [findF] at h
    cases hk : Nat.beq n k with
    | true =>
      rw [hk] at h
      simp only [cond_true, Option.some.injEq] at h
      rw [h, Nat.eq_of_beq_eq_true hk]
      exact List.mem_cons_self ..
    | false =>
      rw [hk] at h
      exact List.mem_cons_of_mem _ (findF_mem l n f h)
def OkRow (p : Nat × FI) : Prop := ∃ fn, Tryz.prog.funcs[p.1]? = some fn ∧ compFn Tryz.prog fn = some p.2
theorem rows_ok : ∀ p ∈ rows, OkRow p :=
  List.forall_mem_cons.2 ⟨⟨_, Tryz.func5, is_q5⟩,
  List.forall_mem_cons.2 ⟨⟨_, Tryz.func6, is_q6⟩,
  List.forall_mem_cons.2 ⟨⟨_, Tryz.func7, is_q1⟩,
  List.forall_mem_cons.2 ⟨⟨_, Tryz.func8, is_q4⟩,
  List.forall_mem_cons.2 ⟨⟨_, Tryz.func10, is_q59⟩,
  List.forall_mem_cons.2 ⟨⟨_, Tryz.func12, is_q62⟩,
  List.forall_mem_cons.2 ⟨⟨_, Tryz.func14, is_q58⟩,
  List.forall_mem_cons.2 ⟨⟨_, Tryz.func16, is_q43⟩,
  List.forall_mem_cons.2 ⟨⟨_, Tryz.func18, is_q22⟩,
  List.forall_mem_cons.2 ⟨⟨_, Tryz.func19, is_q21⟩,
  List.forall_mem_cons.2 ⟨⟨_, Tryz.func20, is_q2⟩,
  List.forall_mem_cons.2 ⟨⟨_, Tryz.func21, is_q3⟩,
  List.forall_mem_cons.2 ⟨⟨_, Tryz.func22, is_q64⟩,
  List.forall_mem_cons.2 ⟨⟨_, Tryz.func23, is_q60⟩,
  List.forall_mem_cons.2 ⟨⟨_, Tryz.func24, is_q88⟩,
  List.forall_mem_cons.2 ⟨⟨_, Tryz.func25, is_q86⟩,
  List.forall_mem_cons.2 ⟨⟨_, Tryz.func26, is_q61⟩,
  List.forall_mem_cons.2 ⟨⟨_, Tryz.func27, is_q80⟩,
  List.forall_mem_cons.2 ⟨⟨_, Tryz.func28, is_q65⟩,
  List.forall_mem_cons.2 ⟨⟨_, Tryz.func29, is_q63⟩,
  List.forall_mem_cons.2 ⟨⟨_, Tryz.func30, is_q81⟩,
  List.forall_mem_cons.2 ⟨⟨_, Tryz.func32, is_q111⟩,
  List.forall_mem_cons.2 ⟨⟨_, Tryz.func33, is_q76⟩,
  List.forall_mem_cons.2 ⟨⟨_, Tryz.func35, is_q66⟩,
  List.forall_mem_cons.2 ⟨⟨_, Tryz.func38, is_q42⟩,
  List.forall_mem_cons.2 ⟨⟨_, Tryz.func39, is_q40⟩,
  List.forall_mem_cons.2 ⟨⟨_, Tryz.func40, is_q23⟩,
  List.forall_mem_cons.2 ⟨⟨_, Tryz.func41, is_q20⟩,
  List.forall_mem_cons.2 ⟨⟨_, Tryz.func42, is_q13⟩,
  List.forall_mem_cons.2 ⟨⟨_, Tryz.func43, is_q37⟩,
  List.forall_mem_cons.2 ⟨⟨_, Tryz.func44, is_q0⟩,
  List.forall_mem_cons.2 ⟨⟨_, Tryz.func45, is_q90⟩,
  List.forall_mem_cons.2 ⟨⟨_, Tryz.func46, is_q85⟩,
  List.forall_mem_cons.2 ⟨⟨_, Tryz.func47, is_q83⟩,
  List.forall_mem_cons.2 ⟨⟨_, Tryz.func52, is_q114⟩,
  List.forall_mem_cons.2 ⟨⟨_, Tryz.func53, is_q112⟩,
  List.forall_mem_cons.2 ⟨⟨_, Tryz.func54, is_q117⟩,
  List.forall_mem_cons.2 ⟨⟨_, Tryz.func55, is_q79⟩,
  List.forall_mem_cons.2 ⟨⟨_, Tryz.func56, is_q92⟩,
  List.forall_mem_cons.2 ⟨⟨_, Tryz.func57, is_q77⟩,
  List.forall_mem_cons.2 ⟨⟨_, Tryz.func58, is_q55⟩,
  List.forall_mem_cons.2 ⟨⟨_, Tryz.func59, is_q53⟩,
  List.forall_mem_cons.2 ⟨⟨_, Tryz.func60, is_q54⟩,
  List.forall_mem_cons.2 ⟨⟨_, Tryz.func62, is_q115⟩,
  List.forall_mem_cons.2 ⟨⟨_, Tryz.func63, is_q109⟩,
  List.forall_mem_cons.2 ⟨⟨_, Tryz.func65, is_q116⟩,
  List.forall_mem_cons.2 ⟨⟨_, Tryz.func66, is_q110⟩,
  List.forall_mem_cons.2 ⟨⟨_, Tryz.func67, is_q121⟩,
  List.forall_mem_cons.2 ⟨⟨_, Tryz.func68, is_q120⟩,
  List.forall_mem_cons.2 ⟨⟨_, Tryz.func70, is_q118⟩,
  List.forall_mem_cons.2 ⟨⟨_, Tryz.func72, is_q87⟩,
  List.forall_mem_cons.2 ⟨⟨_, Tryz.func73, is_q67⟩,
  List.forall_mem_cons.2 ⟨⟨_, Tryz.func79, is_q9⟩,
  List.forall_mem_cons.2 ⟨⟨_, Tryz.func80, is_q7⟩,
  List.forall_mem_cons.2 ⟨⟨_, Tryz.func81, is_q11⟩,
  List.forall_mem_cons.2 ⟨⟨_, Tryz.func82, is_q12⟩,
  List.forall_mem_cons.2 ⟨⟨_, Tryz.func83, is_q15⟩,
  List.forall_mem_cons.2 ⟨⟨_, Tryz.func84, is_q19⟩,
  List.forall_mem_cons.2 ⟨⟨_, Tryz.func85, is_q14⟩,
  List.forall_mem_cons.2 ⟨⟨_, Tryz.func86, is_q16⟩,
  List.forall_mem_cons.2 ⟨⟨_, Tryz.func87, is_q17⟩,
  List.forall_mem_cons.2 ⟨⟨_, Tryz.func88, is_q18⟩,
  List.forall_mem_cons.2 ⟨⟨_, Tryz.func89, is_q32⟩,
  List.forall_mem_cons.2 ⟨⟨_, Tryz.func90, is_q31⟩,
  List.forall_mem_cons.2 ⟨⟨_, Tryz.func91, is_q38⟩,
  List.forall_mem_cons.2 ⟨⟨_, Tryz.func92, is_q36⟩,
  List.forall_mem_cons.2 ⟨⟨_, Tryz.func93, is_q35⟩,
  List.forall_mem_cons.2 ⟨⟨_, Tryz.func94, is_q33⟩,
  List.forall_mem_cons.2 ⟨⟨_, Tryz.func95, is_q26⟩,
  List.forall_mem_cons.2 ⟨⟨_, Tryz.func96, is_q28⟩,
  List.forall_mem_cons.2 ⟨⟨_, Tryz.func97, is_q72⟩,
  List.forall_mem_cons.2 ⟨⟨_, Tryz.func98, is_q82⟩,
  List.forall_mem_cons.2 ⟨⟨_, Tryz.func99, is_q84⟩,
  List.forall_mem_cons.2 ⟨⟨_, Tryz.func101, is_q123⟩,
  List.forall_mem_cons.2 ⟨⟨_, Tryz.func102, is_q119⟩,
  List.forall_mem_cons.2 ⟨⟨_, Tryz.func103, is_q68⟩,
  List.forall_mem_cons.2 ⟨⟨_, Tryz.func104, is_q69⟩,
  List.forall_mem_cons.2 ⟨⟨_, Tryz.func105, is_q75⟩,
  List.forall_mem_cons.2 ⟨⟨_, Tryz.func106, is_q78⟩,
  List.forall_mem_cons.2 ⟨⟨_, Tryz.func107, is_q101⟩,
  List.forall_mem_cons.2 ⟨⟨_, Tryz.func108, is_q44⟩,
  List.forall_mem_cons.2 ⟨⟨_, Tryz.func109, is_q56⟩,
  List.forall_mem_cons.2 ⟨⟨_, Tryz.func110, is_q57⟩,
  List.forall_mem_cons.2 ⟨⟨_, Tryz.func113, is_q103⟩,
  List.forall_mem_cons.2 ⟨⟨_, Tryz.func114, is_q113⟩,
  List.forall_mem_cons.2 ⟨⟨_, Tryz.func116, is_q89⟩,
  List.forall_mem_cons.2 ⟨⟨_, Tryz.func121, is_q10⟩,
  List.forall_mem_cons.2 ⟨⟨_, Tryz.func122, is_q30⟩,
  List.forall_mem_cons.2 ⟨⟨_, Tryz.func123, is_q27⟩,
  List.forall_mem_cons.2 ⟨⟨_, Tryz.func124, is_q25⟩,
  List.forall_mem_cons.2 ⟨⟨_, Tryz.func125, is_q34⟩,
  List.forall_mem_cons.2 ⟨⟨_, Tryz.func126, is_q73⟩,
  List.forall_mem_cons.2 ⟨⟨_, Tryz.func128, is_q122⟩,
  List.forall_mem_cons.2 ⟨⟨_, Tryz.func129, is_q124⟩,
  List.forall_mem_cons.2 ⟨⟨_, Tryz.func130, is_q47⟩,
  List.forall_mem_cons.2 ⟨⟨_, Tryz.func131, is_q91⟩,
  List.forall_mem_cons.2 ⟨⟨_, Tryz.func132, is_q97⟩,
  List.forall_mem_cons.2 ⟨⟨_, Tryz.func141, is_q46⟩,
  List.forall_mem_cons.2 ⟨⟨_, Tryz.func144, is_q104⟩,
  List.forall_mem_cons.2 ⟨⟨_, Tryz.func154, is_q8⟩,
  List.forall_mem_cons.2 ⟨⟨_, Tryz.func155, is_q39⟩,
  List.forall_mem_cons.2 ⟨⟨_, Tryz.func156, is_q74⟩,
  List.forall_mem_cons.2 ⟨⟨_, Tryz.func158, is_q126⟩,
  List.forall_mem_cons.2 ⟨⟨_, Tryz.func159, is_q51⟩,
  List.forall_mem_cons.2 ⟨⟨_, Tryz.func174, is_q41⟩,
  List.forall_mem_cons.2 ⟨⟨_, Tryz.func175, is_q29⟩,
  List.forall_mem_cons.2 ⟨⟨_, Tryz.func177, is_q125⟩,
  List.forall_mem_cons.2 ⟨⟨_, Tryz.func178, is_q48⟩,
  List.forall_mem_cons.2 ⟨⟨_, Tryz.func179, is_q52⟩,
  List.forall_mem_cons.2 ⟨⟨_, Tryz.func180, is_q49⟩,
  List.forall_mem_cons.2 ⟨⟨_, Tryz.func182, is_q70⟩,
  List.forall_mem_cons.2 ⟨⟨_, Tryz.func190, is_q50⟩,
  List.forall_mem_cons.2 ⟨⟨_, Tryz.func193, is_q71⟩,
  fun _ h => nomatch h⟩⟩⟩⟩⟩⟩⟩⟩⟩⟩⟩⟩⟩⟩⟩⟩⟩⟩⟩⟩⟩⟩⟩⟩⟩⟩⟩⟩⟩⟩⟩⟩⟩⟩⟩⟩⟩⟩⟩⟩⟩⟩⟩⟩⟩⟩⟩⟩⟩⟩⟩⟩⟩⟩⟩⟩⟩⟩⟩⟩⟩⟩⟩⟩⟩⟩⟩⟩⟩⟩⟩⟩⟩⟩⟩⟩⟩⟩⟩⟩⟩⟩⟩⟩⟩⟩⟩⟩⟩⟩⟩⟩⟩⟩⟩⟩⟩⟩⟩⟩⟩⟩⟩⟩⟩⟩⟩⟩⟩⟩⟩⟩⟩
end Go.Proofs.YtmfhanoibbmnlaaGreatDoor.Tz

namespace Go.Aug
open Go.RowKit
variable {P : Program} {ρ : Ren} {Im : Nat → Prop} {H : Heap} {w w' : World}
def allocs (w : World) (xs : List Obj) : World := xs.foldl World.alloc w
theorem Post.setCell {r b off : Nat} {l : List D} {d : D} {v : Value} (h : Sim P ρ Im H w) (hg : H.get r = some (.cells l)) (hb : ρ r = some b) (ho : off < l.length) (hd : Rel ρ Im w d v) (h1 : v.oneCell' = true) :
    Post P ρ Im H w ρ Im (H.set r (.cells (l.set off d))) (w.setCell ⟨b, off, none⟩ v) := by
  obtain ⟨cs, te, hblk, hl, hone, hr⟩ := h.cells hg hb
  have hheap : (w.setCell ⟨b, off, none⟩ v).heap[b]? = some (.cells (cs.setIfInBounds off v) te (0, 0)) := by
    simp [World.setCell, Array.getElem?_modify, hblk]
  have hgv : ∀ i, gv (cs.setIfInBounds off v) i = if i = off then v else gv cs i := by
    intro i
    unfold gv
    by_cases hi : i = off
    · subst hi
      simp [Array.getElem?_setIfInBounds_self_of_lt (show i < cs.size by omega)]
    · rw [Array.getElem?_setIfInBounds_ne (fun e => hi e.symm)]
      simp [hi]
  refine Post.set h hg hb (x := .cells (cs.setIfInBounds off v) te (0, 0)) (.cells (by simp; omega) (fun i hi => ?_) (fun i d' hd' => ?_)) hheap (fun k hk => ?_) (by simp [World.setCell]) (fun cs0 e0 f0 h0 => ?_) ⟨rfl, rfl, rfl⟩
  · rw [hgv]
    split
    · exact h1
    · exact hone i (by simpa using hi)
  · rw [hgv]
    by_cases hi : i = off
    · subst hi
      rw [List.getElem?_set_self ho] at hd'
      cases hd'
      rw [if_pos rfl]
      exact hd
    · rw [List.getElem?_set_ne (fun e => hi e.symm)] at hd'
      rw [if_neg hi]
      exact hr i d' hd'
  · simp [World.setCell, Array.getElem?_modify, Ne.symm hk]
  · rw [hblk] at h0
    cases h0
    exact ⟨_, _, rfl, by simp⟩
structure AsOk (P : Program) (f g : Nat) (V : Value) (tW tPW tPE tE : TypeId) : Prop where
  enter : ∀ args W, (callFunc f args).run P W = .ok (.enter f args) W
  nil : ∀ (t : Value) (W : World), Calls P f #[.nilIface, t] W fun e w' => e = .returned (.bool false) ∧ w' = W
  hit : ∀ (e t : Addr) (old : Value) (W : World), W.cell? ⟨g, 0, none⟩ = some V → W.cell? t = some old → W.frozen? t = false →
    Calls P f #[.iface tW (.pointer (some e)), .iface tPW (.pointer (some t))] W fun ev w' => ev = .returned (.bool true) ∧ ∃ xs, w' = (allocs W xs).setCell t (.pointer (some e))
  unwrap : ∀ (eb eo : Nat) (n : Int) (t : Addr) (old : Value) (W : World), W.cell? ⟨eb, eo + 1, none⟩ = some (.iface tE (.int .i64 n)) → W.cell? ⟨g, 0, none⟩ = some V → W.cell? t = some old → W.frozen? t = false →
    Calls P f #[.iface tW (.pointer (some ⟨eb, eo, none⟩)), .iface tPE (.pointer (some t))] W fun ev w' => ev = .returned (.bool true) ∧ ∃ xs, w' = (allocs W xs).setCell t (.int .i64 n)
end Go.Aug
