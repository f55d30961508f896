/-
From what a row of this seat gives of the library's two variables to what the evaluator asks. Conditions: none.
-/
import Derived.Test.YtnpoicmaiieanaaGreatDoorRows
import Derived.Test.YtnpoicmaiieanaaGreatDoorTX2
import Derived.WalkKit
import Derived.ProofKit
import Derived.OpenShut
import Derived.ShutString
import Derived.ChangeOld
import Derived.Below
import Derived.Carry
import Derived.SizedLaws
import Derived.HandedShaped
import Derived.Shelf.Vars
import Derived.LaidLaws
import Derived.LaidHandle
import Derived.Stop.Joined
namespace Go.Proofs.YtnpoicmaiieanaaGreatDoor
open Go.ChangeShapes Go.WideShapes Go.ChangeAt Go.RowKit Go.Aug

theorem returnsInHanded_both {H : Type} {enc : TypeId × Value → H} {a : Assume} {C : Checked} {os : Os} {f : FuncId} {fn : Func} {s : ChangeSpec} {conds : List PathCond} {apart fresh handsOn again : Bool} {X : World → Array Value → Prop}
    (hX : ∀ (w w' : World) (args : Array Value), w.heap = w'.heap → X w args → X w' args)
    (own : ownKnob C.prog.godebug = none) (started : os.Started) (noInit : C.prog.inits.idxOf? f = none) (hfn : C.prog.funcs[f]? = some fn)
    (witness : ∃ (w : World) (tape : Tape) (i : Input), w.os = os ∧ (w.forCall tape i).Shaped C.prog ∧ i.vars = [] ∧ Input.okWide C.prog (w.forCall tape i) .any w.heap.size f i ∧
      ((s.pre enc C.prog fn conds apart (w.forCall tape i).memory i.args ∧ X (w.forCall tape i).memory i.args) ∧ sizedMet enc C.prog fn (OpenSpec.ofChange s) apart (w.forCall tape i).memory i.args) ∧ a.holds C.prog (lone (Frame.enter C.prog f i.args .normal) [] (w.forCall tape i)))
    (contract : ∀ (W : World) (base : Nat) (args : Array Value) (ds gs : List (DataW H)) (before : List MemPlace),
      (∀ (j : Nat) t v, fn.params[j]? = some t → args[j]? = some v → Value.okWide C.prog W .any base t v) →
      DataW.Whole enc C.prog fn.params.toList s.vars apart W args.toList ds gs before →
      W.ShapedOpen C.prog → X W args →
      Calls C.prog f args W fun e W' => ∃ v, e = .returned v ∧ s.post enc C.prog fn apart fresh handsOn again W args v W') :
    ReturnsInHanded a C os f .any (fun w args => (s.pre enc C.prog fn conds apart w args ∧ X w args) ∧ sizedMet enc C.prog fn (OpenSpec.ofChange s) apart w args) (s.post enc C.prog fn apart fresh handsOn again) := by
  refine returnsInHanded_of_calls own started noInit witness ?_
  intro w tape i _ hsh _ hok hpre _
  obtain ⟨_, _, _, fn', hfn', _, _, _, _, hval⟩ := hok
  have e : fn' = fn := Option.some.inj (hfn'.symm.trans hfn)
  subst e
  obtain ⟨⟨⟨ds, gs, before, hw, _⟩, hx⟩, _⟩ := hpre
  have hw' := DataW.Whole.of_heap (w' := w.forCall tape i) (by rfl) hw
  refine (contract (w.forCall tape i) w.heap.size i.args ds gs before hval hw' hsh (hX _ _ _ (by rfl) hx)).mono fun e W' ⟨v, he, hp⟩ => ?_
  subst he
  exact ChangeSpec.post_blind hp

theorem cell_heap {w : World} {g : Nat} {v : Value} (h : w.cell? ⟨g, 0, none⟩ = some v) : ∃ (cs : Array Value) (e : TypeId) (f : Nat × Nat), w.heap[g]? = some (.cells cs e f) ∧ cs[0]? = some v := by
  unfold World.cell? at h
  split at h
  · rename_i c e f hh
    exact ⟨c, e, f, hh, by simpa using h⟩
  · cases h

abbrev laidL : List (String × DataW Unit) := [("errors.errorType", Rows.laid_errors_errorType)]
theorem gsize : Tryz.prog.globals.size = 2 := by kernel_rfl
theorem gname0 : (Tryz.prog.globals[0]?).map (·.name) = some "errors.errorType" := by kernel_rfl
theorem gname1 : (Tryz.prog.globals[1]?).map (·.name) = some "internal/bytealg.MaxLen" := by kernel_rfl
theorem etId : Tryz.prog.globalNamed "errors.errorType" = some 0 := by kernel_rfl

theorem rtId : (Tryz.prog.cutTypes.find? (·.1 == "internal/reflectlite.rtype")).isSome = true := by kernel_rfl
theorem mlRow : ((begin Tryz.prog (fun _ _ => 0) default).world.heap[1]?).bind Obj.row? = some (#[.int .i64 0], 3) := by kernel_rfl

/-- What a row gives of the library's two variables. -/
theorem globOk_of {W : World} (hsh : W.ShapedOpen Tryz.prog) (hL : laidMetH Tryz.prog laidL W) : GlobOk Tryz.prog (fun b => b < W.heap.size) W := by
  intro g gl hg hn
  have hlt : g < 2 := by
    rw [← gsize]
    exact (Array.getElem?_eq_some_iff.1 hg).1
  have hin : ∀ {v : Value}, W.cell? ⟨g, 0, none⟩ = some v → g < W.heap.size ∧ ∃ (cs : Array Value) (e : TypeId) (f : Nat × Nat), W.heap[g]? = some (.cells cs e f) ∧ cs[0]? = some v := fun h => by
    obtain ⟨cs, e, f, h1, h2⟩ := cell_heap h
    exact ⟨(Array.getElem?_eq_some_iff.1 h1).1, cs, e, f, h1, h2⟩
  match g, hlt with
  | 0, _ =>
    have hname : gl.name = "errors.errorType" := by
      have := gname0
      rw [hg] at this
      exact Option.some.inj this
    have h' : laidMet Tryz.prog [] W ∧ handlesMet Tryz.prog laidL W := hL
    obtain ⟨name, u, ty, e1, e2, e3, e4, e5⟩ := h'.2 _ (List.mem_singleton.2 rfl)
    have en : name = [101, 114, 114, 111, 114] := (Option.some.inj e1).symm
    subst en
    have hc : W.cell? ⟨0, 0, none⟩ = some (.iface u (.agg #[typeHandle Tryz.prog ty])) := by simpa using World.var?_cell etId e5 0
    obtain ⟨hlt, cs, e, f, h1, h2⟩ := hin hc
    refine ⟨hlt, cs, e, f, h1, ?_⟩
    rw [hname, if_neg (by decide)]
    exact ⟨u, ty, e2, e3, e4, h2⟩
  | 1, _ =>
    have hname : gl.name = "internal/bytealg.MaxLen" := by
      have := gname1
      rw [hg] at this
      exact Option.some.inj this
    obtain ⟨m, hm⟩ := Go.Proofs.cell_of_shapedOpen_int hsh (g := 1) (by rw [gsize]; decide) mlRow (by rfl) (by kernel_rfl) (by kernel_rfl) Tryz.underlying3
    obtain ⟨hlt, cs, e, f, h1, h2⟩ := hin hm
    refine ⟨hlt, cs, e, f, h1, ?_⟩
    rw [hname, if_pos rfl]
    exact ⟨m, h2⟩

/-- A world that meets the condition: the settled one, the variable's cell laid. -/
noncomputable def laidWorld (os : Os) : World :=
  let w0 := World.holding Tryz.prog os ⟨#[], #[], []⟩
  { w0 with heap := w0.heap.modify 0 fun
      | .cells _ t frozen => .cells #[.iface 121 (.agg #[typeHandle Tryz.prog 62])] t frozen
      | o => o }
theorem laidWorld_met (os : Os) (args : Array Value) : laidMetH Tryz.prog laidL ((laidWorld os).forCall (fun _ _ => 0) ⟨#[], args, []⟩).memory :=
  laidMetH_of_parts (laidMet_nil _ _) (by kernel_rfl)

end Go.Proofs.YtnpoicmaiieanaaGreatDoor
