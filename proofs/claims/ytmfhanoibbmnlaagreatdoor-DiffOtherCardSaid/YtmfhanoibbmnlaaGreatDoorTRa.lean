/-
From what a row of this seat gives of the library's two variables to what the evaluator asks. Conditions: none.
-/
import Derived.Test.YtmfhanoibbmnlaaGreatDoorTPw
import Derived.ProofKit
import Derived.OpenShut
import Derived.ShutString
import Derived.ChangeOld
import Derived.Carry
import Derived.SizedLaws
import Derived.HandedShaped
import Derived.Shelf.Vars
import Derived.LaidLaws
import Derived.LaidHandle
import Derived.Stop.Joined
import Derived.LaidSub
import Derived.MakeChecks
namespace Go.Proofs.YtmfhanoibbmnlaaGreatDoor
open Go.ChangeShapes Go.WideShapes Go.ChangeAt Go.RowKit Go.Aug
theorem returnsInHanded_both {H : Type} {enc : TypeId × Value → H} {a : Assume} {C : Checked} {os : Os} {f : FuncId} {fn : Func} {s : ChangeSpec} {conds : List PathCond} {apart fresh handsOn again : Bool} {X : World → Array Value → Prop}
    (hX : ∀ (w w' : World) (args : Array Value), w.heap = w'.heap → X w args → X w' args)
    (own : ownKnob C.prog.godebug = none) (started : os.Started) (noInit : C.prog.inits.idxOf? f = none) (hfn : C.prog.funcs[f]? = some fn)
    (witness : ∃ (w : World) (tape : Tape) (i : Input), w.os = os ∧ (w.forCall tape i).Shaped C.prog ∧ i.vars = [] ∧ Input.okWide C.prog (w.forCall tape i) .any w.heap.size f i ∧
      ((s.pre enc C.prog fn conds apart (w.forCall tape i).memory i.args ∧ X (w.forCall tape i).memory i.args) ∧ sizedMet enc C.prog fn (OpenSpec.ofChange s) apart (w.forCall tape i).memory i.args) ∧ a.holds C.prog (lone (Frame.enter C.prog f i.args .normal) [] (w.forCall tape i)))
    (contract : ∀ (W : World) (base : Nat) (args : Array Value) (ds gs : List (DataW H)) (before : List MemPlace),
      (∀ (j : Nat) t v, fn.params[j]? = some t → args[j]? = some v → Value.okWide C.prog W .any base t v) →
      DataW.Whole enc C.prog fn.params.toList s.vars apart W args.toList ds gs before →
      W.ShapedOpen C.prog → X W args →
      Calls C.prog f args W fun e W' => ∃ v, e = .returned v ∧ s.post enc C.prog fn apart fresh handsOn again W args v W') :
    ReturnsInHanded a C os f .any (fun w args => (s.pre enc C.prog fn conds apart w args ∧ X w args) ∧ sizedMet enc C.prog fn (OpenSpec.ofChange s) apart w args) (s.post enc C.prog fn apart fresh handsOn again) := by
  refine returnsInHanded_of_calls own started noInit witness ?_
  intro w tape i _ hsh _ hok hpre _
  obtain ⟨_, _, _, fn', hfn', _, _, _, _, hval⟩ := hok
  have e : fn' = fn := Option.some.inj (hfn'.symm.trans hfn)
  subst e
  obtain ⟨⟨⟨ds, gs, before, hw, _⟩, hx⟩, _⟩ := hpre
  have hw' := DataW.Whole.of_heap (w' := w.forCall tape i) (by rfl) hw
  refine (contract (w.forCall tape i) w.heap.size i.args ds gs before hval hw' hsh (hX _ _ _ (by rfl) hx)).mono fun e W' ⟨v, he, hp⟩ => ?_
  subst he
  exact ChangeSpec.post_blind hp
theorem cell_heap {w : World} {g : Nat} {v : Value} (h : w.cell? ⟨g, 0, none⟩ = some v) : ∃ (cs : Array Value) (e : TypeId) (f : Nat × Nat), w.heap[g]? = some (.cells cs e f) ∧ cs[0]? = some v := by
  unfold World.cell? at h
  split at h
  · rename_i c e f hh
    exact ⟨c, e, f, hh, by simpa using h⟩
  · cases h
abbrev laidL : List (String × DataW Unit) := [("math/bits.deBruijn32tab", Rows.laid_math_bits_deBruijn32tab), ("math/bits.deBruijn64tab", Rows.laid_math_bits_deBruijn64tab), ("internal/strconv.uint64pow10", Rows.laid_internal_strconv_uint64pow10)]
theorem gsize : Tryz.prog.globals.size = 4 := by kernel_rfl
theorem gname0 : (Tryz.prog.globals[0]?).map (·.name) = some "internal/strconv.uint64pow10" := by kernel_rfl
theorem gname1 : (Tryz.prog.globals[1]?).map (·.name) = some "internal/bytealg.MaxLen" := by kernel_rfl
theorem gname2 : (Tryz.prog.globals[2]?).map (·.name) = some "math/bits.deBruijn32tab" := by kernel_rfl
theorem gname3 : (Tryz.prog.globals[3]?).map (·.name) = some "math/bits.deBruijn64tab" := by kernel_rfl
theorem need2 : globNeed Tryz.prog "math/bits.deBruijn32tab" = false := by kernel_rfl
theorem need3 : globNeed Tryz.prog "math/bits.deBruijn64tab" = false := by kernel_rfl
theorem powId : Tryz.prog.globalNamed "internal/strconv.uint64pow10" = some 0 := by kernel_rfl
theorem powType : (Tryz.prog.globals[0]?).map (·.type) = some 205 := by kernel_rfl
theorem mlRow : ((begin Tryz.prog (fun _ _ => 0) default).world.heap[1]?).bind Obj.row? = some (#[.int .i64 0], 3) := by kernel_rfl
theorem pow_of {W : World} (hL : laidMetH Tryz.prog laidL W) : Lib.TabIs Tryz.prog W "internal/strconv.uint64pow10" .u64 Lib.pow10Tab := by
  rw [Go.MakeChecks.laidMetH_plain _ _ _ (by kernel_rfl)] at hL
  have h : laidMet Tryz.prog [("internal/strconv.uint64pow10", Lib.tabData .u64 Lib.pow10Tab)] W := laidMet.filter (fun x => x.1 == "internal/strconv.uint64pow10") hL
  exact Lib.tabIs_of_head powId powType Tryz.underlying205 Tryz.underlying185 (by kernel_rfl) (by kernel_rfl) h
theorem globOk_of {W : World} (hsh : W.ShapedOpen Tryz.prog) (hL : laidMetH Tryz.prog laidL W) : GlobOk Tryz.prog (fun b => b < W.heap.size) W := by
  intro g gl hg hn
  have hlt : g < 4 := by
    rw [← gsize]
    exact (Array.getElem?_eq_some_iff.1 hg).1
  have name : ∀ {s : String}, (Tryz.prog.globals[g]?).map (·.name) = some s → gl.name = s := fun h => by
    rw [hg] at h
    exact Option.some.inj h
  have hin : ∀ {v : Value}, W.cell? ⟨g, 0, none⟩ = some v → g < W.heap.size ∧ ∃ (cs : Array Value) (e : TypeId) (f : Nat × Nat), W.heap[g]? = some (.cells cs e f) ∧ cs[0]? = some v := fun h => by
    obtain ⟨cs, e, f, h1, h2⟩ := cell_heap h
    exact ⟨(Array.getElem?_eq_some_iff.1 h1).1, cs, e, f, h1, h2⟩
  have hg4 : g = 0 ∨ g = 1 ∨ g = 2 ∨ g = 3 := by omega
  rcases hg4 with rfl | rfl | rfl | rfl
  · have ht := pow_of hL
    unfold Lib.TabIs World.var? at ht
    rw [powId] at ht
    simp only [Option.bind_some] at ht
    split at ht
    · rename_i cs e f hh
      refine ⟨(Array.getElem?_eq_some_iff.1 hh).1, cs, e, f, hh, ?_⟩
      rw [name gname0, if_neg (by decide), if_pos rfl]
      exact Option.some.inj ht
    · cases ht
  · obtain ⟨m, hm⟩ := Go.Proofs.cell_of_shapedOpen_int hsh (g := 1) (by rw [gsize]; decide) mlRow (by rfl) (by kernel_rfl) (by kernel_rfl) Tryz.underlying3
    obtain ⟨hlt, cs, e, f, h1, h2⟩ := hin hm
    refine ⟨hlt, cs, e, f, h1, ?_⟩
    rw [name gname1, if_pos rfl]
    exact ⟨m, h2⟩
  · rw [name gname2, need2] at hn; cases hn
  · rw [name gname3, need3] at hn; cases hn
def litsOf : DataW Unit → List Value
  | .agg l => l.map fun | .lit (.int k z) => .int k z | _ => .int .i64 0
  | _ => []
noncomputable def laidWorld (os : Os) : World :=
  let w0 := World.holding Tryz.prog os ⟨#[], #[], []⟩
  let put (h : Array Obj) (g : Nat) (cs : Array Value) : Array Obj := h.modify g fun
    | .cells _ t frozen => .cells cs t frozen
    | o => o
  let h1 := put w0.heap 0 (litsOf Rows.laid_internal_strconv_uint64pow10).toArray
  let h2 := put h1 2 (litsOf Rows.laid_math_bits_deBruijn32tab).toArray
  let h3 := put h2 3 (litsOf Rows.laid_math_bits_deBruijn64tab).toArray
  { w0 with heap := h3 }
theorem laidWorld_met (os : Os) (args : Array Value) : laidMetH Tryz.prog laidL ((laidWorld os).forCall (fun _ _ => 0) ⟨#[], args, []⟩).memory := by
  rw [Go.MakeChecks.laidMetH_plain _ _ _ (by kernel_rfl)]
  exact laidMet_of_run' 8 (by kernel_rfl) (by kernel_rfl)
end Go.Proofs.YtmfhanoibbmnlaaGreatDoor
