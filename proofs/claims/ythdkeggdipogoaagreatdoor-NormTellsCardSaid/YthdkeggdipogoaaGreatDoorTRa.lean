/-
From what a row of this seat gives of the library's two variables to what the evaluator asks. Conditions: none.
-/
import Derived.ProofKit
import Derived.OpenShut
import Derived.ShutString
import Derived.ChangeOld
import Derived.Carry
import Derived.SizedLaws
import Derived.HandedShaped
import Derived.Shelf.Vars
import Derived.LaidLaws
import Derived.LaidHandle
import Derived.Stop.Joined
import Derived.LaidSub
import Derived.MakeChecks
import Derived.Test.YthdkeggdipogoaaGreatDoorTVj
namespace Go.Proofs.YthdkeggdipogoaaGreatDoor
open Go.ChangeShapes Go.WideShapes Go.ChangeAt Go.RowKit Go.Aug
theorem cell_heap {w : World} {g : Nat} {v : Value} (h : w.cell? ⟨g, 0, none⟩ = some v) : ∃ (cs : Array Value) (e : TypeId) (f : Nat × Nat), w.heap[g]? = some (.cells cs e f) ∧ cs[0]? = some v := by
  unfold World.cell? at h
  split at h
  · rename_i c e f hh
    exact ⟨c, e, f, hh, by simpa using h⟩
  · cases h
abbrev laidL : List (String × DataW Unit) := [("math/bits.deBruijn32tab", Rows.laid_math_bits_deBruijn32tab), ("math/bits.deBruijn64tab", Rows.laid_math_bits_deBruijn64tab), ("internal/strconv.uint64pow10", Rows.laid_internal_strconv_uint64pow10)]
theorem gsize : Tryz.prog.globals.size = 5 := by kernel_rfl
theorem gname0 : (Tryz.prog.globals[0]?).map (·.name) = some "errors.errorType" := by kernel_rfl
theorem gname1 : (Tryz.prog.globals[1]?).map (·.name) = some "internal/bytealg.MaxLen" := by kernel_rfl
theorem gname2 : (Tryz.prog.globals[2]?).map (·.name) = some "internal/strconv.uint64pow10" := by kernel_rfl
theorem gname3 : (Tryz.prog.globals[3]?).map (·.name) = some "math/bits.deBruijn32tab" := by kernel_rfl
theorem gname4 : (Tryz.prog.globals[4]?).map (·.name) = some "math/bits.deBruijn64tab" := by kernel_rfl
theorem need0 : globNeed Tryz.prog "errors.errorType" = false := by kernel_rfl
theorem need3 : globNeed Tryz.prog "math/bits.deBruijn32tab" = false := by kernel_rfl
theorem need4 : globNeed Tryz.prog "math/bits.deBruijn64tab" = false := by kernel_rfl
theorem powId : Tryz.prog.globalNamed "internal/strconv.uint64pow10" = some 2 := by kernel_rfl
theorem powType : (Tryz.prog.globals[2]?).map (·.type) = some 274 := by kernel_rfl
theorem mlRow : ((begin Tryz.prog (fun _ _ => 0) default).world.heap[1]?).bind Obj.row? = some (#[.int .i64 0], 3) := by kernel_rfl
theorem pow_of {W : World} (hL : laidMetH Tryz.prog laidL W) : Lib.TabIs Tryz.prog W "internal/strconv.uint64pow10" .u64 Lib.pow10Tab := by
  rw [Go.MakeChecks.laidMetH_plain _ _ _ (by kernel_rfl)] at hL
  have h : laidMet Tryz.prog [("internal/strconv.uint64pow10", Lib.tabData .u64 Lib.pow10Tab)] W := laidMet.filter (fun x => x.1 == "internal/strconv.uint64pow10") hL
  exact Lib.tabIs_of_head powId powType Tryz.underlying274 Tryz.underlying206 (by kernel_rfl) (by kernel_rfl) h
theorem globOk_of {W : World} (hsh : W.ShapedOpen Tryz.prog) (hL : laidMetH Tryz.prog laidL W) : GlobOk Tryz.prog (fun b => b < W.heap.size) W := by
  intro g gl hg hn
  have hlt : g < 5 := by
    rw [← gsize]
    exact (Array.getElem?_eq_some_iff.1 hg).1
  have name : ∀ {s : String}, (Tryz.prog.globals[g]?).map (·.name) = some s → gl.name = s := fun h => by
    rw [hg] at h
    exact Option.some.inj h
  have hin : ∀ {v : Value}, W.cell? ⟨g, 0, none⟩ = some v → g < W.heap.size ∧ ∃ (cs : Array Value) (e : TypeId) (f : Nat × Nat), W.heap[g]? = some (.cells cs e f) ∧ cs[0]? = some v := fun h => by
    obtain ⟨cs, e, f, h1, h2⟩ := cell_heap h
    exact ⟨(Array.getElem?_eq_some_iff.1 h1).1, cs, e, f, h1, h2⟩
  have hg5 : g = 0 ∨ g = 1 ∨ g = 2 ∨ g = 3 ∨ g = 4 := by omega
  rcases hg5 with rfl | rfl | rfl | rfl | rfl
  · rw [name gname0, need0] at hn; cases hn
  · obtain ⟨m, hm⟩ := Go.Proofs.cell_of_shapedOpen_int hsh (g := 1) (by rw [gsize]; decide) mlRow (by rfl) (by kernel_rfl) (by kernel_rfl) Tryz.underlying3
    obtain ⟨hlt, cs, e, f, h1, h2⟩ := hin hm
    refine ⟨hlt, cs, e, f, h1, ?_⟩
    rw [name gname1, if_pos rfl]
    exact ⟨m, h2⟩
  · have ht := pow_of hL
    unfold Lib.TabIs World.var? at ht
    rw [powId] at ht
    simp only [Option.bind_some] at ht
    split at ht
    · rename_i cs e f hh
      refine ⟨(Array.getElem?_eq_some_iff.1 hh).1, cs, e, f, hh, ?_⟩
      rw [name gname2, if_neg (by decide), if_pos rfl]
      exact Option.some.inj ht
    · cases ht
  · rw [name gname3, need3] at hn; cases hn
  · rw [name gname4, need4] at hn; cases hn
def litsOf : DataW Unit → List Value
  | .agg l => l.map fun | .lit (.int k z) => .int k z | _ => .int .i64 0
  | _ => []
noncomputable def laidWorld (os : Os) : World :=
  let w0 := World.holding Tryz.prog os ⟨#[], #[], []⟩
  let put (h : Array Obj) (g : Nat) (cs : Array Value) : Array Obj := h.modify g fun
    | .cells _ t frozen => .cells cs t frozen
    | o => o
  let h1 := put w0.heap 2 (litsOf Rows.laid_internal_strconv_uint64pow10).toArray
  let h2 := put h1 3 (litsOf Rows.laid_math_bits_deBruijn32tab).toArray
  let h3 := put h2 4 (litsOf Rows.laid_math_bits_deBruijn64tab).toArray
  { w0 with heap := h3 }
theorem laidWorld_met (os : Os) (args : Array Value) : laidMetH Tryz.prog laidL ((laidWorld os).forCall (fun _ _ => 0) ⟨#[], args, []⟩).memory := by
  rw [Go.MakeChecks.laidMetH_plain _ _ _ (by kernel_rfl)]
  exact laidMet_of_run' 8 (by kernel_rfl) (by kernel_rfl)
end Go.Proofs.YthdkeggdipogoaaGreatDoor

namespace Go.Proofs.YthdkeggdipogoaaGreatDoor
open Go.ChangeShapes Go.WideShapes Go.ChangeAt Go.RowKit Go.Aug Go.Aug.Api
theorem returnsInHanded_sized {H : Type} {enc : TypeId × Value → H} {a : Assume} {C : Checked} {os : Os} {f : FuncId} {fn : Func} {s : ChangeSpec} {conds : List PathCond} {apart fresh handsOn again : Bool} {X : World → Array Value → Prop}
    (hX : ∀ (w w' : World) (args : Array Value), w.heap = w'.heap → X w args → X w' args)
    (own : ownKnob C.prog.godebug = none) (started : os.Started) (noInit : C.prog.inits.idxOf? f = none) (hfn : C.prog.funcs[f]? = some fn)
    (witness : ∃ (w : World) (tape : Tape) (i : Input), w.os = os ∧ (w.forCall tape i).Shaped C.prog ∧ i.vars = [] ∧ Input.okWide C.prog (w.forCall tape i) .any w.heap.size f i ∧
      ((s.pre enc C.prog fn conds apart (w.forCall tape i).memory i.args ∧ X (w.forCall tape i).memory i.args) ∧ sizedMet enc C.prog fn (OpenSpec.ofChange s) apart (w.forCall tape i).memory i.args) ∧ a.holds C.prog (lone (Frame.enter C.prog f i.args .normal) [] (w.forCall tape i)))
    (contract : ∀ (W : World) (base : Nat) (args : Array Value) (ds gs : List (DataW H)) (before : List MemPlace),
      (∀ (j : Nat) t v, fn.params[j]? = some t → args[j]? = some v → Value.okWide C.prog W .any base t v) →
      DataW.Whole enc C.prog fn.params.toList s.vars apart W args.toList ds gs before →
      (DataW.weightsEach C.prog (fn.params.toList ++ s.plain.varTypes C.prog) (ds ++ gs)).all (· ≤ reachBytes) = true →
      W.ShapedOpen C.prog → X W args →
      Calls C.prog f args W fun e W' => ∃ v, e = .returned v ∧ s.post enc C.prog fn apart fresh handsOn again W args v W') :
    ReturnsInHanded a C os f .any (fun w args => (s.pre enc C.prog fn conds apart w args ∧ X w args) ∧ sizedMet enc C.prog fn (OpenSpec.ofChange s) apart w args) (s.post enc C.prog fn apart fresh handsOn again) := by
  refine returnsInHanded_of_calls own started noInit witness ?_
  intro w tape i _ hsh _ hok hpre _
  obtain ⟨_, _, _, fn', hfn', _, _, _, _, hval⟩ := hok
  have e : fn' = fn := Option.some.inj (hfn'.symm.trans hfn)
  subst e
  obtain ⟨⟨⟨ds, gs, before, hw, _⟩, hx⟩, hz⟩ := hpre
  have hw' := DataW.Whole.of_heap (w' := w.forCall tape i) (by rfl) hw
  refine (contract (w.forCall tape i) w.heap.size i.args ds gs before hval hw' (hz.weights hw) hsh (hX _ _ _ (by rfl) hx)).mono fun e W' ⟨v, he, hp⟩ => ?_
  subst he
  exact ChangeSpec.post_blind hp
theorem rel_slD {W : World} {rep : Option (Option Nat)} {n : Nat} {l : List D} {v : Value} (h : relIn W (slD rep n l) v) : ∃ a c, v = .slice a n c := by
  have key : ∀ {n : Nat} {cap : Option Nat}, relIn W (.sl n l cap) v → ∃ a c, v = .slice a n c := fun h => by
    cases h with
    | sl => exact ⟨_, _, rfl⟩
    | sz => exact ⟨_, _, rfl⟩
  cases rep with
  | some cap => exact key h
  | none =>
    cases n with
    | zero => exact ⟨none, 0, h.v_inv⟩
    | succ n => exact key h
theorem slice_small {H : Type} {enc : TypeId × Value → H} {P : Program} {W : World} {base : Nat} {sp : Nat → Bool} {held : Bool} {fuel : Nat} {t e : TypeId} {a : Option Addr} {n c : Nat} {x : DataW H × List MemPlace} (hu : P.underlying t = some (.slice e)) (hb : 1 ≤ P.bytesOf e)
    (h : DataW.trod enc P W base sp held fuel t [.slice a n c] = some x) (hw : (x.1.weights P t).all (· ≤ reachBytes) = true) : n ≤ reachBytes := by
  rcases DataW.trod_slice hu h with ⟨h1, -⟩ | ⟨a', len, cap, elems, rest, m, -, h1, rfl, -, -, -, hlen, -⟩
  · simp at h1
    omega
  · simp at h1
    obtain ⟨-, rfl, -⟩ := h1
    simp only [DataW.weights, hu, List.all_cons, Bool.and_eq_true, decide_eq_true_eq, List.length_map] at hw
    have h2 := hw.1
    have h3 : (elems.length + rest.length) * 1 ≤ (elems.length + rest.length) * P.bytesOf e := Nat.mul_le_mul_left _ hb
    omega
theorem take_one {cs : Array Value} {i : Nat} (h : i < cs.size) : (cs.toList.drop i).take 1 = [gv cs i] := by
  have h2 : i < cs.toList.length := by simpa using h
  rw [List.drop_eq_getElem_cons h2]
  simp [gv, h]
set_option maxRecDepth 100000 in
theorem query_small {H : Type} {enc : TypeId × Value → H} {W : World} {cs : Array Value} {d : DataW H} {p : List MemPlace} (h : DataW.Trod enc Tryz.prog W 0 (fun _ => true) true 25 (.agg cs) d p) (q : TQuery) (e : relIn W (.agg (queryC q)) (.agg cs)) (hw : (d.weights Tryz.prog 25).all (· ≤ reachBytes) = true) : q.items.l.length ≤ reachBytes ∧ q.preds.l.length ≤ reachBytes := by
  obtain ⟨fuel, hf⟩ := h
  obtain ⟨xs, n, rfl, hx, hlen, hxl, hxs⟩ := DataW.trod_struct Tryz.underlying25 hf
  obtain rfl : d = .agg (xs.map (·.1)) := congrArg Prod.fst hx
  obtain ⟨cs', hcs, hl, -, hr⟩ := e.agg_inv
  cases hcs
  have hsz : cs.size = 5 := hl.symm
  have c22 : Tryz.prog.cellsOf 22 = 1 := by kernel_rfl
  have c23 : Tryz.prog.cellsOf 23 = 1 := by kernel_rfl
  obtain ⟨a0, k0, g0⟩ := rel_slD (hr 0 _ rfl)
  obtain ⟨a1, k1, g1⟩ := rel_slD (hr 1 _ rfl)
  match xs, hxl with
  | [x0, x1, x2, x3, x4], _ =>
    have t0 : DataW.trod enc Tryz.prog W 0 (fun _ => true) true n 22 ((cs.toList.drop 0).take (Tryz.prog.cellsOf 22)) = some x0 := hxs 0 _ rfl
    have t1 : DataW.trod enc Tryz.prog W 0 (fun _ => true) true n 23 ((cs.toList.drop 1).take (Tryz.prog.cellsOf 23)) = some x1 := hxs 1 _ rfl
    have d0 : (cs.toList.drop 0).take 1 = [gv cs 0] := take_one (by omega)
    have d1 : (cs.toList.drop 1).take 1 = [gv cs 1] := take_one (by omega)
    rw [c22, d0, g0] at t0
    rw [c23, d1, g1] at t1
    simp only [DataW.weights, Tryz.underlying25, List.map_cons, List.map_nil] at hw
    have hw0 : (x0.1.weights Tryz.prog 22).all (· ≤ reachBytes) = true := by
      simp only [DataW.weightsEach, List.all_append, Bool.and_eq_true] at hw
      exact hw.1
    have hw1 : (x1.1.weights Tryz.prog 23).all (· ≤ reachBytes) = true := by
      simp only [DataW.weightsEach, List.all_append, Bool.and_eq_true] at hw
      exact hw.2.1
    exact ⟨slice_small Tryz.underlying22 (by decide +kernel) t0 hw0, slice_small Tryz.underlying23 (by decide +kernel) t1 hw1⟩
end Go.Proofs.YthdkeggdipogoaaGreatDoor
