/-
From what a row of this seat gives of the library's two variables to what the evaluator asks. Conditions: none.
-/
import Derived.ProofKit
import Derived.OpenShut
import Derived.ShutString
import Derived.ChangeOld
import Derived.Carry
import Derived.SizedLaws
import Derived.HandedShaped
import Derived.Shelf.Vars
import Derived.LaidLaws
import Derived.LaidHandle
import Derived.Stop.Joined
import Derived.LaidSub
import Derived.MakeChecks
import Derived.Test.YtmfhanoibbmnlaaGreatDoorTK1
import Derived.Test.YtmfhanoibbmnlaaGreatDoorTSl
namespace Go.Proofs.YtmfhanoibbmnlaaGreatDoor
open Go.ChangeShapes Go.WideShapes Go.ChangeAt Go.RowKit Go.Aug
theorem cell_heap {w : World} {g : Nat} {v : Value} (h : w.cell? ⟨g, 0, none⟩ = some v) : ∃ (cs : Array Value) (e : TypeId) (f : Nat × Nat), w.heap[g]? = some (.cells cs e f) ∧ cs[0]? = some v := by
  unfold World.cell? at h
  split at h
  · rename_i c e f hh
    exact ⟨c, e, f, hh, by simpa using h⟩
  · cases h
abbrev laidL : List (String × DataW Unit) := [("math/bits.deBruijn32tab", Rows.laid_math_bits_deBruijn32tab), ("math/bits.deBruijn64tab", Rows.laid_math_bits_deBruijn64tab), ("internal/strconv.uint64pow10", Rows.laid_internal_strconv_uint64pow10)]
theorem gsize : Tryz.prog.globals.size = 4 := by kernel_rfl
theorem gname0 : (Tryz.prog.globals[0]?).map (·.name) = some "internal/strconv.uint64pow10" := by kernel_rfl
theorem gname1 : (Tryz.prog.globals[1]?).map (·.name) = some "internal/bytealg.MaxLen" := by kernel_rfl
theorem gname2 : (Tryz.prog.globals[2]?).map (·.name) = some "math/bits.deBruijn32tab" := by kernel_rfl
theorem gname3 : (Tryz.prog.globals[3]?).map (·.name) = some "math/bits.deBruijn64tab" := by kernel_rfl
theorem need2 : globNeed Tryz.prog "math/bits.deBruijn32tab" = false := by kernel_rfl
theorem need3 : globNeed Tryz.prog "math/bits.deBruijn64tab" = false := by kernel_rfl
theorem powId : Tryz.prog.globalNamed "internal/strconv.uint64pow10" = some 0 := by kernel_rfl
theorem powType : (Tryz.prog.globals[0]?).map (·.type) = some 205 := by kernel_rfl
theorem mlRow : ((begin Tryz.prog (fun _ _ => 0) default).world.heap[1]?).bind Obj.row? = some (#[.int .i64 0], 3) := by kernel_rfl
theorem pow_of {W : World} (hL : laidMetH Tryz.prog laidL W) : Lib.TabIs Tryz.prog W "internal/strconv.uint64pow10" .u64 Lib.pow10Tab := by
  rw [Go.MakeChecks.laidMetH_plain _ _ _ (by kernel_rfl)] at hL
  have h : laidMet Tryz.prog [("internal/strconv.uint64pow10", Lib.tabData .u64 Lib.pow10Tab)] W := laidMet.filter (fun x => x.1 == "internal/strconv.uint64pow10") hL
  exact Lib.tabIs_of_head powId powType Tryz.underlying205 Tryz.underlying185 (by kernel_rfl) (by kernel_rfl) h
theorem globOk_of {W : World} (hsh : W.ShapedOpen Tryz.prog) (hL : laidMetH Tryz.prog laidL W) : GlobOk Tryz.prog (fun b => b < W.heap.size) W := by
  intro g gl hg hn
  have hlt : g < 4 := by
    rw [← gsize]
    exact (Array.getElem?_eq_some_iff.1 hg).1
  have name : ∀ {s : String}, (Tryz.prog.globals[g]?).map (·.name) = some s → gl.name = s := fun h => by
    rw [hg] at h
    exact Option.some.inj h
  have hin : ∀ {v : Value}, W.cell? ⟨g, 0, none⟩ = some v → g < W.heap.size ∧ ∃ (cs : Array Value) (e : TypeId) (f : Nat × Nat), W.heap[g]? = some (.cells cs e f) ∧ cs[0]? = some v := fun h => by
    obtain ⟨cs, e, f, h1, h2⟩ := cell_heap h
    exact ⟨(Array.getElem?_eq_some_iff.1 h1).1, cs, e, f, h1, h2⟩
  have hg4 : g = 0 ∨ g = 1 ∨ g = 2 ∨ g = 3 := by omega
  rcases hg4 with rfl | rfl | rfl | rfl
  · have ht := pow_of hL
    unfold Lib.TabIs World.var? at ht
    rw [powId] at ht
    simp only [Option.bind_some] at ht
    split at ht
    · rename_i cs e f hh
      refine ⟨(Array.getElem?_eq_some_iff.1 hh).1, cs, e, f, hh, ?_⟩
      rw [name gname0, if_neg (by decide), if_pos rfl]
      exact Option.some.inj ht
    · cases ht
  · obtain ⟨m, hm⟩ := Go.Proofs.cell_of_shapedOpen_int hsh (g := 1) (by rw [gsize]; decide) mlRow (by rfl) (by kernel_rfl) (by kernel_rfl) Tryz.underlying3
    obtain ⟨hlt, cs, e, f, h1, h2⟩ := hin hm
    refine ⟨hlt, cs, e, f, h1, ?_⟩
    rw [name gname1, if_pos rfl]
    exact ⟨m, h2⟩
  · rw [name gname2, need2] at hn; cases hn
  · rw [name gname3, need3] at hn; cases hn
def litsOf : DataW Unit → List Value
  | .agg l => l.map fun | .lit (.int k z) => .int k z | _ => .int .i64 0
  | _ => []
noncomputable def laidWorld (os : Os) : World :=
  let w0 := World.holding Tryz.prog os ⟨#[], #[], []⟩
  let put (h : Array Obj) (g : Nat) (cs : Array Value) : Array Obj := h.modify g fun
    | .cells _ t frozen => .cells cs t frozen
    | o => o
  let h1 := put w0.heap 0 (litsOf Rows.laid_internal_strconv_uint64pow10).toArray
  let h2 := put h1 2 (litsOf Rows.laid_math_bits_deBruijn32tab).toArray
  let h3 := put h2 3 (litsOf Rows.laid_math_bits_deBruijn64tab).toArray
  { w0 with heap := h3 }
theorem laidWorld_met (os : Os) (args : Array Value) : laidMetH Tryz.prog laidL ((laidWorld os).forCall (fun _ _ => 0) ⟨#[], args, []⟩).memory := by
  rw [Go.MakeChecks.laidMetH_plain _ _ _ (by kernel_rfl)]
  exact laidMet_of_run' 8 (by kernel_rfl) (by kernel_rfl)
end Go.Proofs.YtmfhanoibbmnlaaGreatDoor

namespace Go.Proofs.YtmfhanoibbmnlaaGreatDoor
open Go.ChangeShapes Go.WideShapes Go.ChangeAt Go.RowKit Go.Aug Go.Aug.Api
theorem returnsInHanded_sized {H : Type} {enc : TypeId × Value → H} {a : Assume} {C : Checked} {os : Os} {f : FuncId} {fn : Func} {s : ChangeSpec} {conds : List PathCond} {apart fresh handsOn again : Bool} {X : World → Array Value → Prop}
    (hX : ∀ (w w' : World) (args : Array Value), w.heap = w'.heap → X w args → X w' args)
    (own : ownKnob C.prog.godebug = none) (started : os.Started) (noInit : C.prog.inits.idxOf? f = none) (hfn : C.prog.funcs[f]? = some fn)
    (witness : ∃ (w : World) (tape : Tape) (i : Input), w.os = os ∧ (w.forCall tape i).Shaped C.prog ∧ i.vars = [] ∧ Input.okWide C.prog (w.forCall tape i) .any w.heap.size f i ∧
      ((s.pre enc C.prog fn conds apart (w.forCall tape i).memory i.args ∧ X (w.forCall tape i).memory i.args) ∧ sizedMet enc C.prog fn (OpenSpec.ofChange s) apart (w.forCall tape i).memory i.args) ∧ a.holds C.prog (lone (Frame.enter C.prog f i.args .normal) [] (w.forCall tape i)))
    (contract : ∀ (W : World) (base : Nat) (args : Array Value) (ds gs : List (DataW H)) (before : List MemPlace),
      (∀ (j : Nat) t v, fn.params[j]? = some t → args[j]? = some v → Value.okWide C.prog W .any base t v) →
      DataW.Whole enc C.prog fn.params.toList s.vars apart W args.toList ds gs before →
      (DataW.weightsEach C.prog (fn.params.toList ++ s.plain.varTypes C.prog) (ds ++ gs)).all (· ≤ reachBytes) = true →
      W.ShapedOpen C.prog → X W args →
      Calls C.prog f args W fun e W' => ∃ v, e = .returned v ∧ s.post enc C.prog fn apart fresh handsOn again W args v W') :
    ReturnsInHanded a C os f .any (fun w args => (s.pre enc C.prog fn conds apart w args ∧ X w args) ∧ sizedMet enc C.prog fn (OpenSpec.ofChange s) apart w args) (s.post enc C.prog fn apart fresh handsOn again) := by
  refine returnsInHanded_of_calls own started noInit witness ?_
  intro w tape i _ hsh _ hok hpre _
  obtain ⟨_, _, _, fn', hfn', _, _, _, _, hval⟩ := hok
  have e : fn' = fn := Option.some.inj (hfn'.symm.trans hfn)
  subst e
  obtain ⟨⟨⟨ds, gs, before, hw, _⟩, hx⟩, hz⟩ := hpre
  have hw' := DataW.Whole.of_heap (w' := w.forCall tape i) (by rfl) hw
  refine (contract (w.forCall tape i) w.heap.size i.args ds gs before hval hw' (hz.weights hw) hsh (hX _ _ _ (by rfl) hx)).mono fun e W' ⟨v, he, hp⟩ => ?_
  subst he
  exact ChangeSpec.post_blind hp
theorem rel_slD {W : World} {rep : Option (Option Nat)} {n : Nat} {l : List D} {v : Value} (h : relIn W (slD rep n l) v) : ∃ a c, v = .slice a n c := by
  have key : ∀ {n : Nat} {cap : Option Nat}, relIn W (.sl n l cap) v → ∃ a c, v = .slice a n c := fun h => by
    cases h with
    | sl => exact ⟨_, _, rfl⟩
    | sz => exact ⟨_, _, rfl⟩
  cases rep with
  | some cap => exact key h
  | none =>
    cases n with
    | zero => exact ⟨none, 0, h.v_inv⟩
    | succ n => exact key h
theorem slice_room {H : Type} {enc : TypeId × Value → H} {P : Program} {W : World} {sp : Nat → Bool} {held : Bool} {t e : TypeId} {a : Option Addr} {n c : Nat} {d : DataW H} {p : List MemPlace} (hu : P.underlying t = some (.slice e))
    (h : DataW.Trod enc P W 0 sp held t (.slice a n c) d p) (hw : (d.weights P t).all (· ≤ reachBytes) = true) : n * P.bytesOf e ≤ reachBytes := by
  obtain ⟨fuel, h⟩ := h
  rcases DataW.trod_slice hu h with ⟨h1, -⟩ | ⟨a', len, cap, elems, rest, m, -, h1, hx, -, -, -, hlen, -⟩
  · have h1' : [Value.slice a n c] = _ := h1
    obtain rfl : n = 0 := by simp at h1'; omega
    simp
  · have h1' : [Value.slice a n c] = _ := h1
    simp at h1'
    obtain ⟨-, rfl, -⟩ := h1'
    have hd : d = _ := congrArg Prod.fst hx
    rw [hd] at hw
    simp only [DataW.weights, hu, List.all_cons, Bool.and_eq_true, decide_eq_true_eq, List.length_map] at hw
    have h2 := hw.1
    have h3 : elems.length * P.bytesOf e ≤ (elems.length + rest.length) * P.bytesOf e := Nat.mul_le_mul_right _ (Nat.le_add_right _ _)
    rw [← hlen]
    omega
namespace Tz
theorem k_match {n : Nat} {x : List D} (h : Gd n 58 x) : ∃ v, x = matchC v := by
  cases n with
  | zero => exact h.elim
  | succ n =>
    rw [Gd, good_struct Tryz.underlying58] at h
    simp only [fieldsG] at h
    obtain ⟨a1, r1, rfl, -, h1, a2, r2, rfl, -, h2, rfl⟩ := h
    obtain ⟨t, rfl⟩ := k_int64 h1
    obtain ⟨l, rfl⟩ := k_sl Tryz.underlying56 (fun _ _ => k_row) h2
    exact ⟨⟨t, l⟩, rfl⟩
def kindsM : List TypeId := [26, 58] ++ kindsAll
theorem kindsM_ok : closedB Tryz.prog kindsM = true := by kernel_rfl
theorem in_slM {W : World} {H : Type} {enc : TypeId × Value → H} {d : DataW H} {p : List MemPlace} {v : Value} {t e : TypeId} {α : Type} {c : α → List D} (hu : Tryz.prog.underlying t = some (.slice e)) (ht : t ∈ kindsM) (hc : ∀ n x, Gd n e x → ∃ a, x = c a) (hv : v.cells = #[v])
    (h : DataW.Trod enc Tryz.prog W 0 (fun _ => true) true t v d p) : ∃ l : Sl α, relIn W (l.enc c) v := by
  obtain ⟨fuel, hf⟩ := h
  obtain ⟨ds, h1, h2⟩ := trod_good kindsM_ok fuel t _ _ ht hf
  obtain ⟨x, rfl, h3⟩ := arg_one hv h1
  obtain ⟨l, hx⟩ := k_sl hu hc h2
  simp only [List.cons.injEq, and_true] at hx
  exact ⟨l, hx ▸ h3⟩
end Tz
theorem bytes58 : Tryz.prog.bytesOf 58 = 32 := by kernel_rfl
theorem matches_small {H : Type} {enc : TypeId × Value → H} {W : World} {v : Value} {d : DataW H} {p : List MemPlace} (h : DataW.Trod enc Tryz.prog W 0 (fun _ => true) true 26 v d p) (l : Sl TMatch) (e : relIn W (l.enc matchC) v) (hw : (d.weights Tryz.prog 26).all (· ≤ reachBytes) = true) : l.l.length * 32 ≤ reachBytes := by
  obtain ⟨a, c, rfl⟩ := rel_slD e
  have := slice_room Tryz.underlying26 h hw
  rw [bytes58] at this
  exact this
end Go.Proofs.YtmfhanoibbmnlaaGreatDoor
