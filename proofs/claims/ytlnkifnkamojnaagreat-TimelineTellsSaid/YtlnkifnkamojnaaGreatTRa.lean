/-
From what a row of this seat gives of the library's variable to what the evaluator asks; what a row gives of versions; the builder that hands the world's shape on. Conditions: none.
-/
import Derived.Test.YtlnkifnkamojnaaGreatTO5
import Derived.Test.YtlnkifnkamojnaaGreatTK1
import Derived.Test.YtlnkifnkamojnaaGreatTSp
import Derived.ProofKit
import Derived.OpenShut
import Derived.ShutString
import Derived.ChangeOld
import Derived.Carry
import Derived.SizedLaws
import Derived.HandedShaped
import Derived.Shelf.Vars
namespace Go.Proofs.YtlnkifnkamojnaaGreat
open Go.ChangeShapes Go.WideShapes Go.ChangeAt Go.RowKit Go.Aug Go.Aug.Api
theorem returnsInHanded_open {H : Type} {enc : TypeId × Value → H} {a : Assume} {C : Checked} {os : Os} {f : FuncId} {fn : Func} {s : ChangeSpec} {conds : List PathCond} {apart fresh handsOn again : Bool}
    (own : ownKnob C.prog.godebug = none) (started : os.Started) (noInit : C.prog.inits.idxOf? f = none) (hfn : C.prog.funcs[f]? = some fn)
    (witness : ∃ (w : World) (tape : Tape) (i : Input), w.os = os ∧ (w.forCall tape i).Shaped C.prog ∧ i.vars = [] ∧ Input.okWide C.prog (w.forCall tape i) .any w.heap.size f i ∧
      s.pre6 enc C.prog fn conds apart (w.forCall tape i).memory i.args ∧ a.holds C.prog (lone (Frame.enter C.prog f i.args .normal) [] (w.forCall tape i)))
    (contract : ∀ (W : World) (base : Nat) (args : Array Value) (ds gs : List (DataW H)) (before : List MemPlace),
      (∀ (j : Nat) t v, fn.params[j]? = some t → args[j]? = some v → Value.okWide C.prog W .any base t v) →
      DataW.Whole enc C.prog fn.params.toList s.vars apart W args.toList ds gs before →
      (DataW.weightsEach C.prog (fn.params.toList ++ s.plain.varTypes C.prog) (ds ++ gs)).all (· ≤ reachBytes) = true →
      W.ShapedOpen C.prog →
      Calls C.prog f args W fun e W' => ∃ v, e = .returned v ∧ s.post enc C.prog fn apart fresh handsOn again W args v W') :
    ReturnsInHanded a C os f .any (s.pre6 enc C.prog fn conds apart) (s.post enc C.prog fn apart fresh handsOn again) := by
  refine returnsInHanded_of_calls own started noInit witness ?_
  intro w tape i _ hsh _ hok hpre hholds
  obtain ⟨_, _, _, fn', hfn', _, _, _, _, hval⟩ := hok
  have e : fn' = fn := Option.some.inj (hfn'.symm.trans hfn)
  subst e
  obtain ⟨⟨ds, gs, before, hw, hc⟩, hz⟩ := hpre
  have hw' := DataW.Whole.of_heap (w' := w.forCall tape i) (by rfl) hw
  refine (contract (w.forCall tape i) w.heap.size i.args ds gs before hval hw' (hz.weights hw) hsh).mono fun e W' ⟨v, he, hp⟩ => ?_
  subst he
  exact ChangeSpec.post_blind hp
theorem cell_heap {w : World} {g : Nat} {v : Value} (h : w.cell? ⟨g, 0, none⟩ = some v) : ∃ (cs : Array Value) (e : TypeId) (f : Nat × Nat), w.heap[g]? = some (.cells cs e f) ∧ cs[0]? = some v := by
  unfold World.cell? at h
  split at h
  · rename_i c e f hh
    exact ⟨c, e, f, hh, by simpa using h⟩
  · cases h
theorem gsize : Tryz.prog.globals.size = 1 := by kernel_rfl
theorem gname0 : (Tryz.prog.globals[0]?).map (·.name) = some "internal/bytealg.MaxLen" := by kernel_rfl
theorem mlRow : ((begin Tryz.prog (fun _ _ => 0) default).world.heap[0]?).bind Obj.row? = some (#[.int .i64 0], 3) := by kernel_rfl
theorem globOk_of {W : World} (hsh : W.ShapedOpen Tryz.prog) : GlobOk Tryz.prog (fun b => b < W.heap.size) W := by
  intro g gl hg hn
  have hlt : g < 1 := by
    rw [← gsize]
    exact (Array.getElem?_eq_some_iff.1 hg).1
  obtain rfl : g = 0 := by omega
  have name : gl.name = "internal/bytealg.MaxLen" := by
    have h := gname0
    rw [hg] at h
    exact Option.some.inj h
  obtain ⟨m, hm⟩ := Go.Proofs.cell_of_shapedOpen_int hsh (g := 0) (by rw [gsize]; decide) mlRow (by rfl) (by kernel_rfl) (by kernel_rfl) Tryz.underlying3
  obtain ⟨cs, e, f, h1, h2⟩ := cell_heap hm
  refine ⟨(Array.getElem?_eq_some_iff.1 h1).1, cs, e, f, h1, ?_⟩
  rw [name, if_pos rfl]
  exact ⟨m, h2⟩
namespace Tz
theorem k_version {n : Nat} {x : List D} (h : Gd n 28 x) : ∃ v, x = versionC v := by
  cases n with
  | zero => exact h.elim
  | succ n =>
    rw [Gd, good_struct Tryz.underlying28] at h
    simp only [fieldsG] at h
    obtain ⟨a1, r1, rfl, -, h1, a2, r2, rfl, -, h2, a3, r3, rfl, -, h3, rfl⟩ := h
    obtain ⟨t, rfl⟩ := k_int64 h1
    obtain ⟨b, rfl⟩ := k_bool h2
    obtain ⟨q, rfl⟩ := k_query h3
    exact ⟨⟨t, b, q⟩, by simp [versionC, intC]⟩
def kindsV : List TypeId := [22, 28] ++ kindsAll
theorem kindsV_ok : closedB Tryz.prog kindsV = true := by kernel_rfl
theorem in_slV {W : World} {H : Type} {enc : TypeId × Value → H} {d : DataW H} {p : List MemPlace} {v : Value} {t e : TypeId} {α : Type} {c : α → List D} (hu : Tryz.prog.underlying t = some (.slice e)) (ht : t ∈ kindsV) (hc : ∀ n x, Gd n e x → ∃ a, x = c a) (hv : v.cells = #[v])
    (h : DataW.Trod enc Tryz.prog W 0 (fun _ => true) true t v d p) : ∃ l : Sl α, relIn W (l.enc c) v := by
  obtain ⟨fuel, hf⟩ := h
  obtain ⟨ds, h1, h2⟩ := trod_good kindsV_ok fuel t _ _ ht hf
  obtain ⟨x, rfl, h3⟩ := arg_one hv h1
  obtain ⟨l, hx⟩ := k_sl hu hc h2
  simp only [List.cons.injEq, and_true] at hx
  exact ⟨l, hx ▸ h3⟩
end Tz
end Go.Proofs.YtlnkifnkamojnaaGreat
