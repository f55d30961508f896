/-
errors.As at this dump: into an error number, behind one Unwrap. Conditions: none. (After the kit's worked example of errors.As.)
-/
import Derived.Test.YthdkeggdipogoaaGreatDoorTO6
namespace Go.Proofs.YthdkeggdipogoaaGreatDoor.Tz
open Go.RowKit Go.Extern.Stop Go.Stop Go.Extern
theorem at_valueOf65 (t : Addr) (w : World) : (ReflectliteValue.unpack (.iface 111 (.pointer (some t)))).run Tryz.prog w
    = .ok (.agg #[.pointer (some ⟨5, 111, none⟩), .pointer (some ⟨w.heap.size, 0, none⟩), .int .u64 150]) (w.alloc (.cells #[.pointer (some t)] 111)) := by kernel_rfl
theorem at_type65 (a : Addr) (w : World) : (ReflectliteValue.methodAny (ReflectliteValue.valueError "reflectlite.Value.Type" 0) (fun t _ _ _ => ReflectliteType.toType t) #[.agg #[.pointer (some ⟨5, 111, none⟩), .pointer (some a), .int .u64 150]]).run Tryz.prog w
    = .ok (.iface 226 (.agg #[.pointer (some ⟨5, 111, none⟩)])) w := by kernel_rfl
theorem at_kind65 (w : World) : ((ReflectliteType.abiMethod fun t => (fun a : Nat => Value.int IntKind.u8 (a : Int)) <$> Rtype.kind t) #[.pointer (some ⟨5, 111, none⟩)]).run Tryz.prog w = .ok (.int .u8 22) w := by kernel_rfl
theorem at_kind30 (w : World) : ((ReflectliteType.abiMethod fun t => (fun a : Nat => Value.int IntKind.u8 (a : Int)) <$> Rtype.kind t) #[.pointer (some ⟨5, 51, none⟩)]).run Tryz.prog w = .ok (.int .u8 2) w := by kernel_rfl
theorem at_parts65 (a : Addr) (w : World) : (ReflectliteValue.parts (.agg #[.pointer (some ⟨5, 111, none⟩), .pointer (some a), .int .u64 150])).run Tryz.prog w = .ok (some (111, a, 150)) w := by kernel_rfl
theorem at_isNil65 (a p : Addr) (W : World) (ha : W.cell? a = some (.pointer (some p))) :
    (ReflectliteValue.method (ReflectliteValue.valueError "reflectlite.Value.IsNil" 0) ReflectliteValue.isNil #[.agg #[.pointer (some ⟨5, 111, none⟩), .pointer (some a), .int .u64 150]]).run Tryz.prog W = .ok (.bool false) W := by
  rw [rlm]
  simp only [Sem.run_bind, at_parts65, Result.andThen]
  simp [ReflectliteValue.isNil, loadVar, isAgg, underlying, Tryz.underlying111, ha, Result.andThen]
theorem at_elem65 (w : World) : (ReflectliteType.method ReflectliteType.elem #[.agg #[.pointer (some ⟨5, 111, none⟩)]]).run Tryz.prog w = .ok (.iface 226 (.agg #[.pointer (some ⟨5, 51, none⟩)])) w := by kernel_rfl
theorem at_implements30 (w : World) : (ReflectliteType.relation "Implements" ReflectliteType.implements_ #[.agg #[.pointer (some ⟨5, 51, none⟩)], .iface 226 (.agg #[.pointer (some ⟨5, 108, none⟩)])]).run Tryz.prog w = .ok (.bool true) w := by kernel_rfl
theorem at_typeOf30 (v : Value) (w : World) : (ReflectliteType.typeOf #[.iface 51 v]).run Tryz.prog w = .ok (.iface 226 (.agg #[.pointer (some ⟨5, 51, none⟩)])) w := by kernel_rfl
theorem at_assignable30 (w : World) : (ReflectliteType.relation "AssignableTo" ReflectliteType.assignableTo #[.agg #[.pointer (some ⟨5, 51, none⟩)], .iface 226 (.agg #[.pointer (some ⟨5, 51, none⟩)])]).run Tryz.prog w = .ok (.bool true) w := by kernel_rfl
theorem at_assignable60 (w : World) : (ReflectliteType.relation "AssignableTo" ReflectliteType.assignableTo #[.agg #[.pointer (some ⟨5, 106, none⟩)], .iface 226 (.agg #[.pointer (some ⟨5, 51, none⟩)])]).run Tryz.prog w = .ok (.bool false) w := by kernel_rfl
theorem at_valueOf30 (n : Int) (w : World) : (ReflectliteValue.unpack (.iface 51 (.int .i64 n))).run Tryz.prog w
    = .ok (.agg #[.pointer (some ⟨5, 51, none⟩), .pointer (some ⟨w.heap.size, 0, none⟩), .int .u64 130]) (w.alloc (.cells #[.int .i64 n] 51)) := by kernel_rfl
theorem at_elemOf65 (w : World) : (Rtype.elem? 111).run Tryz.prog w = .ok (some 51) w := by kernel_rfl
theorem at_mk30 (p : Addr) (w : World) : (ReflectliteValue.mk 51 p ReflectliteValue.flagAddr).run Tryz.prog w = .ok (.agg #[.pointer (some ⟨5, 51, none⟩), .pointer (some p), .int .u64 386]) w := by kernel_rfl
theorem at_elemV65 (a p : Addr) (W : World) (ha : W.cell? a = some (.pointer (some p))) :
    (ReflectliteValue.method (ReflectliteValue.valueError "reflectlite.Value.Elem" 0) ReflectliteValue.elem #[.agg #[.pointer (some ⟨5, 111, none⟩), .pointer (some a), .int .u64 150]]).run Tryz.prog W
      = .ok (.agg #[.pointer (some ⟨5, 51, none⟩), .pointer (some p), .int .u64 386]) W := by
  rw [rlm]
  simp only [Sem.run_bind, at_parts65, Result.andThen]
  simp [ReflectliteValue.elem, loadVar, isAgg, underlying, Tryz.underlying111, ha, Result.andThen, at_elemOf65, at_mk30]
theorem at_parts30a (a : Addr) (w : World) : (ReflectliteValue.parts (.agg #[.pointer (some ⟨5, 51, none⟩), .pointer (some a), .int .u64 386])).run Tryz.prog w = .ok (some (51, a, 386)) w := by kernel_rfl
theorem at_parts30 (a : Addr) (w : World) : (ReflectliteValue.parts (.agg #[.pointer (some ⟨5, 51, none⟩), .pointer (some a), .int .u64 130])).run Tryz.prog w = .ok (some (51, a, 130)) w := by kernel_rfl
theorem at_direct30 (w : World) : (Rtype.directlyAssignable 51 51).run Tryz.prog w = .ok true w := by kernel_rfl
theorem at_set30 (ta b : Addr) (n : Int) (old : Value) (W : World) (hb : W.cell? b = some (.int .i64 n)) (ht : W.cell? ta = some old) (hf : W.frozen? ta = false) :
    (ReflectliteValue.set #[.agg #[.pointer (some ⟨5, 51, none⟩), .pointer (some ta), .int .u64 386], .agg #[.pointer (some ⟨5, 51, none⟩), .pointer (some b), .int .u64 130]]).run Tryz.prog W
      = .ok (.tuple #[]) (W.setCell ta (.int .i64 n)) := by
  rw [rls]
  simp only [Sem.run_bind, at_parts30a, at_parts30, Result.andThen]
  simp [ReflectliteValue.flagAddr, loadVar, isAgg, underlying, Tryz.underlying51, hb, Result.andThen, at_direct30, storeVar, Value.cells, storeCells, Addr.add]
  rw [run_store Tryz.prog W ta _ _ (by rfl)]
  simp [ht, hf]
theorem at_noAs60 (v : Value) (xT : TypeId) (w : World) : (Instr.typeAssert (.iface 106 v) xT 231 true).run Tryz.prog w = .ok (.tuple #[.nilIface, .bool false]) w := run_typeAssert_lacksB Tryz.underlying231 (by kernel_rfl) (by kernel_rfl) v xT w
theorem at_hasUnwrap60 (v : Value) (xT : TypeId) (w : World) : (Instr.typeAssert (.iface 106 v) xT 234 true).run Tryz.prog w = .ok (.tuple #[.iface 106 v, .bool true]) w := run_typeAssert_hasB Tryz.underlying234 (by kernel_rfl) v xT w
theorem at_methodUnwrap (v : Value) (w : World) : (Go.method 411 106 v "Unwrap").run Tryz.prog w = .ok (246, v) w := by kernel_rfl
set_option maxHeartbeats 4000000 in
theorem as_unwrap (eb eo : Nat) (n : Int) (t : Addr) (old : Value) (w : World) (h1 : w.cell? ⟨eb, eo + 1, none⟩ = some (.iface 51 (.int .i64 n))) (hg : w.cell? ⟨0, 0, none⟩ = some (.iface 226 (.agg #[.pointer (some ⟨5, 108, none⟩)]))) (ht0 : w.cell? t = some old) (hf0 : w.frozen? t = false) :
    Calls Tryz.prog 65 #[.iface 106 (.pointer (some ⟨eb, eo, none⟩)), .iface 111 (.pointer (some t))] w fun ev w' => ev = .returned (.bool true) ∧ w' = ((((w.alloc (.cells #[.pointer (some t)] 111)).alloc (.cells #[.pointer (some ⟨5, 111, none⟩), .pointer (some ⟨w.heap.size, 0, none⟩), .int .u64 150] 151)).alloc (.cells #[.pointer (some ⟨5, 111, none⟩), .pointer (some ⟨w.heap.size, 0, none⟩), .int .u64 150] 151)).alloc (.cells #[.int .i64 n] 51)).setCell t (.int .i64 n) := by
  have h6 := @run_callFunc_extern Tryz.prog 100 _ (fun args => ReflectliteValue.unpack (args.getD 0 (.tuple #[]))) Tryz.func100 (by kernel_rfl) (by kernel_rfl) (by kernel_rfl) (by kernel_rfl)
  have h7 := @run_callFunc_extern Tryz.prog 101 _ (ReflectliteValue.methodAny (ReflectliteValue.valueError "reflectlite.Value.Type" 0) (fun t _ _ _ => ReflectliteType.toType t)) Tryz.func101 (by kernel_rfl) (by kernel_rfl) (by kernel_rfl) (by kernel_rfl)
  have h8 := @run_callFunc_extern Tryz.prog 102 _ (ReflectliteValue.method (ReflectliteValue.valueError "reflectlite.Value.IsNil" 0) ReflectliteValue.isNil) Tryz.func102 (by kernel_rfl) (by kernel_rfl) (by kernel_rfl) (by kernel_rfl)
  have h27 := @run_callFunc_extern Tryz.prog 241 _ (ReflectliteType.abiMethod fun t => do pure (.int .u8 (← Rtype.kind t))) Tryz.func241 (by kernel_rfl) (by kernel_rfl) (by kernel_rfl) (by kernel_rfl)
  have h37 := @run_callFunc_extern Tryz.prog 254 _ (ReflectliteType.method ReflectliteType.elem) Tryz.func254 (by kernel_rfl) (by kernel_rfl) (by kernel_rfl) (by kernel_rfl)
  have h38 := @run_callFunc_extern Tryz.prog 255 _ (ReflectliteType.relation "Implements" ReflectliteType.implements_) Tryz.func255 (by kernel_rfl) (by kernel_rfl) (by kernel_rfl) (by kernel_rfl)
  have h10 := @run_callFunc_extern Tryz.prog 160 _ ReflectliteType.typeOf Tryz.func160 (by kernel_rfl) (by kernel_rfl) (by kernel_rfl) (by kernel_rfl)
  have h35 := @run_callFunc_extern Tryz.prog 252 _ (ReflectliteType.relation "AssignableTo" ReflectliteType.assignableTo) Tryz.func252 (by kernel_rfl) (by kernel_rfl) (by kernel_rfl) (by kernel_rfl)
  have h11 := @run_callFunc_extern Tryz.prog 161 _ (ReflectliteValue.method (ReflectliteValue.valueError "reflectlite.Value.Elem" 0) ReflectliteValue.elem) Tryz.func161 (by kernel_rfl) (by kernel_rfl) (by kernel_rfl) (by kernel_rfl)
  have h12 := @run_callFunc_extern Tryz.prog 162 _ ReflectliteValue.set Tryz.func162 (by kernel_rfl) (by kernel_rfl) (by kernel_rfl) (by kernel_rfl)
  have tO := as_typeOf25
  have tP := at_typeOf30
  have mA := as_methodAssignableTo
  have a30 := at_assignable30
  have a60 := at_assignable60
  have v30 := at_valueOf30
  have f6 := at_valueOf65
  have f7 := at_type65
  have nA := at_noAs60
  have hU := at_hasUnwrap60
  have mU := at_methodUnwrap
  have mK := as_methodKind
  have mE := as_methodElem
  have mI := as_methodImplements
  have k27 := at_kind65
  have k25 := at_kind30
  have e27 := at_elem65
  have i25 := at_implements30
  have n8 := at_isNil65 ⟨w.heap.size, 0, none⟩ t ((w.alloc (.cells #[.pointer (some t)] 111)).alloc (.cells #[.pointer (some ⟨5, 111, none⟩), .pointer (some ⟨w.heap.size, 0, none⟩), .int .u64 150] 151)) (by simp)
  have hlt : 0 < w.heap.size := by
    rcases Nat.eq_zero_or_pos w.heap.size with h0 | h
    · simp [World.cell?, h0] at hg
    · exact h
  have hg2 : ((w.alloc (.cells #[.pointer (some t)] 111)).alloc (.cells #[.pointer (some ⟨5, 111, none⟩), .pointer (some ⟨w.heap.size, 0, none⟩), .int .u64 150] 151)).cell? ⟨0, 0, none⟩ = some (.iface 226 (.agg #[.pointer (some ⟨5, 108, none⟩)])) := by
    rw [World.cell?_alloc_lt _ _ ⟨0, 0, none⟩ (by simp), World.cell?_alloc_lt _ _ ⟨0, 0, none⟩ hlt]; exact hg
  have htl : t.block < w.heap.size := by
    rcases Nat.lt_or_ge t.block w.heap.size with h | h
    · exact h
    · simp [World.cell?, Array.getElem?_eq_none h] at ht0
  have hel : eb < w.heap.size := by
    rcases Nat.lt_or_ge eb w.heap.size with h | h
    · exact h
    · simp [World.cell?, Array.getElem?_eq_none h] at h1
  have h1b : (((w.alloc (.cells #[.pointer (some t)] 111)).alloc (.cells #[.pointer (some ⟨5, 111, none⟩), .pointer (some ⟨w.heap.size, 0, none⟩), .int .u64 150] 151)).alloc (.cells #[.pointer (some ⟨5, 111, none⟩), .pointer (some ⟨w.heap.size, 0, none⟩), .int .u64 150] 151)).cell? ⟨eb, eo + 1, none⟩ = some (.iface 51 (.int .i64 n)) := by
    rw [World.cell?_alloc_lt _ _ ⟨eb, eo + 1, none⟩ (by simp; omega), World.cell?_alloc_lt _ _ ⟨eb, eo + 1, none⟩ (by simp; omega), World.cell?_alloc_lt _ _ ⟨eb, eo + 1, none⟩ hel]; exact h1
  have el := at_elemV65 ⟨w.heap.size, 0, none⟩ t (((w.alloc (.cells #[.pointer (some t)] 111)).alloc (.cells #[.pointer (some ⟨5, 111, none⟩), .pointer (some ⟨w.heap.size, 0, none⟩), .int .u64 150] 151)).alloc (.cells #[.pointer (some ⟨5, 111, none⟩), .pointer (some ⟨w.heap.size, 0, none⟩), .int .u64 150] 151)) (by rw [World.cell?_alloc_lt _ _ ⟨w.heap.size, 0, none⟩ (by simp; omega)]; simp)
  have st := at_set30 t ⟨w.heap.size + 1 + 1 + 1, 0, none⟩ n old ((((w.alloc (.cells #[.pointer (some t)] 111)).alloc (.cells #[.pointer (some ⟨5, 111, none⟩), .pointer (some ⟨w.heap.size, 0, none⟩), .int .u64 150] 151)).alloc (.cells #[.pointer (some ⟨5, 111, none⟩), .pointer (some ⟨w.heap.size, 0, none⟩), .int .u64 150] 151)).alloc (.cells #[.int .i64 n] 51))
    (by rw [World.cell?_alloc_at _ _ _ _ (by simp)]; rfl)
    (by rw [World.cell?_alloc_lt _ _ t (by simp; omega), World.cell?_alloc_lt _ _ t (by simp; omega), World.cell?_alloc_lt _ _ t (by simp; omega), World.cell?_alloc_lt _ _ t htl]; exact ht0)
    (by rw [World.frozen?_alloc_old _ _ t (by simp; omega), World.frozen?_alloc_old _ _ t (by simp; omega), World.frozen?_alloc_old _ _ t (by simp; omega), World.frozen?_alloc_old _ _ t (Nat.ne_of_lt htl)]; exact hf0)
  go_enter Tryz.func65, Tryz.ntmps65
  go_wp2
  refine wp_loop_rounds 2 ?_
  rw [rounds_succ]
  go_wp2
  rw [rounds_succ]
  go_wp2
  go_ret
  exact ⟨rfl, rfl⟩
end Go.Proofs.YthdkeggdipogoaaGreatDoor.Tz
