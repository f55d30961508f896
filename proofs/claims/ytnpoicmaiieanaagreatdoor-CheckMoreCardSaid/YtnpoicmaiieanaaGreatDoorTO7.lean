/-
errors.As at this dump: into an error number, behind one Unwrap. Conditions: none. (After the kit's worked example of errors.As.)
-/
import Derived.Test.YtnpoicmaiieanaaGreatDoorTO6
namespace Go.Proofs.YtnpoicmaiieanaaGreatDoor.Tz
open Go.RowKit Go.Extern.Stop Go.Stop Go.Extern

theorem at_valueOf65 (t : Addr) (w : World) : (ReflectliteValue.unpack (.iface 65 (.pointer (some t)))).run Tryz.prog w
    = .ok (.agg #[.pointer (some ⟨2, 65, none⟩), .pointer (some ⟨w.heap.size, 0, none⟩), .int .u64 150]) (w.alloc (.cells #[.pointer (some t)] 65)) := by kernel_rfl
theorem at_type65 (a : Addr) (w : World) : (ReflectliteValue.methodAny (ReflectliteValue.valueError "reflectlite.Value.Type" 0) (fun t _ _ _ => ReflectliteType.toType t) #[.agg #[.pointer (some ⟨2, 65, none⟩), .pointer (some a), .int .u64 150]]).run Tryz.prog w
    = .ok (.iface 121 (.agg #[.pointer (some ⟨2, 65, none⟩)])) w := by kernel_rfl
theorem at_kind65 (w : World) : ((ReflectliteType.abiMethod fun t => (fun a : Nat => Value.int IntKind.u8 (a : Int)) <$> Rtype.kind t) #[.pointer (some ⟨2, 65, none⟩)]).run Tryz.prog w = .ok (.int .u8 22) w := by kernel_rfl
theorem at_kind30 (w : World) : ((ReflectliteType.abiMethod fun t => (fun a : Nat => Value.int IntKind.u8 (a : Int)) <$> Rtype.kind t) #[.pointer (some ⟨2, 30, none⟩)]).run Tryz.prog w = .ok (.int .u8 2) w := by kernel_rfl
theorem at_parts65 (a : Addr) (w : World) : (ReflectliteValue.parts (.agg #[.pointer (some ⟨2, 65, none⟩), .pointer (some a), .int .u64 150])).run Tryz.prog w = .ok (some (65, a, 150)) w := by kernel_rfl
theorem at_isNil65 (a p : Addr) (W : World) (ha : W.cell? a = some (.pointer (some p))) :
    (ReflectliteValue.method (ReflectliteValue.valueError "reflectlite.Value.IsNil" 0) ReflectliteValue.isNil #[.agg #[.pointer (some ⟨2, 65, none⟩), .pointer (some a), .int .u64 150]]).run Tryz.prog W = .ok (.bool false) W := by
  rw [rlm]
  simp only [Sem.run_bind, at_parts65, Result.andThen]
  simp [ReflectliteValue.isNil, loadVar, isAgg, underlying, Tryz.underlying65, ha, Result.andThen]
theorem at_elem65 (w : World) : (ReflectliteType.method ReflectliteType.elem #[.agg #[.pointer (some ⟨2, 65, none⟩)]]).run Tryz.prog w = .ok (.iface 121 (.agg #[.pointer (some ⟨2, 30, none⟩)])) w := by kernel_rfl
theorem at_implements30 (w : World) : (ReflectliteType.relation "Implements" ReflectliteType.implements_ #[.agg #[.pointer (some ⟨2, 30, none⟩)], .iface 121 (.agg #[.pointer (some ⟨2, 62, none⟩)])]).run Tryz.prog w = .ok (.bool true) w := by kernel_rfl
theorem at_typeOf30 (v : Value) (w : World) : (ReflectliteType.typeOf #[.iface 30 v]).run Tryz.prog w = .ok (.iface 121 (.agg #[.pointer (some ⟨2, 30, none⟩)])) w := by kernel_rfl
theorem at_assignable30 (w : World) : (ReflectliteType.relation "AssignableTo" ReflectliteType.assignableTo #[.agg #[.pointer (some ⟨2, 30, none⟩)], .iface 121 (.agg #[.pointer (some ⟨2, 30, none⟩)])]).run Tryz.prog w = .ok (.bool true) w := by kernel_rfl
theorem at_assignable60 (w : World) : (ReflectliteType.relation "AssignableTo" ReflectliteType.assignableTo #[.agg #[.pointer (some ⟨2, 60, none⟩)], .iface 121 (.agg #[.pointer (some ⟨2, 30, none⟩)])]).run Tryz.prog w = .ok (.bool false) w := by kernel_rfl
theorem at_valueOf30 (n : Int) (w : World) : (ReflectliteValue.unpack (.iface 30 (.int .i64 n))).run Tryz.prog w
    = .ok (.agg #[.pointer (some ⟨2, 30, none⟩), .pointer (some ⟨w.heap.size, 0, none⟩), .int .u64 130]) (w.alloc (.cells #[.int .i64 n] 30)) := by kernel_rfl
theorem at_elemOf65 (w : World) : (Rtype.elem? 65).run Tryz.prog w = .ok (some 30) w := by kernel_rfl
theorem at_mk30 (p : Addr) (w : World) : (ReflectliteValue.mk 30 p ReflectliteValue.flagAddr).run Tryz.prog w = .ok (.agg #[.pointer (some ⟨2, 30, none⟩), .pointer (some p), .int .u64 386]) w := by kernel_rfl
theorem at_elemV65 (a p : Addr) (W : World) (ha : W.cell? a = some (.pointer (some p))) :
    (ReflectliteValue.method (ReflectliteValue.valueError "reflectlite.Value.Elem" 0) ReflectliteValue.elem #[.agg #[.pointer (some ⟨2, 65, none⟩), .pointer (some a), .int .u64 150]]).run Tryz.prog W
      = .ok (.agg #[.pointer (some ⟨2, 30, none⟩), .pointer (some p), .int .u64 386]) W := by
  rw [rlm]
  simp only [Sem.run_bind, at_parts65, Result.andThen]
  simp [ReflectliteValue.elem, loadVar, isAgg, underlying, Tryz.underlying65, ha, Result.andThen, at_elemOf65, at_mk30]
theorem at_parts30a (a : Addr) (w : World) : (ReflectliteValue.parts (.agg #[.pointer (some ⟨2, 30, none⟩), .pointer (some a), .int .u64 386])).run Tryz.prog w = .ok (some (30, a, 386)) w := by kernel_rfl
theorem at_parts30 (a : Addr) (w : World) : (ReflectliteValue.parts (.agg #[.pointer (some ⟨2, 30, none⟩), .pointer (some a), .int .u64 130])).run Tryz.prog w = .ok (some (30, a, 130)) w := by kernel_rfl
theorem at_direct30 (w : World) : (Rtype.directlyAssignable 30 30).run Tryz.prog w = .ok true w := by kernel_rfl
theorem at_set30 (ta b : Addr) (n : Int) (old : Value) (W : World) (hb : W.cell? b = some (.int .i64 n)) (ht : W.cell? ta = some old) (hf : W.frozen? ta = false) :
    (ReflectliteValue.set #[.agg #[.pointer (some ⟨2, 30, none⟩), .pointer (some ta), .int .u64 386], .agg #[.pointer (some ⟨2, 30, none⟩), .pointer (some b), .int .u64 130]]).run Tryz.prog W
      = .ok (.tuple #[]) (W.setCell ta (.int .i64 n)) := by
  rw [rls]
  simp only [Sem.run_bind, at_parts30a, at_parts30, Result.andThen]
  simp [ReflectliteValue.flagAddr, loadVar, isAgg, underlying, Tryz.underlying30, hb, Result.andThen, at_direct30, storeVar, Value.cells, storeCells, Addr.add]
  rw [run_store Tryz.prog W ta _ _ (by rfl)]
  simp [ht, hf]
theorem at_noAs60 (v : Value) (xT : TypeId) (w : World) : (Instr.typeAssert (.iface 60 v) xT 126 true).run Tryz.prog w = .ok (.tuple #[.nilIface, .bool false]) w := run_typeAssert_lacksB Tryz.underlying126 (by kernel_rfl) (by kernel_rfl) v xT w
theorem at_hasUnwrap60 (v : Value) (xT : TypeId) (w : World) : (Instr.typeAssert (.iface 60 v) xT 129 true).run Tryz.prog w = .ok (.tuple #[.iface 60 v, .bool true]) w := run_typeAssert_hasB Tryz.underlying129 (by kernel_rfl) v xT w
theorem at_methodUnwrap (v : Value) (w : World) : (Go.method 307 60 v "Unwrap").run Tryz.prog w = .ok (138, v) w := by kernel_rfl

set_option maxHeartbeats 4000000 in
theorem as_unwrap (eb eo : Nat) (n : Int) (t : Addr) (old : Value) (w : World) (h1 : w.cell? ⟨eb, eo + 1, none⟩ = some (.iface 30 (.int .i64 n))) (hg : w.cell? ⟨0, 0, none⟩ = some (.iface 121 (.agg #[.pointer (some ⟨2, 62, none⟩)]))) (ht0 : w.cell? t = some old) (hf0 : w.frozen? t = false) :
    Calls Tryz.prog 22 #[.iface 60 (.pointer (some ⟨eb, eo, none⟩)), .iface 65 (.pointer (some t))] w fun ev w' => ev = .returned (.bool true) ∧ w' = ((((w.alloc (.cells #[.pointer (some t)] 65)).alloc (.cells #[.pointer (some ⟨2, 65, none⟩), .pointer (some ⟨w.heap.size, 0, none⟩), .int .u64 150] 86)).alloc (.cells #[.pointer (some ⟨2, 65, none⟩), .pointer (some ⟨w.heap.size, 0, none⟩), .int .u64 150] 86)).alloc (.cells #[.int .i64 n] 30)).setCell t (.int .i64 n) := by
  have h6 := @run_callFunc_extern Tryz.prog 36 _ (fun args => ReflectliteValue.unpack (args.getD 0 (.tuple #[]))) Tryz.func36 (by kernel_rfl) (by kernel_rfl) (by kernel_rfl) (by kernel_rfl)
  have h7 := @run_callFunc_extern Tryz.prog 37 _ (ReflectliteValue.methodAny (ReflectliteValue.valueError "reflectlite.Value.Type" 0) (fun t _ _ _ => ReflectliteType.toType t)) Tryz.func37 (by kernel_rfl) (by kernel_rfl) (by kernel_rfl) (by kernel_rfl)
  have h8 := @run_callFunc_extern Tryz.prog 38 _ (ReflectliteValue.method (ReflectliteValue.valueError "reflectlite.Value.IsNil" 0) ReflectliteValue.isNil) Tryz.func38 (by kernel_rfl) (by kernel_rfl) (by kernel_rfl) (by kernel_rfl)
  have h27 := @run_callFunc_extern Tryz.prog 133 _ (ReflectliteType.abiMethod fun t => do pure (.int .u8 (← Rtype.kind t))) Tryz.func133 (by kernel_rfl) (by kernel_rfl) (by kernel_rfl) (by kernel_rfl)
  have h37 := @run_callFunc_extern Tryz.prog 145 _ (ReflectliteType.method ReflectliteType.elem) Tryz.func145 (by kernel_rfl) (by kernel_rfl) (by kernel_rfl) (by kernel_rfl)
  have h38 := @run_callFunc_extern Tryz.prog 146 _ (ReflectliteType.relation "Implements" ReflectliteType.implements_) Tryz.func146 (by kernel_rfl) (by kernel_rfl) (by kernel_rfl) (by kernel_rfl)
  have h10 := @run_callFunc_extern Tryz.prog 61 _ ReflectliteType.typeOf Tryz.func61 (by kernel_rfl) (by kernel_rfl) (by kernel_rfl) (by kernel_rfl)
  have h35 := @run_callFunc_extern Tryz.prog 143 _ (ReflectliteType.relation "AssignableTo" ReflectliteType.assignableTo) Tryz.func143 (by kernel_rfl) (by kernel_rfl) (by kernel_rfl) (by kernel_rfl)
  have h11 := @run_callFunc_extern Tryz.prog 62 _ (ReflectliteValue.method (ReflectliteValue.valueError "reflectlite.Value.Elem" 0) ReflectliteValue.elem) Tryz.func62 (by kernel_rfl) (by kernel_rfl) (by kernel_rfl) (by kernel_rfl)
  have h12 := @run_callFunc_extern Tryz.prog 63 _ ReflectliteValue.set Tryz.func63 (by kernel_rfl) (by kernel_rfl) (by kernel_rfl) (by kernel_rfl)
  have tO := as_typeOf25
  have tP := at_typeOf30
  have mA := as_methodAssignableTo
  have a30 := at_assignable30
  have a60 := at_assignable60
  have v30 := at_valueOf30
  have f6 := at_valueOf65
  have f7 := at_type65
  have nA := at_noAs60
  have hU := at_hasUnwrap60
  have mU := at_methodUnwrap
  have mK := as_methodKind
  have mE := as_methodElem
  have mI := as_methodImplements
  have k27 := at_kind65
  have k25 := at_kind30
  have e27 := at_elem65
  have i25 := at_implements30
  have n8 := at_isNil65 ⟨w.heap.size, 0, none⟩ t ((w.alloc (.cells #[.pointer (some t)] 65)).alloc (.cells #[.pointer (some ⟨2, 65, none⟩), .pointer (some ⟨w.heap.size, 0, none⟩), .int .u64 150] 86)) (by simp)
  have hlt : 0 < w.heap.size := by
    rcases Nat.eq_zero_or_pos w.heap.size with h0 | h
    · simp [World.cell?, h0] at hg
    · exact h
  have hg2 : ((w.alloc (.cells #[.pointer (some t)] 65)).alloc (.cells #[.pointer (some ⟨2, 65, none⟩), .pointer (some ⟨w.heap.size, 0, none⟩), .int .u64 150] 86)).cell? ⟨0, 0, none⟩ = some (.iface 121 (.agg #[.pointer (some ⟨2, 62, none⟩)])) := by
    rw [World.cell?_alloc_lt _ _ ⟨0, 0, none⟩ (by simp), World.cell?_alloc_lt _ _ ⟨0, 0, none⟩ hlt]; exact hg
  have htl : t.block < w.heap.size := by
    rcases Nat.lt_or_ge t.block w.heap.size with h | h
    · exact h
    · simp [World.cell?, Array.getElem?_eq_none h] at ht0
  have hel : eb < w.heap.size := by
    rcases Nat.lt_or_ge eb w.heap.size with h | h
    · exact h
    · simp [World.cell?, Array.getElem?_eq_none h] at h1
  have h1b : (((w.alloc (.cells #[.pointer (some t)] 65)).alloc (.cells #[.pointer (some ⟨2, 65, none⟩), .pointer (some ⟨w.heap.size, 0, none⟩), .int .u64 150] 86)).alloc (.cells #[.pointer (some ⟨2, 65, none⟩), .pointer (some ⟨w.heap.size, 0, none⟩), .int .u64 150] 86)).cell? ⟨eb, eo + 1, none⟩ = some (.iface 30 (.int .i64 n)) := by
    rw [World.cell?_alloc_lt _ _ ⟨eb, eo + 1, none⟩ (by simp; omega), World.cell?_alloc_lt _ _ ⟨eb, eo + 1, none⟩ (by simp; omega), World.cell?_alloc_lt _ _ ⟨eb, eo + 1, none⟩ hel]; exact h1
  have el := at_elemV65 ⟨w.heap.size, 0, none⟩ t (((w.alloc (.cells #[.pointer (some t)] 65)).alloc (.cells #[.pointer (some ⟨2, 65, none⟩), .pointer (some ⟨w.heap.size, 0, none⟩), .int .u64 150] 86)).alloc (.cells #[.pointer (some ⟨2, 65, none⟩), .pointer (some ⟨w.heap.size, 0, none⟩), .int .u64 150] 86)) (by rw [World.cell?_alloc_lt _ _ ⟨w.heap.size, 0, none⟩ (by simp; omega)]; simp)
  have st := at_set30 t ⟨w.heap.size + 1 + 1 + 1, 0, none⟩ n old ((((w.alloc (.cells #[.pointer (some t)] 65)).alloc (.cells #[.pointer (some ⟨2, 65, none⟩), .pointer (some ⟨w.heap.size, 0, none⟩), .int .u64 150] 86)).alloc (.cells #[.pointer (some ⟨2, 65, none⟩), .pointer (some ⟨w.heap.size, 0, none⟩), .int .u64 150] 86)).alloc (.cells #[.int .i64 n] 30))
    (by rw [World.cell?_alloc_at _ _ _ _ (by simp)]; rfl)
    (by rw [World.cell?_alloc_lt _ _ t (by simp; omega), World.cell?_alloc_lt _ _ t (by simp; omega), World.cell?_alloc_lt _ _ t (by simp; omega), World.cell?_alloc_lt _ _ t htl]; exact ht0)
    (by rw [World.frozen?_alloc_old _ _ t (by simp; omega), World.frozen?_alloc_old _ _ t (by simp; omega), World.frozen?_alloc_old _ _ t (by simp; omega), World.frozen?_alloc_old _ _ t (Nat.ne_of_lt htl)]; exact hf0)
  go_enter Tryz.func22, Tryz.ntmps22
  go_wp2
  refine wp_loop_rounds 2 ?_
  rw [rounds_succ]
  go_wp2
  rw [rounds_succ]
  go_wp2
  go_ret
  exact ⟨rfl, rfl⟩


end Go.Proofs.YtnpoicmaiieanaaGreatDoor.Tz
