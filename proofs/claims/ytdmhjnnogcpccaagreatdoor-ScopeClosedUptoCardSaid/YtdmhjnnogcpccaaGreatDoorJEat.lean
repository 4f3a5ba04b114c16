/- errors.As at an api.Errno, and at a *api.Fault where there is none; api.Code and api.At. api.Code and api.At. -/
import Derived.Test.YtdmhjnnogcpccaaGreatDoorJEas
import Derived.Test.YtdmhjnnogcpccaaGreatDoorJPre
import Derived.Test.YtdmhjnnogcpccaaGreatDoorJSca
section
namespace Go.Proofs.YtdmhjnnogcpccaaGreatDoor
open Go.RowKit Go.Extern.Stop Go.Stop Go.Extern
open Mu (Cl Bs Nd Ru Gr Tk)
set_option linter.unusedSimpArgs false
set_option linter.unusedVariables false

theorem As.valueOf82 (t : Addr) (w : World) : (ReflectliteValue.unpack (.iface 82 (.pointer (some t)))).run Tryz.prog w
    = .ok (.agg #[.pointer (some ⟨2, 82, none⟩), .pointer (some ⟨w.heap.size, 0, none⟩), .int .u64 150]) (w.alloc (.cells #[.pointer (some t)] 82)) := by kernel_rfl
theorem As.type82 (a : Addr) (w : World) : (ReflectliteValue.methodAny (ReflectliteValue.valueError "reflectlite.Value.Type" 0) (fun t _ _ _ => ReflectliteType.toType t) #[.agg #[.pointer (some ⟨2, 82, none⟩), .pointer (some a), .int .u64 150]]).run Tryz.prog w
    = .ok (.iface 174 (.agg #[.pointer (some ⟨2, 82, none⟩)])) w := by kernel_rfl
theorem As.kind82 (w : World) : ((ReflectliteType.abiMethod fun t => (fun a : Nat => Value.int IntKind.u8 (a : Int)) <$> Rtype.kind t) #[.pointer (some ⟨2, 82, none⟩)]).run Tryz.prog w = .ok (.int .u8 22) w := by kernel_rfl
theorem As.kind43 (w : World) : ((ReflectliteType.abiMethod fun t => (fun a : Nat => Value.int IntKind.u8 (a : Int)) <$> Rtype.kind t) #[.pointer (some ⟨2, 43, none⟩)]).run Tryz.prog w = .ok (.int .u8 2) w := by kernel_rfl
theorem As.parts82 (a : Addr) (w : World) : (ReflectliteValue.parts (.agg #[.pointer (some ⟨2, 82, none⟩), .pointer (some a), .int .u64 150])).run Tryz.prog w = .ok (some (82, a, 150)) w := by kernel_rfl
theorem As.isNil82 (a p : Addr) (W : World) (ha : W.cell? a = some (.pointer (some p))) :
    (ReflectliteValue.method (ReflectliteValue.valueError "reflectlite.Value.IsNil" 0) ReflectliteValue.isNil #[.agg #[.pointer (some ⟨2, 82, none⟩), .pointer (some a), .int .u64 150]]).run Tryz.prog W = .ok (.bool false) W := by
  rw [rlm]
  simp only [Sem.run_bind, As.parts82, Result.andThen]
  simp [ReflectliteValue.isNil, loadVar, isAgg, underlying, Tryz.underlying82, ha, Result.andThen]
theorem As.elem82 (w : World) : (ReflectliteType.method ReflectliteType.elem #[.agg #[.pointer (some ⟨2, 82, none⟩)]]).run Tryz.prog w = .ok (.iface 174 (.agg #[.pointer (some ⟨2, 43, none⟩)])) w := by kernel_rfl
theorem As.implements43 (w : World) : (ReflectliteType.relation "Implements" ReflectliteType.implements_ #[.agg #[.pointer (some ⟨2, 43, none⟩)], .iface 174 (.agg #[.pointer (some ⟨2, 35, none⟩)])]).run Tryz.prog w = .ok (.bool true) w := by kernel_rfl
theorem As.typeOf43 (v : Value) (w : World) : (ReflectliteType.typeOf #[.iface 43 v]).run Tryz.prog w = .ok (.iface 174 (.agg #[.pointer (some ⟨2, 43, none⟩)])) w := by kernel_rfl
theorem As.assignable43 (w : World) : (ReflectliteType.relation "AssignableTo" ReflectliteType.assignableTo #[.agg #[.pointer (some ⟨2, 43, none⟩)], .iface 174 (.agg #[.pointer (some ⟨2, 43, none⟩)])]).run Tryz.prog w = .ok (.bool true) w := by kernel_rfl
theorem As.assignable83to43 (w : World) : (ReflectliteType.relation "AssignableTo" ReflectliteType.assignableTo #[.agg #[.pointer (some ⟨2, 83, none⟩)], .iface 174 (.agg #[.pointer (some ⟨2, 43, none⟩)])]).run Tryz.prog w = .ok (.bool false) w := by kernel_rfl
theorem As.assignable43to83 (w : World) : (ReflectliteType.relation "AssignableTo" ReflectliteType.assignableTo #[.agg #[.pointer (some ⟨2, 43, none⟩)], .iface 174 (.agg #[.pointer (some ⟨2, 83, none⟩)])]).run Tryz.prog w = .ok (.bool false) w := by kernel_rfl
theorem As.valueOf43 (c : Int) (w : World) : (ReflectliteValue.unpack (.iface 43 (.int .i64 c))).run Tryz.prog w
    = .ok (.agg #[.pointer (some ⟨2, 43, none⟩), .pointer (some ⟨w.heap.size, 0, none⟩), .int .u64 130]) (w.alloc (.cells #[.int .i64 c] 43)) := by kernel_rfl
theorem As.elemOf82 (w : World) : (Rtype.elem? 82).run Tryz.prog w = .ok (some 43) w := by kernel_rfl
theorem As.mk43 (p : Addr) (w : World) : (ReflectliteValue.mk 43 p ReflectliteValue.flagAddr).run Tryz.prog w = .ok (.agg #[.pointer (some ⟨2, 43, none⟩), .pointer (some p), .int .u64 386]) w := by kernel_rfl
theorem As.elemV82 (a p : Addr) (W : World) (ha : W.cell? a = some (.pointer (some p))) :
    (ReflectliteValue.method (ReflectliteValue.valueError "reflectlite.Value.Elem" 0) ReflectliteValue.elem #[.agg #[.pointer (some ⟨2, 82, none⟩), .pointer (some a), .int .u64 150]]).run Tryz.prog W
      = .ok (.agg #[.pointer (some ⟨2, 43, none⟩), .pointer (some p), .int .u64 386]) W := by
  rw [rlm]
  simp only [Sem.run_bind, As.parts82, Result.andThen]
  simp [ReflectliteValue.elem, loadVar, isAgg, underlying, Tryz.underlying82, ha, Result.andThen, As.elemOf82, As.mk43]
theorem As.parts43a (a : Addr) (w : World) : (ReflectliteValue.parts (.agg #[.pointer (some ⟨2, 43, none⟩), .pointer (some a), .int .u64 386])).run Tryz.prog w = .ok (some (43, a, 386)) w := by kernel_rfl
theorem As.parts43 (a : Addr) (w : World) : (ReflectliteValue.parts (.agg #[.pointer (some ⟨2, 43, none⟩), .pointer (some a), .int .u64 130])).run Tryz.prog w = .ok (some (43, a, 130)) w := by kernel_rfl
theorem As.direct43 (w : World) : (Rtype.directlyAssignable 43 43).run Tryz.prog w = .ok true w := by kernel_rfl
theorem As.size43 (w : World) : (sizeOf 43).run Tryz.prog w = .ok 1 w := by kernel_rfl
theorem As.set43 (ta b : Addr) (c : Int) (old : Value) (W : World) (hb : W.cell? b = some (.int .i64 c)) (ht : W.cell? ta = some old) (hf : W.frozen? ta = false) :
    (ReflectliteValue.set #[.agg #[.pointer (some ⟨2, 43, none⟩), .pointer (some ta), .int .u64 386], .agg #[.pointer (some ⟨2, 43, none⟩), .pointer (some b), .int .u64 130]]).run Tryz.prog W
      = .ok (.tuple #[]) (W.setCell ta (.int .i64 c)) := by
  rw [rls]
  simp only [Sem.run_bind, As.parts43a, As.parts43, Result.andThen]
  simp [ReflectliteValue.flagAddr, loadVar, isAgg, underlying, Tryz.underlying43, hb, Result.andThen, As.direct43, storeVar, Value.cells, storeCells, Addr.add]
  rw [run_store Tryz.prog W ta _ _ (by rfl)]
  simp [ht, hf]
theorem As.methodUnwrap (h : Value) (w : World) : (Go.method 387 83 h "Unwrap").run Tryz.prog w = .ok (218, h) w := by kernel_rfl
theorem As.noAs83 (v : Value) (xT : TypeId) (w : World) : (Instr.typeAssert (.iface 83 v) xT 179 true).run Tryz.prog w = .ok (.tuple #[.nilIface, .bool false]) w := run_typeAssert_lacksB Tryz.underlying179 (by kernel_rfl) (by kernel_rfl) v xT w
theorem As.hasUnwrap83 (v : Value) (xT : TypeId) (w : World) : (Instr.typeAssert (.iface 83 v) xT 182 true).run Tryz.prog w = .ok (.tuple #[.iface 83 v, .bool true]) w := run_typeAssert_hasB Tryz.underlying182 (by kernel_rfl) v xT w
theorem As.noAs43 (v : Value) (xT : TypeId) (w : World) : (Instr.typeAssert (.iface 43 v) xT 179 true).run Tryz.prog w = .ok (.tuple #[.nilIface, .bool false]) w := run_typeAssert_lacksB Tryz.underlying179 (by kernel_rfl) (by kernel_rfl) v xT w
theorem As.noUnwrap43 (v : Value) (xT : TypeId) (w : World) : (Instr.typeAssert (.iface 43 v) xT 182 true).run Tryz.prog w = .ok (.tuple #[.nilIface, .bool false]) w := run_typeAssert_lacksB Tryz.underlying182 (by kernel_rfl) (by kernel_rfl) v xT w
theorem As.noUnwraps43 (v : Value) (xT : TypeId) (w : World) : (Instr.typeAssert (.iface 43 v) xT 183 true).run Tryz.prog w = .ok (.tuple #[.nilIface, .bool false]) w := run_typeAssert_lacksB Tryz.underlying183 (by kernel_rfl) (by kernel_rfl) v xT w

/-- the world in which errors.As stands at its loop -/
abbrev asW (T : TypeId) (t : Addr) (w : World) : World := ((w.alloc (.cells #[.pointer (some t)] T)).alloc (.cells #[.pointer (some ⟨2, T, none⟩), .pointer (some ⟨w.heap.size, 0, none⟩), .int .u64 150] 131)).alloc (.cells #[.pointer (some ⟨2, T, none⟩), .pointer (some ⟨w.heap.size, 0, none⟩), .int .u64 150] 131)

set_option maxHeartbeats 4000000 in
set_option maxRecDepth 100000 in
theorem as_errno (c : Int) (t : Addr) (old : Value) (w : World) (hg : w.cell? ⟨0, 0, none⟩ = some (.iface 174 (.agg #[.pointer (some ⟨2, 35, none⟩)]))) (ht0 : w.cell? t = some old) (hf0 : w.frozen? t = false) :
    Calls Tryz.prog 37 #[.iface 43 (.int .i64 c), .iface 82 (.pointer (some t))] w fun ev w' => ev = .returned (.bool true) ∧ w' = ((asW 82 t w).alloc (.cells #[.int .i64 c] 43)).setCell t (.int .i64 c) := by
  have h6 := @run_callFunc_extern Tryz.prog 68 _ (fun args => ReflectliteValue.unpack (args.getD 0 (.tuple #[]))) Tryz.func68 (by kernel_rfl) (by kernel_rfl) (by kernel_rfl) (by kernel_rfl)
  have h7 := @run_callFunc_extern Tryz.prog 69 _ (ReflectliteValue.methodAny (ReflectliteValue.valueError "reflectlite.Value.Type" 0) (fun t _ _ _ => ReflectliteType.toType t)) Tryz.func69 (by kernel_rfl) (by kernel_rfl) (by kernel_rfl) (by kernel_rfl)
  have h8 := @run_callFunc_extern Tryz.prog 70 _ (ReflectliteValue.method (ReflectliteValue.valueError "reflectlite.Value.IsNil" 0) ReflectliteValue.isNil) Tryz.func70 (by kernel_rfl) (by kernel_rfl) (by kernel_rfl) (by kernel_rfl)
  have h27 := @run_callFunc_extern Tryz.prog 213 _ (ReflectliteType.abiMethod fun t => do pure (.int .u8 (← Rtype.kind t))) Tryz.func213 (by kernel_rfl) (by kernel_rfl) (by kernel_rfl) (by kernel_rfl)
  have h37 := @run_callFunc_extern Tryz.prog 226 _ (ReflectliteType.method ReflectliteType.elem) Tryz.func226 (by kernel_rfl) (by kernel_rfl) (by kernel_rfl) (by kernel_rfl)
  have h38 := @run_callFunc_extern Tryz.prog 227 _ (ReflectliteType.relation "Implements" ReflectliteType.implements_) Tryz.func227 (by kernel_rfl) (by kernel_rfl) (by kernel_rfl) (by kernel_rfl)
  have h10 := @run_callFunc_extern Tryz.prog 103 _ ReflectliteType.typeOf Tryz.func103 (by kernel_rfl) (by kernel_rfl) (by kernel_rfl) (by kernel_rfl)
  have h35 := @run_callFunc_extern Tryz.prog 224 _ (ReflectliteType.relation "AssignableTo" ReflectliteType.assignableTo) Tryz.func224 (by kernel_rfl) (by kernel_rfl) (by kernel_rfl) (by kernel_rfl)
  have h11 := @run_callFunc_extern Tryz.prog 104 _ (ReflectliteValue.method (ReflectliteValue.valueError "reflectlite.Value.Elem" 0) ReflectliteValue.elem) Tryz.func104 (by kernel_rfl) (by kernel_rfl) (by kernel_rfl) (by kernel_rfl)
  have h12 := @run_callFunc_extern Tryz.prog 105 _ ReflectliteValue.set Tryz.func105 (by kernel_rfl) (by kernel_rfl) (by kernel_rfl) (by kernel_rfl)
  have tO := As.typeOf43
  have mA := As.methodAssignableTo
  have a25 := As.assignable43
  have v25 := As.valueOf43
  have f6 := As.valueOf82
  have f7 := As.type82
  have mK := As.methodKind
  have mE := As.methodElem
  have mI := As.methodImplements
  have k27 := As.kind82
  have k25 := As.kind43
  have e27 := As.elem82
  have i25 := As.implements43
  have n8 := As.isNil82 ⟨w.heap.size, 0, none⟩ t ((w.alloc (.cells #[.pointer (some t)] 82)).alloc (.cells #[.pointer (some ⟨2, 82, none⟩), .pointer (some ⟨w.heap.size, 0, none⟩), .int .u64 150] 131)) (by simp)
  have hlt : 0 < w.heap.size := by
    rcases Nat.eq_zero_or_pos w.heap.size with h0 | h
    · simp [World.cell?, h0] at hg
    · exact h
  have hg2 : ((w.alloc (.cells #[.pointer (some t)] 82)).alloc (.cells #[.pointer (some ⟨2, 82, none⟩), .pointer (some ⟨w.heap.size, 0, none⟩), .int .u64 150] 131)).cell? ⟨0, 0, none⟩ = some (.iface 174 (.agg #[.pointer (some ⟨2, 35, none⟩)])) := by
    rw [World.cell?_alloc_lt _ _ ⟨0, 0, none⟩ (by simp), World.cell?_alloc_lt _ _ ⟨0, 0, none⟩ hlt]; exact hg
  have htl : t.block < w.heap.size := by
    rcases Nat.lt_or_ge t.block w.heap.size with h | h
    · exact h
    · simp [World.cell?, Array.getElem?_eq_none h] at ht0
  have el := As.elemV82 ⟨w.heap.size, 0, none⟩ t (asW 82 t w) (by unfold asW; rw [World.cell?_alloc_lt _ _ ⟨w.heap.size, 0, none⟩ (by simp; omega)]; simp)
  have st := As.set43 t ⟨w.heap.size + 1 + 1 + 1, 0, none⟩ c old ((asW 82 t w).alloc (.cells #[.int .i64 c] 43))
    (by unfold asW; rw [World.cell?_alloc_at _ _ _ _ (by simp)]; rfl)
    (by unfold asW; rw [World.cell?_alloc_lt _ _ t (by simp; omega), World.cell?_alloc_lt _ _ t (by simp; omega), World.cell?_alloc_lt _ _ t (by simp; omega), World.cell?_alloc_lt _ _ t htl]; exact ht0)
    (by unfold asW; rw [World.frozen?_alloc_old _ _ t (by simp; omega), World.frozen?_alloc_old _ _ t (by simp; omega), World.frozen?_alloc_old _ _ t (by simp; omega), World.frozen?_alloc_old _ _ t (Nat.ne_of_lt htl)]; exact hf0)
  go_enter Tryz.func37, Tryz.ntmps37
  go_wp2
  refine wp_loop_rounds 1 ?_
  rw [rounds_succ]
  go_wp2
  go_ret
  exact ⟨rfl, rfl⟩

set_option maxHeartbeats 4000000 in
set_option maxRecDepth 100000 in
theorem as_fault_errno (c : Int) (p t : Addr) (old : Value) (w : World) (hg : w.cell? ⟨0, 0, none⟩ = some (.iface 174 (.agg #[.pointer (some ⟨2, 35, none⟩)]))) (hp : p.off = 0 ∧ p.spot = none) (hc : w.cell? p = some (.int .i64 c)) (ht0 : w.cell? t = some old) (hf0 : w.frozen? t = false) :
    Calls Tryz.prog 37 #[.iface 83 (.pointer (some p)), .iface 82 (.pointer (some t))] w fun ev w' => ev = .returned (.bool true) ∧ w' = ((asW 82 t w).alloc (.cells #[.int .i64 c] 43)).setCell t (.int .i64 c) := by
  have h6 := @run_callFunc_extern Tryz.prog 68 _ (fun args => ReflectliteValue.unpack (args.getD 0 (.tuple #[]))) Tryz.func68 (by kernel_rfl) (by kernel_rfl) (by kernel_rfl) (by kernel_rfl)
  have h7 := @run_callFunc_extern Tryz.prog 69 _ (ReflectliteValue.methodAny (ReflectliteValue.valueError "reflectlite.Value.Type" 0) (fun t _ _ _ => ReflectliteType.toType t)) Tryz.func69 (by kernel_rfl) (by kernel_rfl) (by kernel_rfl) (by kernel_rfl)
  have h8 := @run_callFunc_extern Tryz.prog 70 _ (ReflectliteValue.method (ReflectliteValue.valueError "reflectlite.Value.IsNil" 0) ReflectliteValue.isNil) Tryz.func70 (by kernel_rfl) (by kernel_rfl) (by kernel_rfl) (by kernel_rfl)
  have h27 := @run_callFunc_extern Tryz.prog 213 _ (ReflectliteType.abiMethod fun t => do pure (.int .u8 (← Rtype.kind t))) Tryz.func213 (by kernel_rfl) (by kernel_rfl) (by kernel_rfl) (by kernel_rfl)
  have h37 := @run_callFunc_extern Tryz.prog 226 _ (ReflectliteType.method ReflectliteType.elem) Tryz.func226 (by kernel_rfl) (by kernel_rfl) (by kernel_rfl) (by kernel_rfl)
  have h38 := @run_callFunc_extern Tryz.prog 227 _ (ReflectliteType.relation "Implements" ReflectliteType.implements_) Tryz.func227 (by kernel_rfl) (by kernel_rfl) (by kernel_rfl) (by kernel_rfl)
  have h10 := @run_callFunc_extern Tryz.prog 103 _ ReflectliteType.typeOf Tryz.func103 (by kernel_rfl) (by kernel_rfl) (by kernel_rfl) (by kernel_rfl)
  have h35 := @run_callFunc_extern Tryz.prog 224 _ (ReflectliteType.relation "AssignableTo" ReflectliteType.assignableTo) Tryz.func224 (by kernel_rfl) (by kernel_rfl) (by kernel_rfl) (by kernel_rfl)
  have h11 := @run_callFunc_extern Tryz.prog 104 _ (ReflectliteValue.method (ReflectliteValue.valueError "reflectlite.Value.Elem" 0) ReflectliteValue.elem) Tryz.func104 (by kernel_rfl) (by kernel_rfl) (by kernel_rfl) (by kernel_rfl)
  have h12 := @run_callFunc_extern Tryz.prog 105 _ ReflectliteValue.set Tryz.func105 (by kernel_rfl) (by kernel_rfl) (by kernel_rfl) (by kernel_rfl)
  have tO := As.typeOf43
  have tO2 := As.typeOf25
  have mA := As.methodAssignableTo
  have a25 := As.assignable43
  have a26 := As.assignable83to43
  have mU := As.methodUnwrap
  have nA := As.noAs83
  have hU := As.hasUnwrap83
  have v25 := As.valueOf43
  have f6 := As.valueOf82
  have f7 := As.type82
  have mK := As.methodKind
  have mE := As.methodElem
  have mI := As.methodImplements
  have k27 := As.kind82
  have k25 := As.kind43
  have e27 := As.elem82
  have i25 := As.implements43
  have n8 := As.isNil82 ⟨w.heap.size, 0, none⟩ t ((w.alloc (.cells #[.pointer (some t)] 82)).alloc (.cells #[.pointer (some ⟨2, 82, none⟩), .pointer (some ⟨w.heap.size, 0, none⟩), .int .u64 150] 131)) (by simp)
  have hlt : 0 < w.heap.size := by
    rcases Nat.eq_zero_or_pos w.heap.size with h0 | h
    · simp [World.cell?, h0] at hg
    · exact h
  have hg2 : ((w.alloc (.cells #[.pointer (some t)] 82)).alloc (.cells #[.pointer (some ⟨2, 82, none⟩), .pointer (some ⟨w.heap.size, 0, none⟩), .int .u64 150] 131)).cell? ⟨0, 0, none⟩ = some (.iface 174 (.agg #[.pointer (some ⟨2, 35, none⟩)])) := by
    rw [World.cell?_alloc_lt _ _ ⟨0, 0, none⟩ (by simp), World.cell?_alloc_lt _ _ ⟨0, 0, none⟩ hlt]; exact hg
  have htl : t.block < w.heap.size := by
    rcases Nat.lt_or_ge t.block w.heap.size with h | h
    · exact h
    · simp [World.cell?, Array.getElem?_eq_none h] at ht0
  have hpl : p.block < w.heap.size := by
    rcases Nat.lt_or_ge p.block w.heap.size with h | h
    · exact h
    · simp [World.cell?, Array.getElem?_eq_none h] at hc
  obtain ⟨pb, po, ps⟩ := p
  obtain ⟨rfl, rfl⟩ := hp
  have hpl' : pb < w.heap.size := hpl
  clear hpl
  have hc2 : (asW 82 t w).cell? ⟨pb, 0, none⟩ = some (.int .i64 c) := by
    unfold asW; rw [World.cell?_alloc_lt _ _ ⟨pb, 0, none⟩ (by show pb < _; simp; omega), World.cell?_alloc_lt _ _ ⟨pb, 0, none⟩ (by show pb < _; simp; omega), World.cell?_alloc_lt _ _ ⟨pb, 0, none⟩ hpl']; exact hc
  have el := As.elemV82 ⟨w.heap.size, 0, none⟩ t (asW 82 t w) (by unfold asW; rw [World.cell?_alloc_lt _ _ ⟨w.heap.size, 0, none⟩ (by simp; omega)]; simp)
  have st := As.set43 t ⟨w.heap.size + 1 + 1 + 1, 0, none⟩ c old ((asW 82 t w).alloc (.cells #[.int .i64 c] 43))
    (by unfold asW; rw [World.cell?_alloc_at _ _ _ _ (by simp)]; rfl)
    (by unfold asW; rw [World.cell?_alloc_lt _ _ t (by simp; omega), World.cell?_alloc_lt _ _ t (by simp; omega), World.cell?_alloc_lt _ _ t (by simp; omega), World.cell?_alloc_lt _ _ t htl]; exact ht0)
    (by unfold asW; rw [World.frozen?_alloc_old _ _ t (by simp; omega), World.frozen?_alloc_old _ _ t (by simp; omega), World.frozen?_alloc_old _ _ t (by simp; omega), World.frozen?_alloc_old _ _ t (Nat.ne_of_lt htl)]; exact hf0)
  go_enter Tryz.func37, Tryz.ntmps37
  go_wp2
  refine wp_loop_rounds 2 ?_
  rw [rounds_succ]
  go_wp2
  rw [rounds_succ]
  go_wp2
  go_ret
  exact ⟨rfl, rfl⟩

set_option maxHeartbeats 4000000 in
set_option maxRecDepth 100000 in
theorem as_errno_fault (c : Int) (t : Addr) (old : Value) (w : World) (hg : w.cell? ⟨0, 0, none⟩ = some (.iface 174 (.agg #[.pointer (some ⟨2, 35, none⟩)]))) (ht0 : w.cell? t = some old) :
    Calls Tryz.prog 37 #[.iface 43 (.int .i64 c), .iface 84 (.pointer (some t))] w fun ev w' => ev = .returned (.bool false) ∧ w' = asW 84 t w := by
  have h6 := @run_callFunc_extern Tryz.prog 68 _ (fun args => ReflectliteValue.unpack (args.getD 0 (.tuple #[]))) Tryz.func68 (by kernel_rfl) (by kernel_rfl) (by kernel_rfl) (by kernel_rfl)
  have h7 := @run_callFunc_extern Tryz.prog 69 _ (ReflectliteValue.methodAny (ReflectliteValue.valueError "reflectlite.Value.Type" 0) (fun t _ _ _ => ReflectliteType.toType t)) Tryz.func69 (by kernel_rfl) (by kernel_rfl) (by kernel_rfl) (by kernel_rfl)
  have h8 := @run_callFunc_extern Tryz.prog 70 _ (ReflectliteValue.method (ReflectliteValue.valueError "reflectlite.Value.IsNil" 0) ReflectliteValue.isNil) Tryz.func70 (by kernel_rfl) (by kernel_rfl) (by kernel_rfl) (by kernel_rfl)
  have h27 := @run_callFunc_extern Tryz.prog 213 _ (ReflectliteType.abiMethod fun t => do pure (.int .u8 (← Rtype.kind t))) Tryz.func213 (by kernel_rfl) (by kernel_rfl) (by kernel_rfl) (by kernel_rfl)
  have h37 := @run_callFunc_extern Tryz.prog 226 _ (ReflectliteType.method ReflectliteType.elem) Tryz.func226 (by kernel_rfl) (by kernel_rfl) (by kernel_rfl) (by kernel_rfl)
  have h38 := @run_callFunc_extern Tryz.prog 227 _ (ReflectliteType.relation "Implements" ReflectliteType.implements_) Tryz.func227 (by kernel_rfl) (by kernel_rfl) (by kernel_rfl) (by kernel_rfl)
  have h10 := @run_callFunc_extern Tryz.prog 103 _ ReflectliteType.typeOf Tryz.func103 (by kernel_rfl) (by kernel_rfl) (by kernel_rfl) (by kernel_rfl)
  have h35 := @run_callFunc_extern Tryz.prog 224 _ (ReflectliteType.relation "AssignableTo" ReflectliteType.assignableTo) Tryz.func224 (by kernel_rfl) (by kernel_rfl) (by kernel_rfl) (by kernel_rfl)
  have h11 := @run_callFunc_extern Tryz.prog 104 _ (ReflectliteValue.method (ReflectliteValue.valueError "reflectlite.Value.Elem" 0) ReflectliteValue.elem) Tryz.func104 (by kernel_rfl) (by kernel_rfl) (by kernel_rfl) (by kernel_rfl)
  have h12 := @run_callFunc_extern Tryz.prog 105 _ ReflectliteValue.set Tryz.func105 (by kernel_rfl) (by kernel_rfl) (by kernel_rfl) (by kernel_rfl)
  have tO := As.typeOf43
  have mA := As.methodAssignableTo
  have a26 := As.assignable43to83
  have nA := As.noAs43
  have nU := As.noUnwrap43
  have nV := As.noUnwraps43
  have f6 := As.valueOf27
  have f7 := As.type27
  have mK := As.methodKind
  have mE := As.methodElem
  have mI := As.methodImplements
  have k27 := As.kind27
  have k25 := As.kind25
  have e27 := As.elem27
  have i25 := As.implements25
  have n8 := As.isNil27 ⟨w.heap.size, 0, none⟩ t ((w.alloc (.cells #[.pointer (some t)] 84)).alloc (.cells #[.pointer (some ⟨2, 84, none⟩), .pointer (some ⟨w.heap.size, 0, none⟩), .int .u64 150] 131)) (by simp)
  have hlt : 0 < w.heap.size := by
    rcases Nat.eq_zero_or_pos w.heap.size with h0 | h
    · simp [World.cell?, h0] at hg
    · exact h
  have hg2 : ((w.alloc (.cells #[.pointer (some t)] 84)).alloc (.cells #[.pointer (some ⟨2, 84, none⟩), .pointer (some ⟨w.heap.size, 0, none⟩), .int .u64 150] 131)).cell? ⟨0, 0, none⟩ = some (.iface 174 (.agg #[.pointer (some ⟨2, 35, none⟩)])) := by
    rw [World.cell?_alloc_lt _ _ ⟨0, 0, none⟩ (by simp), World.cell?_alloc_lt _ _ ⟨0, 0, none⟩ hlt]; exact hg
  go_enter Tryz.func37, Tryz.ntmps37
  go_wp2
  refine wp_loop_rounds 1 ?_
  rw [rounds_succ]
  go_wp2
  go_ret
  exact ⟨rfl, rfl⟩

end Go.Proofs.YtdmhjnnogcpccaaGreatDoor
end

section
namespace Go.Proofs.YtdmhjnnogcpccaaGreatDoor
open Go.RowKit
open Mu (Cl Bs Nd Ru Gr Tk)
set_option linter.unusedSimpArgs false
set_option linter.unusedVariables false

attribute [local irreducible] wpQuiet wpStill
attribute [local go_sem ↓] Go.wp_at_zero Go.wp_at_succ

def codeOf : Option Mu.Er → Int
  | none => 0
  | some (.no c) => c
  | some (.at f) => f.code
def placeAt : Option Mu.Er → Int
  | some (.at f) => f.place
  | _ => -1

theorem as_end {T : TypeId} {t : Addr} {w : World} {o : Obj} (x old : Value) (ht : t.block < w.heap.size) (ht0 : w.cell? t = some old) :
    (((asW T t w).alloc o).setCell t x).cell? t = some x ∧ Below t.block w (((asW T t w).alloc o).setCell t x) := by
  refine ⟨World.cell?_setCell_same _ _ _ (u := old) ?_, ?_⟩
  · unfold asW
    rw [World.cell?_alloc_lt _ _ t (by simp; omega), World.cell?_alloc_lt _ _ t (by simp; omega), World.cell?_alloc_lt _ _ t (by simp; omega), World.cell?_alloc_lt _ _ t ht]
    exact ht0
  · unfold asW
    exact (((((Below.refl _ _).alloc (by omega) _).alloc (by simp; omega) _).alloc (by simp; omega) _).alloc (by simp; omega) _).setCell (Nat.le_refl _) _

theorem as_errno' (c : Int) (t : Addr) (old : Value) (w : World) (hG : ErrT w) (ht : t.block < w.heap.size) (ht0 : w.cell? t = some old) (hf0 : w.frozen? t = false) :
    Calls Tryz.prog 37 #[.iface 43 (.int .i64 c), .iface 82 (.pointer (some t))] w fun ev w' => ev = .returned (.bool true) ∧ w'.cell? t = some (.int .i64 c) ∧ Below t.block w w' :=
  (as_errno c t old w hG.1 ht0 hf0).mono (by rintro e w' ⟨rfl, rfl⟩; exact ⟨rfl, as_end _ old ht ht0⟩)

theorem as_fault_errno' (c : Int) (p : Nat) (t : Addr) (old : Value) (w : World) (hG : ErrT w) (hp : w.cell? ⟨p, 0, none⟩ = some (.int .i64 c)) (ht : t.block < w.heap.size) (ht0 : w.cell? t = some old) (hf0 : w.frozen? t = false) :
    Calls Tryz.prog 37 #[.iface 83 (.pointer (some ⟨p, 0, none⟩)), .iface 82 (.pointer (some t))] w fun ev w' => ev = .returned (.bool true) ∧ w'.cell? t = some (.int .i64 c) ∧ Below t.block w w' :=
  (as_fault_errno c ⟨p, 0, none⟩ t old w hG.1 ⟨rfl, rfl⟩ hp ht0 hf0).mono (by rintro e w' ⟨rfl, rfl⟩; exact ⟨rfl, as_end _ old ht ht0⟩)

theorem as_hit' (e t : Addr) (old : Value) (w : World) (hG : ErrT w) (ht : t.block < w.heap.size) (ht0 : w.cell? t = some old) (hf0 : w.frozen? t = false) :
    Calls Tryz.prog 37 #[.iface 83 (.pointer (some e)), .iface 84 (.pointer (some t))] w fun ev w' => ev = .returned (.bool true) ∧ w'.cell? t = some (.pointer (some e)) ∧ Below t.block w w' :=
  (as_hit e t old w hG.1 ht0 hf0).mono (by rintro e w' ⟨rfl, rfl⟩; exact ⟨rfl, as_end _ old ht ht0⟩)

set_option maxHeartbeats 4000000 in
set_option maxRecDepth 20000 in
theorem api_code (B : Nat) (er : Option Mu.Er) (v : Value) (w : World) (hv : ErV B v er w) (hG : ErrT w) :
    Calls Tryz.prog 13 #[v] w fun e w' => e = .returned (.int .i64 (codeOf er)) ∧ Below w.heap.size w w' := by
  have hG1 : ErrT (w.alloc (.cells #[.int .i64 0] 43)) := hG.keep ((Below.refl w.heap.size w).alloc (Nat.le_refl _) _) hG.2
  have HG := Lib.hid hG1
  clear hG hG1
  match er, hv with
  | none, hv =>
    obtain rfl : v = .nilIface := hv
    go_enter Tryz.func13, Tryz.ntmps13
    go_wp2_with fail
    go_ret
    exact ⟨rfl, Below.refl _ _⟩
  | some (.no c), hv =>
    obtain rfl : v = errnoV c := hv
    have HA := Lib.hid (as_errno' c ⟨w.heap.size, 0, none⟩ (.int .i64 0) _ HG.out (by simp) (by simp) (by simp))
    clear hv
    go_enter Tryz.func13, Tryz.ntmps13
    go_wp2_with fail
    refine HA.out.mono ?_
    rintro e w2 ⟨rfl, hc2, hb2⟩
    have HB := Lib.hid (Below.trans (by (repeat' (first | exact Below.refl _ _ | assumption | refine Below.drew ?_ | refine Below.drewN' ?_ _ | refine Below.setCell ?_ (by first | (simp; done) | omega | (simp; omega)) _ | refine Below.alloc ?_ (by first | (simp; done) | omega | (simp; omega)) _ | refine Below.step ?_ (by assumption) (by first | (simp; done) | omega | (simp; omega)))) : Below w.heap.size w (w.alloc (.cells #[.int .i64 0] 43))) hb2)
    clear hb2
    go_wp2_with fail
    go_ret
    exact ⟨rfl, HB.out⟩
  | some (.at f), hv =>
    obtain ⟨p, hp, rfl, hq⟩ := hv
    have hpl := lt_of_some hq
    have q1 : (w.alloc (.cells #[.int .i64 0] 43)).cell? ⟨p, 0, none⟩ = some (.int .i64 f.code) := by
      rw [World.cell?_alloc_lt _ _ ⟨p, 0, none⟩ hpl]
      exact cell_at hq 0
    have HA := Lib.hid (as_fault_errno' f.code p ⟨w.heap.size, 0, none⟩ (.int .i64 0) _ HG.out q1 (by simp) (by simp) (by simp))
    clear hq q1
    go_enter Tryz.func13, Tryz.ntmps13
    go_wp2_with fail
    refine HA.out.mono ?_
    rintro e w2 ⟨rfl, hc2, hb2⟩
    have HB := Lib.hid (Below.trans (by (repeat' (first | exact Below.refl _ _ | assumption | refine Below.drew ?_ | refine Below.drewN' ?_ _ | refine Below.setCell ?_ (by first | (simp; done) | omega | (simp; omega)) _ | refine Below.alloc ?_ (by first | (simp; done) | omega | (simp; omega)) _ | refine Below.step ?_ (by assumption) (by first | (simp; done) | omega | (simp; omega)))) : Below w.heap.size w (w.alloc (.cells #[.int .i64 0] 43))) hb2)
    clear hb2
    go_wp2_with fail
    go_ret
    exact ⟨rfl, HB.out⟩

set_option maxHeartbeats 4000000 in
set_option maxRecDepth 20000 in
theorem api_at (B : Nat) (er : Option Mu.Er) (v : Value) (w : World) (hv : ErV B v er w) (hG : ErrT w) :
    Calls Tryz.prog 14 #[v] w fun e w' => e = .returned (.int .i64 (placeAt er)) ∧ Below w.heap.size w w' := by
  have hG1 : ErrT (w.alloc (.cells #[.pointer none] 83)) := hG.keep ((Below.refl w.heap.size w).alloc (Nat.le_refl _) _) hG.2
  have HG := Lib.hid hG1
  clear hG hG1
  match er, hv with
  | none, hv =>
    obtain rfl : v = .nilIface := hv
    have HA := Lib.hid (as_nil (.iface 84 (.pointer (some ⟨w.heap.size, 0, none⟩))) (w.alloc (.cells #[.pointer none] 83)))
    go_enter Tryz.func14, Tryz.ntmps14
    go_wp2_with fail
    refine HA.out.mono ?_
    rintro e w2 ⟨rfl, rfl⟩
    go_wp2_with fail
    go_ret
    exact ⟨rfl, by (repeat' (first | exact Below.refl _ _ | assumption | refine Below.drew ?_ | refine Below.drewN' ?_ _ | refine Below.setCell ?_ (by first | (simp; done) | omega | (simp; omega)) _ | refine Below.alloc ?_ (by first | (simp; done) | omega | (simp; omega)) _ | refine Below.step ?_ (by assumption) (by first | (simp; done) | omega | (simp; omega))))⟩
  | some (.no c), hv =>
    obtain rfl : v = errnoV c := hv
    have HA := Lib.hid (as_errno_fault c ⟨w.heap.size, 0, none⟩ (.pointer none) _ HG.out.1 (by simp))
    clear hv
    go_enter Tryz.func14, Tryz.ntmps14
    go_wp2_with fail
    refine HA.out.mono ?_
    rintro e w2 ⟨rfl, rfl⟩
    go_wp2_with fail
    go_ret
    exact ⟨rfl, by unfold asW; (repeat' (first | exact Below.refl _ _ | assumption | refine Below.drew ?_ | refine Below.drewN' ?_ _ | refine Below.setCell ?_ (by first | (simp; done) | omega | (simp; omega)) _ | refine Below.alloc ?_ (by first | (simp; done) | omega | (simp; omega)) _ | refine Below.step ?_ (by assumption) (by first | (simp; done) | omega | (simp; omega))))⟩
  | some (.at f), hv =>
    obtain ⟨p, hp, rfl, hq⟩ := hv
    have hpl := lt_of_some hq
    have HA := Lib.hid (as_hit' ⟨p, 0, none⟩ ⟨w.heap.size, 0, none⟩ (.pointer none) _ HG.out (by simp) (by simp) (by simp))
    have q1 : w.cell? ⟨p, 1, none⟩ = some (.int .i64 f.place) := cell_at hq 1
    have HQ := Lib.hid q1
    clear hq q1
    go_enter Tryz.func14, Tryz.ntmps14
    go_wp2_with fail
    refine HA.out.mono ?_
    rintro e w2 ⟨rfl, hc2, hb2⟩
    have q2 : w2.cell? ⟨p, 1, none⟩ = some (.int .i64 f.place) := by
      rw [hb2.cell (p := ⟨p, 1, none⟩) hpl, World.cell?_alloc_lt _ _ ⟨p, 1, none⟩ hpl]
      exact HQ.out
    have HB := Lib.hid (Below.trans (by (repeat' (first | exact Below.refl _ _ | assumption | refine Below.drew ?_ | refine Below.drewN' ?_ _ | refine Below.setCell ?_ (by first | (simp; done) | omega | (simp; omega)) _ | refine Below.alloc ?_ (by first | (simp; done) | omega | (simp; omega)) _ | refine Below.step ?_ (by assumption) (by first | (simp; done) | omega | (simp; omega)))) : Below w.heap.size w (w.alloc (.cells #[.pointer none] 83))) hb2)
    clear hb2
    go_wp2_with fail
    go_ret
    exact ⟨rfl, HB.out⟩

end Go.Proofs.YtdmhjnnogcpccaaGreatDoor
end
