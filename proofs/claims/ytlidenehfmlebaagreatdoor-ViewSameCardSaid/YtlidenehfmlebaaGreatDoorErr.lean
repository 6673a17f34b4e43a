/-
  Contracts of Go's errors.As and errors.Is at the program's two error types (Errno, a whole number; *Fault, a place and an Errno behind a pointer), and of code.Number and code.Place, over this seat's translation.
-/
import Derived.Test.YtlidenehfmlebaaGreatDoorProg
import Derived.WalkKit
import Derived.LaidEql
import Derived.Below
import Derived.Deep.Draws
import Derived.Stop.Asserts
import Derived.RowKitTokens
import Derived.WalkLawsBesides
import Derived.WalkSpells
import Derived.Deep.QuietTactic
import Derived.BigQuiet
import Derived.Deep.RegionWith
set_option linter.unusedVariables false
set_option linter.unusedSimpArgs false
namespace Go.Proofs.YtlidenehfmlebaaGreatDoor
open Go.RowKit Go.Extern.Stop Go.Stop Go.Extern

/-- The variable that strings.Index reads holds a number. -/
def EnvM (w : World) : Prop := ∃ m, w.cell? ⟨1, 0, none⟩ = some (.int .i64 m)
theorem EnvM.below {w w' : World} (h : EnvM w) (hb : Below w.heap.size w w') : EnvM w' :=
  h.elim fun m hm => ⟨m, (hb.cell (World.block_lt_of_cell? w _ hm)).trans hm⟩
/-- What the run needs of the package-level variables. -/
structure Env (w : World) : Prop where
  et : w.cell? ⟨0, 0, none⟩ = some (.iface 203 (.agg #[.pointer (some ⟨4, 62, none⟩)]))
  ml : EnvM w
theorem Env.below {w w' : World} (h : Env w) (hb : Below w.heap.size w w') : Env w' :=
  ⟨(hb.cell (World.block_lt_of_cell? w _ h.et)).trans h.et, h.ml.below hb⟩

/-! ### the model's entries for reflectlite, at the two targets -/
theorem rlm (z : Sem Value) (f : TypeId → Addr → Nat → Nat → Sem Value) (v : Value) :
    ReflectliteValue.method z f #[v] = (do match ← ReflectliteValue.parts v with | none => z | some (t, a, fl) => f t a fl (fl % 32)) := rfl
theorem rls (v x : Value) : ReflectliteValue.set #[v, x] = (do
    let (some (dst, a, fl), some (src, b, _)) := (← ReflectliteValue.parts v, ← ReflectliteValue.parts x)
      | unsupported (.noEntry "extern/(internal/reflectlite.Value).Set.zeroValue")
    if fl / ReflectliteValue.flagAddr % 2 == 0 then unsupported (.noEntry "extern/(internal/reflectlite.Value).Set.unaddressable")
    let val ← loadVar src b
    if ← Rtype.directlyAssignable dst src then storeVar dst a val
    else if ← Rtype.implements dst src then
      if (← Rtype.kind src) == 20 then
        match val with
        | .nilIface => unsupported (.noEntry "extern/reflectlite: a nil value of one interface type handed on as a value of another")
        | _ => storeVar dst a val
      else storeVar dst a (.iface src val)
    else panicString ("reflectlite.Set: value of type " ++ (← Rtype.spelt src) ++ " is not assignable to type " ++ (← Rtype.spelt dst))
    pure (.tuple #[])) := rfl
theorem mKind (h : Value) (w : World) : (Go.method 402 203 (.agg #[h]) "Kind").run Tryz.prog w = .ok (174, h) w := by kernel_rfl
theorem mElem (h : Value) (w : World) : (Go.method 402 203 (.agg #[h]) "Elem").run Tryz.prog w = .ok (188, .agg #[h]) w := by kernel_rfl
theorem mImplements (h : Value) (w : World) : (Go.method 402 203 (.agg #[h]) "Implements").run Tryz.prog w = .ok (189, .agg #[h]) w := by kernel_rfl
theorem mAssignableTo (h : Value) (w : World) : (Go.method 402 203 (.agg #[h]) "AssignableTo").run Tryz.prog w = .ok (186, .agg #[h]) w := by kernel_rfl
theorem mComparable (h : Value) (w : World) : (Go.method 402 203 (.agg #[h]) "Comparable").run Tryz.prog w = .ok (187, .agg #[h]) w := by kernel_rfl

-- the target **Fault
theorem kindPF (w : World) : ((ReflectliteType.abiMethod fun t => (fun a : Nat => Value.int IntKind.u8 (a : Int)) <$> Rtype.kind t) #[.pointer (some ⟨4, 186, none⟩)]).run Tryz.prog w = .ok (.int .u8 22) w := by kernel_rfl
theorem implementsPF (w : World) : (ReflectliteType.relation "Implements" ReflectliteType.implements_ #[.agg #[.pointer (some ⟨4, 186, none⟩)], .iface 203 (.agg #[.pointer (some ⟨4, 62, none⟩)])]).run Tryz.prog w = .ok (.bool true) w := by kernel_rfl
theorem mkPF (p : Addr) (w : World) : (ReflectliteValue.mk 186 p ReflectliteValue.flagAddr).run Tryz.prog w = .ok (.agg #[.pointer (some ⟨4, 186, none⟩), .pointer (some p), .int .u64 406]) w := by kernel_rfl
theorem partsPFa (a : Addr) (w : World) : (ReflectliteValue.parts (.agg #[.pointer (some ⟨4, 186, none⟩), .pointer (some a), .int .u64 406])).run Tryz.prog w = .ok (some (186, a, 406)) w := by kernel_rfl
theorem partsPF (a : Addr) (w : World) : (ReflectliteValue.parts (.agg #[.pointer (some ⟨4, 186, none⟩), .pointer (some a), .int .u64 150])).run Tryz.prog w = .ok (some (186, a, 150)) w := by kernel_rfl
theorem directPF (w : World) : (Rtype.directlyAssignable 186 186).run Tryz.prog w = .ok true w := by kernel_rfl
theorem setPF (ta b e : Addr) (old : Value) (W : World) (hb : W.cell? b = some (.pointer (some e))) (ht : W.cell? ta = some old) (hf : W.frozen? ta = false) :
    (ReflectliteValue.set #[.agg #[.pointer (some ⟨4, 186, none⟩), .pointer (some ta), .int .u64 406], .agg #[.pointer (some ⟨4, 186, none⟩), .pointer (some b), .int .u64 150]]).run Tryz.prog W
      = .ok (.tuple #[]) (W.setCell ta (.pointer (some e))) := by
  rw [rls]
  simp only [Sem.run_bind, partsPFa, partsPF, Result.andThen]
  simp [ReflectliteValue.flagAddr, loadVar, isAgg, underlying, Tryz.underlying186, hb, Result.andThen, directPF, storeVar, Value.cells, storeCells, Addr.add]
  rw [run_store Tryz.prog W ta _ _ (by rfl)]
  simp [ht, hf]
theorem typeOfPF (v : Value) (w : World) : (ReflectliteType.typeOf #[.iface 186 v]).run Tryz.prog w = .ok (.iface 203 (.agg #[.pointer (some ⟨4, 186, none⟩)])) w := by kernel_rfl
theorem assignPFPF (w : World) : (ReflectliteType.relation "AssignableTo" ReflectliteType.assignableTo #[.agg #[.pointer (some ⟨4, 186, none⟩)], .iface 203 (.agg #[.pointer (some ⟨4, 186, none⟩)])]).run Tryz.prog w = .ok (.bool true) w := by kernel_rfl
theorem valueOfPF (e : Addr) (w : World) : (ReflectliteValue.unpack (.iface 186 (.pointer (some e)))).run Tryz.prog w
    = .ok (.agg #[.pointer (some ⟨4, 186, none⟩), .pointer (some ⟨w.heap.size, 0, none⟩), .int .u64 150]) (w.alloc (.cells #[.pointer (some e)] 186)) := by kernel_rfl

-- the target *Errno
theorem valueOfPE (t : Addr) (w : World) : (ReflectliteValue.unpack (.iface 146 (.pointer (some t)))).run Tryz.prog w
    = .ok (.agg #[.pointer (some ⟨4, 146, none⟩), .pointer (some ⟨w.heap.size, 0, none⟩), .int .u64 150]) (w.alloc (.cells #[.pointer (some t)] 146)) := by kernel_rfl
theorem typePE (a : Addr) (w : World) : (ReflectliteValue.methodAny (ReflectliteValue.valueError "reflectlite.Value.Type" 0) (fun t _ _ _ => ReflectliteType.toType t) #[.agg #[.pointer (some ⟨4, 146, none⟩), .pointer (some a), .int .u64 150]]).run Tryz.prog w
    = .ok (.iface 203 (.agg #[.pointer (some ⟨4, 146, none⟩)])) w := by kernel_rfl
theorem kindPE (w : World) : ((ReflectliteType.abiMethod fun t => (fun a : Nat => Value.int IntKind.u8 (a : Int)) <$> Rtype.kind t) #[.pointer (some ⟨4, 146, none⟩)]).run Tryz.prog w = .ok (.int .u8 22) w := by kernel_rfl
theorem kindE (w : World) : ((ReflectliteType.abiMethod fun t => (fun a : Nat => Value.int IntKind.u8 (a : Int)) <$> Rtype.kind t) #[.pointer (some ⟨4, 52, none⟩)]).run Tryz.prog w = .ok (.int .u8 2) w := by kernel_rfl
theorem partsPE (a : Addr) (w : World) : (ReflectliteValue.parts (.agg #[.pointer (some ⟨4, 146, none⟩), .pointer (some a), .int .u64 150])).run Tryz.prog w = .ok (some (146, a, 150)) w := by kernel_rfl
theorem isNilPE (a p : Addr) (W : World) (ha : W.cell? a = some (.pointer (some p))) :
    (ReflectliteValue.method (ReflectliteValue.valueError "reflectlite.Value.IsNil" 0) ReflectliteValue.isNil #[.agg #[.pointer (some ⟨4, 146, none⟩), .pointer (some a), .int .u64 150]]).run Tryz.prog W = .ok (.bool false) W := by
  rw [rlm]
  simp only [Sem.run_bind, partsPE, Result.andThen]
  simp [ReflectliteValue.isNil, loadVar, isAgg, underlying, Tryz.underlying146, ha, Result.andThen]
theorem elemPE (w : World) : (ReflectliteType.method ReflectliteType.elem #[.agg #[.pointer (some ⟨4, 146, none⟩)]]).run Tryz.prog w = .ok (.iface 203 (.agg #[.pointer (some ⟨4, 52, none⟩)])) w := by kernel_rfl
theorem implementsE (w : World) : (ReflectliteType.relation "Implements" ReflectliteType.implements_ #[.agg #[.pointer (some ⟨4, 52, none⟩)], .iface 203 (.agg #[.pointer (some ⟨4, 62, none⟩)])]).run Tryz.prog w = .ok (.bool true) w := by kernel_rfl
theorem elemOfPE (w : World) : (Rtype.elem? 146).run Tryz.prog w = .ok (some 52) w := by kernel_rfl
theorem mkE (p : Addr) (w : World) : (ReflectliteValue.mk 52 p ReflectliteValue.flagAddr).run Tryz.prog w = .ok (.agg #[.pointer (some ⟨4, 52, none⟩), .pointer (some p), .int .u64 386]) w := by kernel_rfl
theorem elemVPE (a p : Addr) (W : World) (ha : W.cell? a = some (.pointer (some p))) :
    (ReflectliteValue.method (ReflectliteValue.valueError "reflectlite.Value.Elem" 0) ReflectliteValue.elem #[.agg #[.pointer (some ⟨4, 146, none⟩), .pointer (some a), .int .u64 150]]).run Tryz.prog W
      = .ok (.agg #[.pointer (some ⟨4, 52, none⟩), .pointer (some p), .int .u64 386]) W := by
  rw [rlm]
  simp only [Sem.run_bind, partsPE, Result.andThen]
  simp [ReflectliteValue.elem, loadVar, isAgg, underlying, Tryz.underlying146, ha, Result.andThen, elemOfPE, mkE]
theorem partsEa (a : Addr) (w : World) : (ReflectliteValue.parts (.agg #[.pointer (some ⟨4, 52, none⟩), .pointer (some a), .int .u64 386])).run Tryz.prog w = .ok (some (52, a, 386)) w := by kernel_rfl
theorem partsE (a : Addr) (w : World) : (ReflectliteValue.parts (.agg #[.pointer (some ⟨4, 52, none⟩), .pointer (some a), .int .u64 130])).run Tryz.prog w = .ok (some (52, a, 130)) w := by kernel_rfl
theorem directE (w : World) : (Rtype.directlyAssignable 52 52).run Tryz.prog w = .ok true w := by kernel_rfl
theorem setE (ta b : Addr) (e : Int) (old : Value) (W : World) (hb : W.cell? b = some (.int .i64 e)) (ht : W.cell? ta = some old) (hf : W.frozen? ta = false) :
    (ReflectliteValue.set #[.agg #[.pointer (some ⟨4, 52, none⟩), .pointer (some ta), .int .u64 386], .agg #[.pointer (some ⟨4, 52, none⟩), .pointer (some b), .int .u64 130]]).run Tryz.prog W
      = .ok (.tuple #[]) (W.setCell ta (.int .i64 e)) := by
  rw [rls]
  simp only [Sem.run_bind, partsEa, partsE, Result.andThen]
  simp [ReflectliteValue.flagAddr, loadVar, isAgg, underlying, Tryz.underlying52, hb, Result.andThen, directE, storeVar, Value.cells, storeCells, Addr.add]
  rw [run_store Tryz.prog W ta _ _ (by rfl)]
  simp [ht, hf]
theorem typeOfE (v : Value) (w : World) : (ReflectliteType.typeOf #[.iface 52 v]).run Tryz.prog w = .ok (.iface 203 (.agg #[.pointer (some ⟨4, 52, none⟩)])) w := by kernel_rfl
theorem assignEE (w : World) : (ReflectliteType.relation "AssignableTo" ReflectliteType.assignableTo #[.agg #[.pointer (some ⟨4, 52, none⟩)], .iface 203 (.agg #[.pointer (some ⟨4, 52, none⟩)])]).run Tryz.prog w = .ok (.bool true) w := by kernel_rfl
theorem assignEPF (w : World) : (ReflectliteType.relation "AssignableTo" ReflectliteType.assignableTo #[.agg #[.pointer (some ⟨4, 52, none⟩)], .iface 203 (.agg #[.pointer (some ⟨4, 186, none⟩)])]).run Tryz.prog w = .ok (.bool false) w := by kernel_rfl
theorem assignPFE (w : World) : (ReflectliteType.relation "AssignableTo" ReflectliteType.assignableTo #[.agg #[.pointer (some ⟨4, 186, none⟩)], .iface 203 (.agg #[.pointer (some ⟨4, 52, none⟩)])]).run Tryz.prog w = .ok (.bool false) w := by kernel_rfl
theorem valueOfE (e : Int) (w : World) : (ReflectliteValue.unpack (.iface 52 (.int .i64 e))).run Tryz.prog w
    = .ok (.agg #[.pointer (some ⟨4, 52, none⟩), .pointer (some ⟨w.heap.size, 0, none⟩), .int .u64 130]) (w.alloc (.cells #[.int .i64 e] 52)) := by kernel_rfl
-- what errors.Is and errors.As ask of the two error types
theorem noAsF (v : Value) (xT : TypeId) (w : World) : (Instr.typeAssert (.iface 186 v) xT 208 true).run Tryz.prog w = .ok (.tuple #[.nilIface, .bool false]) w := run_typeAssert_lacksB Tryz.underlying208 (by kernel_rfl) (by kernel_rfl) v xT w
theorem noAsE (v : Value) (xT : TypeId) (w : World) : (Instr.typeAssert (.iface 52 v) xT 208 true).run Tryz.prog w = .ok (.tuple #[.nilIface, .bool false]) w := run_typeAssert_lacksB Tryz.underlying208 (by kernel_rfl) (by kernel_rfl) v xT w
theorem unwrapF (v : Value) (xT : TypeId) (w : World) : (Instr.typeAssert (.iface 186 v) xT 211 true).run Tryz.prog w = .ok (.tuple #[.iface 186 v, .bool true]) w := run_typeAssert_hasB Tryz.underlying211 (by kernel_rfl) v xT w
theorem noUnwrapE (v : Value) (xT : TypeId) (w : World) : (Instr.typeAssert (.iface 52 v) xT 211 true).run Tryz.prog w = .ok (.tuple #[.nilIface, .bool false]) w := run_typeAssert_lacksB Tryz.underlying211 (by kernel_rfl) (by kernel_rfl) v xT w
theorem noUnwrapsE (v : Value) (xT : TypeId) (w : World) : (Instr.typeAssert (.iface 52 v) xT 213 true).run Tryz.prog w = .ok (.tuple #[.nilIface, .bool false]) w := run_typeAssert_lacksB Tryz.underlying213 (by kernel_rfl) (by kernel_rfl) v xT w
theorem mUnwrapF (v : Value) (w : World) : (Go.method 402 186 v "Unwrap").run Tryz.prog w = .ok (184, v) w := by kernel_rfl


/-! ### the entries themselves -/
theorem xTypeOf (args : Array Value) (w : World) : (callFunc 103 args).run Tryz.prog w = (((ReflectliteType.typeOf) args).run Tryz.prog w).andThen fun v w' => .ok (.value v) w' :=
  @run_callFunc_extern Tryz.prog 103 _ (ReflectliteType.typeOf) Tryz.func103 (by kernel_rfl) (by kernel_rfl) (by kernel_rfl) (by kernel_rfl) args w
theorem xAssign (args : Array Value) (w : World) : (callFunc 186 args).run Tryz.prog w = (((ReflectliteType.relation "AssignableTo" ReflectliteType.assignableTo) args).run Tryz.prog w).andThen fun v w' => .ok (.value v) w' :=
  @run_callFunc_extern Tryz.prog 186 _ (ReflectliteType.relation "AssignableTo" ReflectliteType.assignableTo) Tryz.func186 (by kernel_rfl) (by kernel_rfl) (by kernel_rfl) (by kernel_rfl) args w
theorem xImpl (args : Array Value) (w : World) : (callFunc 189 args).run Tryz.prog w = (((ReflectliteType.relation "Implements" ReflectliteType.implements_) args).run Tryz.prog w).andThen fun v w' => .ok (.value v) w' :=
  @run_callFunc_extern Tryz.prog 189 _ (ReflectliteType.relation "Implements" ReflectliteType.implements_) Tryz.func189 (by kernel_rfl) (by kernel_rfl) (by kernel_rfl) (by kernel_rfl) args w
theorem xElem (args : Array Value) (w : World) : (callFunc 104 args).run Tryz.prog w = (((ReflectliteValue.method (ReflectliteValue.valueError "reflectlite.Value.Elem" 0) ReflectliteValue.elem) args).run Tryz.prog w).andThen fun v w' => .ok (.value v) w' :=
  @run_callFunc_extern Tryz.prog 104 _ (ReflectliteValue.method (ReflectliteValue.valueError "reflectlite.Value.Elem" 0) ReflectliteValue.elem) Tryz.func104 (by kernel_rfl) (by kernel_rfl) (by kernel_rfl) (by kernel_rfl) args w
theorem xElemT (args : Array Value) (w : World) : (callFunc 188 args).run Tryz.prog w = (((ReflectliteType.method ReflectliteType.elem) args).run Tryz.prog w).andThen fun v w' => .ok (.value v) w' :=
  @run_callFunc_extern Tryz.prog 188 _ (ReflectliteType.method ReflectliteType.elem) Tryz.func188 (by kernel_rfl) (by kernel_rfl) (by kernel_rfl) (by kernel_rfl) args w
theorem xValueOf (args : Array Value) (w : World) : (callFunc 79 args).run Tryz.prog w = (((fun args => ReflectliteValue.unpack (args.getD 0 (.tuple #[]))) args).run Tryz.prog w).andThen fun v w' => .ok (.value v) w' :=
  @run_callFunc_extern Tryz.prog 79 _ (fun args => ReflectliteValue.unpack (args.getD 0 (.tuple #[]))) Tryz.func79 (by kernel_rfl) (by kernel_rfl) (by kernel_rfl) (by kernel_rfl) args w
theorem xSet (args : Array Value) (w : World) : (callFunc 105 args).run Tryz.prog w = (((ReflectliteValue.set) args).run Tryz.prog w).andThen fun v w' => .ok (.value v) w' :=
  @run_callFunc_extern Tryz.prog 105 _ (ReflectliteValue.set) Tryz.func105 (by kernel_rfl) (by kernel_rfl) (by kernel_rfl) (by kernel_rfl) args w
theorem xType (args : Array Value) (w : World) : (callFunc 80 args).run Tryz.prog w = (((ReflectliteValue.methodAny (ReflectliteValue.valueError "reflectlite.Value.Type" 0) (fun t _ _ _ => ReflectliteType.toType t)) args).run Tryz.prog w).andThen fun v w' => .ok (.value v) w' :=
  @run_callFunc_extern Tryz.prog 80 _ (ReflectliteValue.methodAny (ReflectliteValue.valueError "reflectlite.Value.Type" 0) (fun t _ _ _ => ReflectliteType.toType t)) Tryz.func80 (by kernel_rfl) (by kernel_rfl) (by kernel_rfl) (by kernel_rfl) args w
theorem xIsNil (args : Array Value) (w : World) : (callFunc 81 args).run Tryz.prog w = (((ReflectliteValue.method (ReflectliteValue.valueError "reflectlite.Value.IsNil" 0) ReflectliteValue.isNil) args).run Tryz.prog w).andThen fun v w' => .ok (.value v) w' :=
  @run_callFunc_extern Tryz.prog 81 _ (ReflectliteValue.method (ReflectliteValue.valueError "reflectlite.Value.IsNil" 0) ReflectliteValue.isNil) Tryz.func81 (by kernel_rfl) (by kernel_rfl) (by kernel_rfl) (by kernel_rfl) args w
theorem xKind (args : Array Value) (w : World) : (callFunc 174 args).run Tryz.prog w = (((ReflectliteType.abiMethod fun t => do pure (.int .u8 (← Rtype.kind t))) args).run Tryz.prog w).andThen fun v w' => .ok (.value v) w' :=
  @run_callFunc_extern Tryz.prog 174 _ (ReflectliteType.abiMethod fun t => do pure (.int .u8 (← Rtype.kind t))) Tryz.func174 (by kernel_rfl) (by kernel_rfl) (by kernel_rfl) (by kernel_rfl) args w
theorem xComp (args : Array Value) (w : World) : (callFunc 187 args).run Tryz.prog w = (((ReflectliteType.method fun t => do Rtype.noPackHeld "Comparable" t; pure (.bool (← typeInfo t).comparable)) args).run Tryz.prog w).andThen fun v w' => .ok (.value v) w' :=
  @run_callFunc_extern Tryz.prog 187 _ (ReflectliteType.method fun t => do Rtype.noPackHeld "Comparable" t; pure (.bool (← typeInfo t).comparable)) Tryz.func187 (by kernel_rfl) (by kernel_rfl) (by kernel_rfl) (by kernel_rfl) args w
theorem compE (w : World) : ((ReflectliteType.method fun t => do Rtype.noPackHeld "Comparable" t; (fun a => Value.bool a.comparable) <$> typeInfo t) #[.agg #[.pointer (some ⟨4, 52, none⟩)]]).run Tryz.prog w = .ok (.bool true) w := by kernel_rfl
end Go.Proofs.YtlidenehfmlebaaGreatDoor
