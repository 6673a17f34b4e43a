/-
  Contracts of Go's errors.As and errors.Is at the program's two error types (Errno, a whole number; *Fault, a place and an Errno behind a pointer), and of code.Number and code.Place, over this seat's translation.
-/
import Derived.Test.YtkplkienbgoofaaDoorProg
import Derived.WalkKit
import Derived.LaidEql
import Derived.Below
import Derived.Deep.Draws
import Derived.Stop.Asserts
import Derived.RowKitTokens
import Derived.WalkLawsBesides
import Derived.WalkSpells
import Derived.Deep.QuietTactic
import Derived.BigQuiet
import Derived.Deep.RegionWith
set_option linter.unusedVariables false
set_option linter.unusedSimpArgs false
namespace Go.Proofs.YtkplkienbgoofaaDoor
open Go.RowKit Go.Extern.Stop Go.Stop Go.Extern

/-- The variable that strings.Index reads holds a number. -/
def EnvM (w : World) : Prop := w.heap.size = w.heap.size
theorem EnvM.below {w w' : World} (h : EnvM w) (hb : Below w.heap.size w w') : EnvM w' := rfl
/-- What the run needs of the package-level variables. -/
structure Env (w : World) : Prop where
  et : w.cell? ⟨0, 0, none⟩ = some (.iface 83 (.agg #[.pointer (some ⟨1, 32, none⟩)]))
  ml : EnvM w
theorem Env.below {w w' : World} (h : Env w) (hb : Below w.heap.size w w') : Env w' :=
  ⟨(hb.cell (World.block_lt_of_cell? w _ h.et)).trans h.et, h.ml.below hb⟩

/-! ### the model's entries for reflectlite, at the two targets -/
theorem rlm (z : Sem Value) (f : TypeId → Addr → Nat → Nat → Sem Value) (v : Value) :
    ReflectliteValue.method z f #[v] = (do match ← ReflectliteValue.parts v with | none => z | some (t, a, fl) => f t a fl (fl % 32)) := rfl
theorem rls (v x : Value) : ReflectliteValue.set #[v, x] = (do
    let (some (dst, a, fl), some (src, b, _)) := (← ReflectliteValue.parts v, ← ReflectliteValue.parts x)
      | unsupported (.noEntry "extern/(internal/reflectlite.Value).Set.zeroValue")
    if fl / ReflectliteValue.flagAddr % 2 == 0 then unsupported (.noEntry "extern/(internal/reflectlite.Value).Set.unaddressable")
    let val ← loadVar src b
    if ← Rtype.directlyAssignable dst src then storeVar dst a val
    else if ← Rtype.implements dst src then
      if (← Rtype.kind src) == 20 then
        match val with
        | .nilIface => unsupported (.noEntry "extern/reflectlite: a nil value of one interface type handed on as a value of another")
        | _ => storeVar dst a val
      else storeVar dst a (.iface src val)
    else panicString ("reflectlite.Set: value of type " ++ (← Rtype.spelt src) ++ " is not assignable to type " ++ (← Rtype.spelt dst))
    pure (.tuple #[])) := rfl
theorem mKind (h : Value) (w : World) : (Go.method 247 83 (.agg #[h]) "Kind").run Tryd.prog w = .ok (66, h) w := by kernel_rfl
theorem mElem (h : Value) (w : World) : (Go.method 247 83 (.agg #[h]) "Elem").run Tryd.prog w = .ok (78, .agg #[h]) w := by kernel_rfl
theorem mImplements (h : Value) (w : World) : (Go.method 247 83 (.agg #[h]) "Implements").run Tryd.prog w = .ok (79, .agg #[h]) w := by kernel_rfl
theorem mAssignableTo (h : Value) (w : World) : (Go.method 247 83 (.agg #[h]) "AssignableTo").run Tryd.prog w = .ok (76, .agg #[h]) w := by kernel_rfl
theorem mComparable (h : Value) (w : World) : (Go.method 247 83 (.agg #[h]) "Comparable").run Tryd.prog w = .ok (77, .agg #[h]) w := by kernel_rfl

-- the target **Fault
theorem valueOfPPF (t : Addr) (w : World) : (ReflectliteValue.unpack (.iface 58 (.pointer (some t)))).run Tryd.prog w
    = .ok (.agg #[.pointer (some ⟨1, 58, none⟩), .pointer (some ⟨w.heap.size, 0, none⟩), .int .u64 150]) (w.alloc (.cells #[.pointer (some t)] 58)) := by kernel_rfl
theorem typePPF (a : Addr) (w : World) : (ReflectliteValue.methodAny (ReflectliteValue.valueError "reflectlite.Value.Type" 0) (fun t _ _ _ => ReflectliteType.toType t) #[.agg #[.pointer (some ⟨1, 58, none⟩), .pointer (some a), .int .u64 150]]).run Tryd.prog w
    = .ok (.iface 83 (.agg #[.pointer (some ⟨1, 58, none⟩)])) w := by kernel_rfl
theorem kindPPF (w : World) : ((ReflectliteType.abiMethod fun t => (fun a : Nat => Value.int IntKind.u8 (a : Int)) <$> Rtype.kind t) #[.pointer (some ⟨1, 58, none⟩)]).run Tryd.prog w = .ok (.int .u8 22) w := by kernel_rfl
theorem kindPF (w : World) : ((ReflectliteType.abiMethod fun t => (fun a : Nat => Value.int IntKind.u8 (a : Int)) <$> Rtype.kind t) #[.pointer (some ⟨1, 49, none⟩)]).run Tryd.prog w = .ok (.int .u8 22) w := by kernel_rfl
theorem partsPPF (a : Addr) (w : World) : (ReflectliteValue.parts (.agg #[.pointer (some ⟨1, 58, none⟩), .pointer (some a), .int .u64 150])).run Tryd.prog w = .ok (some (58, a, 150)) w := by kernel_rfl
theorem isNilPPF (a p : Addr) (W : World) (ha : W.cell? a = some (.pointer (some p))) :
    (ReflectliteValue.method (ReflectliteValue.valueError "reflectlite.Value.IsNil" 0) ReflectliteValue.isNil #[.agg #[.pointer (some ⟨1, 58, none⟩), .pointer (some a), .int .u64 150]]).run Tryd.prog W = .ok (.bool false) W := by
  rw [rlm]
  simp only [Sem.run_bind, partsPPF, Result.andThen]
  simp [ReflectliteValue.isNil, loadVar, isAgg, underlying, Tryd.underlying58, ha, Result.andThen]
theorem elemPPF (w : World) : (ReflectliteType.method ReflectliteType.elem #[.agg #[.pointer (some ⟨1, 58, none⟩)]]).run Tryd.prog w = .ok (.iface 83 (.agg #[.pointer (some ⟨1, 49, none⟩)])) w := by kernel_rfl
theorem implementsPF (w : World) : (ReflectliteType.relation "Implements" ReflectliteType.implements_ #[.agg #[.pointer (some ⟨1, 49, none⟩)], .iface 83 (.agg #[.pointer (some ⟨1, 32, none⟩)])]).run Tryd.prog w = .ok (.bool true) w := by kernel_rfl
theorem elemOfPPF (w : World) : (Rtype.elem? 58).run Tryd.prog w = .ok (some 49) w := by kernel_rfl
theorem mkPF (p : Addr) (w : World) : (ReflectliteValue.mk 49 p ReflectliteValue.flagAddr).run Tryd.prog w = .ok (.agg #[.pointer (some ⟨1, 49, none⟩), .pointer (some p), .int .u64 406]) w := by kernel_rfl
theorem elemVPPF (a p : Addr) (W : World) (ha : W.cell? a = some (.pointer (some p))) :
    (ReflectliteValue.method (ReflectliteValue.valueError "reflectlite.Value.Elem" 0) ReflectliteValue.elem #[.agg #[.pointer (some ⟨1, 58, none⟩), .pointer (some a), .int .u64 150]]).run Tryd.prog W
      = .ok (.agg #[.pointer (some ⟨1, 49, none⟩), .pointer (some p), .int .u64 406]) W := by
  rw [rlm]
  simp only [Sem.run_bind, partsPPF, Result.andThen]
  simp [ReflectliteValue.elem, loadVar, isAgg, underlying, Tryd.underlying58, ha, Result.andThen, elemOfPPF, mkPF]
theorem partsPFa (a : Addr) (w : World) : (ReflectliteValue.parts (.agg #[.pointer (some ⟨1, 49, none⟩), .pointer (some a), .int .u64 406])).run Tryd.prog w = .ok (some (49, a, 406)) w := by kernel_rfl
theorem partsPF (a : Addr) (w : World) : (ReflectliteValue.parts (.agg #[.pointer (some ⟨1, 49, none⟩), .pointer (some a), .int .u64 150])).run Tryd.prog w = .ok (some (49, a, 150)) w := by kernel_rfl
theorem directPF (w : World) : (Rtype.directlyAssignable 49 49).run Tryd.prog w = .ok true w := by kernel_rfl
theorem setPF (ta b e : Addr) (old : Value) (W : World) (hb : W.cell? b = some (.pointer (some e))) (ht : W.cell? ta = some old) (hf : W.frozen? ta = false) :
    (ReflectliteValue.set #[.agg #[.pointer (some ⟨1, 49, none⟩), .pointer (some ta), .int .u64 406], .agg #[.pointer (some ⟨1, 49, none⟩), .pointer (some b), .int .u64 150]]).run Tryd.prog W
      = .ok (.tuple #[]) (W.setCell ta (.pointer (some e))) := by
  rw [rls]
  simp only [Sem.run_bind, partsPFa, partsPF, Result.andThen]
  simp [ReflectliteValue.flagAddr, loadVar, isAgg, underlying, Tryd.underlying49, hb, Result.andThen, directPF, storeVar, Value.cells, storeCells, Addr.add]
  rw [run_store Tryd.prog W ta _ _ (by rfl)]
  simp [ht, hf]
theorem typeOfPF (v : Value) (w : World) : (ReflectliteType.typeOf #[.iface 49 v]).run Tryd.prog w = .ok (.iface 83 (.agg #[.pointer (some ⟨1, 49, none⟩)])) w := by kernel_rfl
theorem assignPFPF (w : World) : (ReflectliteType.relation "AssignableTo" ReflectliteType.assignableTo #[.agg #[.pointer (some ⟨1, 49, none⟩)], .iface 83 (.agg #[.pointer (some ⟨1, 49, none⟩)])]).run Tryd.prog w = .ok (.bool true) w := by kernel_rfl
theorem valueOfPF (e : Addr) (w : World) : (ReflectliteValue.unpack (.iface 49 (.pointer (some e)))).run Tryd.prog w
    = .ok (.agg #[.pointer (some ⟨1, 49, none⟩), .pointer (some ⟨w.heap.size, 0, none⟩), .int .u64 150]) (w.alloc (.cells #[.pointer (some e)] 49)) := by kernel_rfl

-- the target *Errno
theorem valueOfPE (t : Addr) (w : World) : (ReflectliteValue.unpack (.iface 57 (.pointer (some t)))).run Tryd.prog w
    = .ok (.agg #[.pointer (some ⟨1, 57, none⟩), .pointer (some ⟨w.heap.size, 0, none⟩), .int .u64 150]) (w.alloc (.cells #[.pointer (some t)] 57)) := by kernel_rfl
theorem typePE (a : Addr) (w : World) : (ReflectliteValue.methodAny (ReflectliteValue.valueError "reflectlite.Value.Type" 0) (fun t _ _ _ => ReflectliteType.toType t) #[.agg #[.pointer (some ⟨1, 57, none⟩), .pointer (some a), .int .u64 150]]).run Tryd.prog w
    = .ok (.iface 83 (.agg #[.pointer (some ⟨1, 57, none⟩)])) w := by kernel_rfl
theorem kindPE (w : World) : ((ReflectliteType.abiMethod fun t => (fun a : Nat => Value.int IntKind.u8 (a : Int)) <$> Rtype.kind t) #[.pointer (some ⟨1, 57, none⟩)]).run Tryd.prog w = .ok (.int .u8 22) w := by kernel_rfl
theorem kindE (w : World) : ((ReflectliteType.abiMethod fun t => (fun a : Nat => Value.int IntKind.u8 (a : Int)) <$> Rtype.kind t) #[.pointer (some ⟨1, 44, none⟩)]).run Tryd.prog w = .ok (.int .u8 2) w := by kernel_rfl
theorem partsPE (a : Addr) (w : World) : (ReflectliteValue.parts (.agg #[.pointer (some ⟨1, 57, none⟩), .pointer (some a), .int .u64 150])).run Tryd.prog w = .ok (some (57, a, 150)) w := by kernel_rfl
theorem isNilPE (a p : Addr) (W : World) (ha : W.cell? a = some (.pointer (some p))) :
    (ReflectliteValue.method (ReflectliteValue.valueError "reflectlite.Value.IsNil" 0) ReflectliteValue.isNil #[.agg #[.pointer (some ⟨1, 57, none⟩), .pointer (some a), .int .u64 150]]).run Tryd.prog W = .ok (.bool false) W := by
  rw [rlm]
  simp only [Sem.run_bind, partsPE, Result.andThen]
  simp [ReflectliteValue.isNil, loadVar, isAgg, underlying, Tryd.underlying57, ha, Result.andThen]
theorem elemPE (w : World) : (ReflectliteType.method ReflectliteType.elem #[.agg #[.pointer (some ⟨1, 57, none⟩)]]).run Tryd.prog w = .ok (.iface 83 (.agg #[.pointer (some ⟨1, 44, none⟩)])) w := by kernel_rfl
theorem implementsE (w : World) : (ReflectliteType.relation "Implements" ReflectliteType.implements_ #[.agg #[.pointer (some ⟨1, 44, none⟩)], .iface 83 (.agg #[.pointer (some ⟨1, 32, none⟩)])]).run Tryd.prog w = .ok (.bool true) w := by kernel_rfl
theorem elemOfPE (w : World) : (Rtype.elem? 57).run Tryd.prog w = .ok (some 44) w := by kernel_rfl
theorem mkE (p : Addr) (w : World) : (ReflectliteValue.mk 44 p ReflectliteValue.flagAddr).run Tryd.prog w = .ok (.agg #[.pointer (some ⟨1, 44, none⟩), .pointer (some p), .int .u64 386]) w := by kernel_rfl
theorem elemVPE (a p : Addr) (W : World) (ha : W.cell? a = some (.pointer (some p))) :
    (ReflectliteValue.method (ReflectliteValue.valueError "reflectlite.Value.Elem" 0) ReflectliteValue.elem #[.agg #[.pointer (some ⟨1, 57, none⟩), .pointer (some a), .int .u64 150]]).run Tryd.prog W
      = .ok (.agg #[.pointer (some ⟨1, 44, none⟩), .pointer (some p), .int .u64 386]) W := by
  rw [rlm]
  simp only [Sem.run_bind, partsPE, Result.andThen]
  simp [ReflectliteValue.elem, loadVar, isAgg, underlying, Tryd.underlying57, ha, Result.andThen, elemOfPE, mkE]
theorem partsEa (a : Addr) (w : World) : (ReflectliteValue.parts (.agg #[.pointer (some ⟨1, 44, none⟩), .pointer (some a), .int .u64 386])).run Tryd.prog w = .ok (some (44, a, 386)) w := by kernel_rfl
theorem partsE (a : Addr) (w : World) : (ReflectliteValue.parts (.agg #[.pointer (some ⟨1, 44, none⟩), .pointer (some a), .int .u64 130])).run Tryd.prog w = .ok (some (44, a, 130)) w := by kernel_rfl
theorem directE (w : World) : (Rtype.directlyAssignable 44 44).run Tryd.prog w = .ok true w := by kernel_rfl
theorem setE (ta b : Addr) (e : Int) (old : Value) (W : World) (hb : W.cell? b = some (.int .i64 e)) (ht : W.cell? ta = some old) (hf : W.frozen? ta = false) :
    (ReflectliteValue.set #[.agg #[.pointer (some ⟨1, 44, none⟩), .pointer (some ta), .int .u64 386], .agg #[.pointer (some ⟨1, 44, none⟩), .pointer (some b), .int .u64 130]]).run Tryd.prog W
      = .ok (.tuple #[]) (W.setCell ta (.int .i64 e)) := by
  rw [rls]
  simp only [Sem.run_bind, partsEa, partsE, Result.andThen]
  simp [ReflectliteValue.flagAddr, loadVar, isAgg, underlying, Tryd.underlying44, hb, Result.andThen, directE, storeVar, Value.cells, storeCells, Addr.add]
  rw [run_store Tryd.prog W ta _ _ (by rfl)]
  simp [ht, hf]
theorem typeOfE (v : Value) (w : World) : (ReflectliteType.typeOf #[.iface 44 v]).run Tryd.prog w = .ok (.iface 83 (.agg #[.pointer (some ⟨1, 44, none⟩)])) w := by kernel_rfl
theorem assignEE (w : World) : (ReflectliteType.relation "AssignableTo" ReflectliteType.assignableTo #[.agg #[.pointer (some ⟨1, 44, none⟩)], .iface 83 (.agg #[.pointer (some ⟨1, 44, none⟩)])]).run Tryd.prog w = .ok (.bool true) w := by kernel_rfl
theorem assignEPF (w : World) : (ReflectliteType.relation "AssignableTo" ReflectliteType.assignableTo #[.agg #[.pointer (some ⟨1, 44, none⟩)], .iface 83 (.agg #[.pointer (some ⟨1, 49, none⟩)])]).run Tryd.prog w = .ok (.bool false) w := by kernel_rfl
theorem assignPFE (w : World) : (ReflectliteType.relation "AssignableTo" ReflectliteType.assignableTo #[.agg #[.pointer (some ⟨1, 49, none⟩)], .iface 83 (.agg #[.pointer (some ⟨1, 44, none⟩)])]).run Tryd.prog w = .ok (.bool false) w := by kernel_rfl
theorem valueOfE (e : Int) (w : World) : (ReflectliteValue.unpack (.iface 44 (.int .i64 e))).run Tryd.prog w
    = .ok (.agg #[.pointer (some ⟨1, 44, none⟩), .pointer (some ⟨w.heap.size, 0, none⟩), .int .u64 130]) (w.alloc (.cells #[.int .i64 e] 44)) := by kernel_rfl
-- what errors.Is and errors.As ask of the two error types
theorem noAsF (v : Value) (xT : TypeId) (w : World) : (Instr.typeAssert (.iface 49 v) xT 88 true).run Tryd.prog w = .ok (.tuple #[.nilIface, .bool false]) w := run_typeAssert_lacksB Tryd.underlying88 (by kernel_rfl) (by kernel_rfl) v xT w
theorem noAsE (v : Value) (xT : TypeId) (w : World) : (Instr.typeAssert (.iface 44 v) xT 88 true).run Tryd.prog w = .ok (.tuple #[.nilIface, .bool false]) w := run_typeAssert_lacksB Tryd.underlying88 (by kernel_rfl) (by kernel_rfl) v xT w
theorem unwrapF (v : Value) (xT : TypeId) (w : World) : (Instr.typeAssert (.iface 49 v) xT 91 true).run Tryd.prog w = .ok (.tuple #[.iface 49 v, .bool true]) w := run_typeAssert_hasB Tryd.underlying91 (by kernel_rfl) v xT w
theorem noUnwrapE (v : Value) (xT : TypeId) (w : World) : (Instr.typeAssert (.iface 44 v) xT 91 true).run Tryd.prog w = .ok (.tuple #[.nilIface, .bool false]) w := run_typeAssert_lacksB Tryd.underlying91 (by kernel_rfl) (by kernel_rfl) v xT w
theorem noUnwrapsE (v : Value) (xT : TypeId) (w : World) : (Instr.typeAssert (.iface 44 v) xT 93 true).run Tryd.prog w = .ok (.tuple #[.nilIface, .bool false]) w := run_typeAssert_lacksB Tryd.underlying93 (by kernel_rfl) (by kernel_rfl) v xT w
theorem mUnwrapF (v : Value) (w : World) : (Go.method 247 49 v "Unwrap").run Tryd.prog w = .ok (71, v) w := by kernel_rfl


/-! ### the entries themselves -/
theorem xTypeOf (args : Array Value) (w : World) : (callFunc 29 args).run Tryd.prog w = (((ReflectliteType.typeOf) args).run Tryd.prog w).andThen fun v w' => .ok (.value v) w' :=
  @run_callFunc_extern Tryd.prog 29 _ (ReflectliteType.typeOf) Tryd.func29 (by kernel_rfl) (by kernel_rfl) (by kernel_rfl) (by kernel_rfl) args w
theorem xAssign (args : Array Value) (w : World) : (callFunc 76 args).run Tryd.prog w = (((ReflectliteType.relation "AssignableTo" ReflectliteType.assignableTo) args).run Tryd.prog w).andThen fun v w' => .ok (.value v) w' :=
  @run_callFunc_extern Tryd.prog 76 _ (ReflectliteType.relation "AssignableTo" ReflectliteType.assignableTo) Tryd.func76 (by kernel_rfl) (by kernel_rfl) (by kernel_rfl) (by kernel_rfl) args w
theorem xImpl (args : Array Value) (w : World) : (callFunc 79 args).run Tryd.prog w = (((ReflectliteType.relation "Implements" ReflectliteType.implements_) args).run Tryd.prog w).andThen fun v w' => .ok (.value v) w' :=
  @run_callFunc_extern Tryd.prog 79 _ (ReflectliteType.relation "Implements" ReflectliteType.implements_) Tryd.func79 (by kernel_rfl) (by kernel_rfl) (by kernel_rfl) (by kernel_rfl) args w
theorem xElem (args : Array Value) (w : World) : (callFunc 30 args).run Tryd.prog w = (((ReflectliteValue.method (ReflectliteValue.valueError "reflectlite.Value.Elem" 0) ReflectliteValue.elem) args).run Tryd.prog w).andThen fun v w' => .ok (.value v) w' :=
  @run_callFunc_extern Tryd.prog 30 _ (ReflectliteValue.method (ReflectliteValue.valueError "reflectlite.Value.Elem" 0) ReflectliteValue.elem) Tryd.func30 (by kernel_rfl) (by kernel_rfl) (by kernel_rfl) (by kernel_rfl) args w
theorem xElemT (args : Array Value) (w : World) : (callFunc 78 args).run Tryd.prog w = (((ReflectliteType.method ReflectliteType.elem) args).run Tryd.prog w).andThen fun v w' => .ok (.value v) w' :=
  @run_callFunc_extern Tryd.prog 78 _ (ReflectliteType.method ReflectliteType.elem) Tryd.func78 (by kernel_rfl) (by kernel_rfl) (by kernel_rfl) (by kernel_rfl) args w
theorem xValueOf (args : Array Value) (w : World) : (callFunc 20 args).run Tryd.prog w = (((fun args => ReflectliteValue.unpack (args.getD 0 (.tuple #[]))) args).run Tryd.prog w).andThen fun v w' => .ok (.value v) w' :=
  @run_callFunc_extern Tryd.prog 20 _ (fun args => ReflectliteValue.unpack (args.getD 0 (.tuple #[]))) Tryd.func20 (by kernel_rfl) (by kernel_rfl) (by kernel_rfl) (by kernel_rfl) args w
theorem xSet (args : Array Value) (w : World) : (callFunc 31 args).run Tryd.prog w = (((ReflectliteValue.set) args).run Tryd.prog w).andThen fun v w' => .ok (.value v) w' :=
  @run_callFunc_extern Tryd.prog 31 _ (ReflectliteValue.set) Tryd.func31 (by kernel_rfl) (by kernel_rfl) (by kernel_rfl) (by kernel_rfl) args w
theorem xType (args : Array Value) (w : World) : (callFunc 21 args).run Tryd.prog w = (((ReflectliteValue.methodAny (ReflectliteValue.valueError "reflectlite.Value.Type" 0) (fun t _ _ _ => ReflectliteType.toType t)) args).run Tryd.prog w).andThen fun v w' => .ok (.value v) w' :=
  @run_callFunc_extern Tryd.prog 21 _ (ReflectliteValue.methodAny (ReflectliteValue.valueError "reflectlite.Value.Type" 0) (fun t _ _ _ => ReflectliteType.toType t)) Tryd.func21 (by kernel_rfl) (by kernel_rfl) (by kernel_rfl) (by kernel_rfl) args w
theorem xIsNil (args : Array Value) (w : World) : (callFunc 22 args).run Tryd.prog w = (((ReflectliteValue.method (ReflectliteValue.valueError "reflectlite.Value.IsNil" 0) ReflectliteValue.isNil) args).run Tryd.prog w).andThen fun v w' => .ok (.value v) w' :=
  @run_callFunc_extern Tryd.prog 22 _ (ReflectliteValue.method (ReflectliteValue.valueError "reflectlite.Value.IsNil" 0) ReflectliteValue.isNil) Tryd.func22 (by kernel_rfl) (by kernel_rfl) (by kernel_rfl) (by kernel_rfl) args w
theorem xKind (args : Array Value) (w : World) : (callFunc 66 args).run Tryd.prog w = (((ReflectliteType.abiMethod fun t => do pure (.int .u8 (← Rtype.kind t))) args).run Tryd.prog w).andThen fun v w' => .ok (.value v) w' :=
  @run_callFunc_extern Tryd.prog 66 _ (ReflectliteType.abiMethod fun t => do pure (.int .u8 (← Rtype.kind t))) Tryd.func66 (by kernel_rfl) (by kernel_rfl) (by kernel_rfl) (by kernel_rfl) args w
theorem xComp (args : Array Value) (w : World) : (callFunc 77 args).run Tryd.prog w = (((ReflectliteType.method fun t => do Rtype.noPackHeld "Comparable" t; pure (.bool (← typeInfo t).comparable)) args).run Tryd.prog w).andThen fun v w' => .ok (.value v) w' :=
  @run_callFunc_extern Tryd.prog 77 _ (ReflectliteType.method fun t => do Rtype.noPackHeld "Comparable" t; pure (.bool (← typeInfo t).comparable)) Tryd.func77 (by kernel_rfl) (by kernel_rfl) (by kernel_rfl) (by kernel_rfl) args w
theorem compE (w : World) : ((ReflectliteType.method fun t => do Rtype.noPackHeld "Comparable" t; (fun a => Value.bool a.comparable) <$> typeInfo t) #[.agg #[.pointer (some ⟨1, 44, none⟩)]]).run Tryd.prog w = .ok (.bool true) w := by kernel_rfl
end Go.Proofs.YtkplkienbgoofaaDoor
