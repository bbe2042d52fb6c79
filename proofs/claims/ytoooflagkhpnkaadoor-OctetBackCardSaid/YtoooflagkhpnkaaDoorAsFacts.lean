/- errors.As at the two targets that api asks for: a *Fault (api.Place), an Errno (api.Code); Go's own text of errors.As is walked. After the worked example ToyasAs. -/
import Derived.Test.YtoooflagkhpnkaaDoorBase
import Derived.Test.YtoooflagkhpnkaaDoorLeafF
import Derived.LaidEql
import Derived.Stop.Asserts
import Derived.RowKitTokens
namespace Go.Proofs.YtoooflagkhpnkaaDoor
open Go Go.RowKit Go.Extern.Stop Go.Stop Go.Extern
set_option linter.unusedVariables false
set_option linter.unusedSimpArgs false

theorem as_nil (t : Value) (w : World) :
    Calls Tryd.prog 64 #[.nilIface, t] w fun e w' => e = .returned (.bool false) ∧ w = w' := by
  go_enter Tryd.func64, Tryd.ntmps64
  go_wp2
  go_ret
  exact ⟨rfl, rfl⟩

theorem rlm (z : Sem Value) (f : TypeId → Addr → Nat → Nat → Sem Value) (v : Value) :
    ReflectliteValue.method z f #[v] = (do match ← ReflectliteValue.parts v with | none => z | some (t, a, fl) => f t a fl (fl % 32)) := rfl
theorem rls (v x : Value) : ReflectliteValue.set #[v, x] = (do
    let (some (dst, a, fl), some (src, b, _)) := (← ReflectliteValue.parts v, ← ReflectliteValue.parts x)
      | unsupported (.noEntry "extern/(internal/reflectlite.Value).Set.zeroValue")
    if fl / ReflectliteValue.flagAddr % 2 == 0 then unsupported (.noEntry "extern/(internal/reflectlite.Value).Set.unaddressable")
    let val ← loadVar src b
    if ← Rtype.directlyAssignable dst src then storeVar dst a val
    else if ← Rtype.implements dst src then
      if (← Rtype.kind src) == 20 then
        match val with
        | .nilIface => unsupported (.noEntry "extern/reflectlite: a nil value of one interface type handed on as a value of another")
        | _ => storeVar dst a val
      else storeVar dst a (.iface src val)
    else panicString ("reflectlite.Set: value of type " ++ (← Rtype.spelt src) ++ " is not assignable to type " ++ (← Rtype.spelt dst))
    pure (.tuple #[])) := rfl
theorem methodKind (h : Value) (w : World) : (Go.method 245 105 (.agg #[h]) "Kind").run Tryd.prog w = .ok (87, h) w := by kernel_rfl
theorem methodElem (h : Value) (w : World) : (Go.method 245 105 (.agg #[h]) "Elem").run Tryd.prog w = .ok (99, .agg #[h]) w := by kernel_rfl
theorem methodImplements (h : Value) (w : World) : (Go.method 245 105 (.agg #[h]) "Implements").run Tryd.prog w = .ok (100, .agg #[h]) w := by kernel_rfl
theorem methodAssignableTo (h : Value) (w : World) : (Go.method 245 105 (.agg #[h]) "AssignableTo").run Tryd.prog w = .ok (97, .agg #[h]) w := by kernel_rfl

theorem fvalueOfP (t : Addr) (w : World) : (ReflectliteValue.unpack (.iface 89 (.pointer (some t)))).run Tryd.prog w
    = .ok (.agg #[.pointer (some ⟨2, 89, none⟩), .pointer (some ⟨w.heap.size, 0, none⟩), .int .u64 150]) (w.alloc (.cells #[.pointer (some t)] 89)) := by kernel_rfl
theorem ftypeP (a : Addr) (w : World) : (ReflectliteValue.methodAny (ReflectliteValue.valueError "reflectlite.Value.Type" 0) (fun t _ _ _ => ReflectliteType.toType t) #[.agg #[.pointer (some ⟨2, 89, none⟩), .pointer (some a), .int .u64 150]]).run Tryd.prog w
    = .ok (.iface 105 (.agg #[.pointer (some ⟨2, 89, none⟩)])) w := by kernel_rfl
theorem fkindP (w : World) : ((ReflectliteType.abiMethod fun t => (fun a : Nat => Value.int IntKind.u8 (a : Int)) <$> Rtype.kind t) #[.pointer (some ⟨2, 89, none⟩)]).run Tryd.prog w = .ok (.int .u8 22) w := by kernel_rfl
theorem fkindT (w : World) : ((ReflectliteType.abiMethod fun t => (fun a : Nat => Value.int IntKind.u8 (a : Int)) <$> Rtype.kind t) #[.pointer (some ⟨2, 84, none⟩)]).run Tryd.prog w = .ok (.int .u8 22) w := by kernel_rfl
theorem fpartsP (a : Addr) (w : World) : (ReflectliteValue.parts (.agg #[.pointer (some ⟨2, 89, none⟩), .pointer (some a), .int .u64 150])).run Tryd.prog w = .ok (some (89, a, 150)) w := by kernel_rfl
theorem fisNilP (a p : Addr) (W : World) (ha : W.cell? a = some (.pointer (some p))) :
    (ReflectliteValue.method (ReflectliteValue.valueError "reflectlite.Value.IsNil" 0) ReflectliteValue.isNil #[.agg #[.pointer (some ⟨2, 89, none⟩), .pointer (some a), .int .u64 150]]).run Tryd.prog W = .ok (.bool false) W := by
  rw [rlm]
  simp only [Sem.run_bind, fpartsP, Result.andThen]
  simp [ReflectliteValue.isNil, loadVar, isAgg, underlying, Tryd.underlying89, ha, Result.andThen]
theorem felemP (w : World) : (ReflectliteType.method ReflectliteType.elem #[.agg #[.pointer (some ⟨2, 89, none⟩)]]).run Tryd.prog w = .ok (.iface 105 (.agg #[.pointer (some ⟨2, 84, none⟩)])) w := by kernel_rfl
theorem fimplementsT (w : World) : (ReflectliteType.relation "Implements" ReflectliteType.implements_ #[.agg #[.pointer (some ⟨2, 84, none⟩)], .iface 105 (.agg #[.pointer (some ⟨2, 30, none⟩)])]).run Tryd.prog w = .ok (.bool true) w := by kernel_rfl
theorem ftypeOfT (v : Value) (w : World) : (ReflectliteType.typeOf #[.iface 84 v]).run Tryd.prog w = .ok (.iface 105 (.agg #[.pointer (some ⟨2, 84, none⟩)])) w := by kernel_rfl
theorem fassignableT (w : World) : (ReflectliteType.relation "AssignableTo" ReflectliteType.assignableTo #[.agg #[.pointer (some ⟨2, 84, none⟩)], .iface 105 (.agg #[.pointer (some ⟨2, 84, none⟩)])]).run Tryd.prog w = .ok (.bool true) w := by kernel_rfl
theorem fvalueOfT (e : Addr) (w : World) : (ReflectliteValue.unpack (.iface 84 (.pointer (some e)))).run Tryd.prog w
    = .ok (.agg #[.pointer (some ⟨2, 84, none⟩), .pointer (some ⟨w.heap.size, 0, none⟩), .int .u64 150]) (w.alloc (.cells #[.pointer (some e)] 84)) := by kernel_rfl
theorem felemOfP (w : World) : (Rtype.elem? 89).run Tryd.prog w = .ok (some 84) w := by kernel_rfl
theorem fmkT (p : Addr) (w : World) : (ReflectliteValue.mk 84 p ReflectliteValue.flagAddr).run Tryd.prog w = .ok (.agg #[.pointer (some ⟨2, 84, none⟩), .pointer (some p), .int .u64 406]) w := by kernel_rfl
theorem felemVP (a p : Addr) (W : World) (ha : W.cell? a = some (.pointer (some p))) :
    (ReflectliteValue.method (ReflectliteValue.valueError "reflectlite.Value.Elem" 0) ReflectliteValue.elem #[.agg #[.pointer (some ⟨2, 89, none⟩), .pointer (some a), .int .u64 150]]).run Tryd.prog W
      = .ok (.agg #[.pointer (some ⟨2, 84, none⟩), .pointer (some p), .int .u64 406]) W := by
  rw [rlm]
  simp only [Sem.run_bind, fpartsP, Result.andThen]
  simp [ReflectliteValue.elem, loadVar, isAgg, underlying, Tryd.underlying89, ha, Result.andThen, felemOfP, fmkT]
theorem fpartsTa (a : Addr) (w : World) : (ReflectliteValue.parts (.agg #[.pointer (some ⟨2, 84, none⟩), .pointer (some a), .int .u64 406])).run Tryd.prog w = .ok (some (84, a, 406)) w := by kernel_rfl
theorem fpartsT (a : Addr) (w : World) : (ReflectliteValue.parts (.agg #[.pointer (some ⟨2, 84, none⟩), .pointer (some a), .int .u64 150])).run Tryd.prog w = .ok (some (84, a, 150)) w := by kernel_rfl
theorem fdirectT (w : World) : (Rtype.directlyAssignable 84 84).run Tryd.prog w = .ok true w := by kernel_rfl
theorem fsetT (ta b : Addr) (e : Addr) (old : Value) (W : World) (hb : W.cell? b = some (.pointer (some e))) (ht : W.cell? ta = some old) (hf : W.frozen? ta = false) :
    (ReflectliteValue.set #[.agg #[.pointer (some ⟨2, 84, none⟩), .pointer (some ta), .int .u64 406], .agg #[.pointer (some ⟨2, 84, none⟩), .pointer (some b), .int .u64 150]]).run Tryd.prog W
      = .ok (.tuple #[]) (W.setCell ta (.pointer (some e))) := by
  rw [rls]
  simp only [Sem.run_bind, fpartsTa, fpartsT, Result.andThen]
  simp [ReflectliteValue.flagAddr, loadVar, isAgg, underlying, Tryd.underlying84, hb, Result.andThen, fdirectT, storeVar, Value.cells, storeCells, Addr.add]
  rw [run_store Tryd.prog W ta _ _ (by rfl)]
  simp [ht, hf]

theorem evalueOfP (t : Addr) (w : World) : (ReflectliteValue.unpack (.iface 88 (.pointer (some t)))).run Tryd.prog w
    = .ok (.agg #[.pointer (some ⟨2, 88, none⟩), .pointer (some ⟨w.heap.size, 0, none⟩), .int .u64 150]) (w.alloc (.cells #[.pointer (some t)] 88)) := by kernel_rfl
theorem etypeP (a : Addr) (w : World) : (ReflectliteValue.methodAny (ReflectliteValue.valueError "reflectlite.Value.Type" 0) (fun t _ _ _ => ReflectliteType.toType t) #[.agg #[.pointer (some ⟨2, 88, none⟩), .pointer (some a), .int .u64 150]]).run Tryd.prog w
    = .ok (.iface 105 (.agg #[.pointer (some ⟨2, 88, none⟩)])) w := by kernel_rfl
theorem ekindP (w : World) : ((ReflectliteType.abiMethod fun t => (fun a : Nat => Value.int IntKind.u8 (a : Int)) <$> Rtype.kind t) #[.pointer (some ⟨2, 88, none⟩)]).run Tryd.prog w = .ok (.int .u8 22) w := by kernel_rfl
theorem ekindT (w : World) : ((ReflectliteType.abiMethod fun t => (fun a : Nat => Value.int IntKind.u8 (a : Int)) <$> Rtype.kind t) #[.pointer (some ⟨2, 71, none⟩)]).run Tryd.prog w = .ok (.int .u8 2) w := by kernel_rfl
theorem epartsP (a : Addr) (w : World) : (ReflectliteValue.parts (.agg #[.pointer (some ⟨2, 88, none⟩), .pointer (some a), .int .u64 150])).run Tryd.prog w = .ok (some (88, a, 150)) w := by kernel_rfl
theorem eisNilP (a p : Addr) (W : World) (ha : W.cell? a = some (.pointer (some p))) :
    (ReflectliteValue.method (ReflectliteValue.valueError "reflectlite.Value.IsNil" 0) ReflectliteValue.isNil #[.agg #[.pointer (some ⟨2, 88, none⟩), .pointer (some a), .int .u64 150]]).run Tryd.prog W = .ok (.bool false) W := by
  rw [rlm]
  simp only [Sem.run_bind, epartsP, Result.andThen]
  simp [ReflectliteValue.isNil, loadVar, isAgg, underlying, Tryd.underlying88, ha, Result.andThen]
theorem eelemP (w : World) : (ReflectliteType.method ReflectliteType.elem #[.agg #[.pointer (some ⟨2, 88, none⟩)]]).run Tryd.prog w = .ok (.iface 105 (.agg #[.pointer (some ⟨2, 71, none⟩)])) w := by kernel_rfl
theorem eimplementsT (w : World) : (ReflectliteType.relation "Implements" ReflectliteType.implements_ #[.agg #[.pointer (some ⟨2, 71, none⟩)], .iface 105 (.agg #[.pointer (some ⟨2, 30, none⟩)])]).run Tryd.prog w = .ok (.bool true) w := by kernel_rfl
theorem etypeOfT (v : Value) (w : World) : (ReflectliteType.typeOf #[.iface 71 v]).run Tryd.prog w = .ok (.iface 105 (.agg #[.pointer (some ⟨2, 71, none⟩)])) w := by kernel_rfl
theorem eassignableT (w : World) : (ReflectliteType.relation "AssignableTo" ReflectliteType.assignableTo #[.agg #[.pointer (some ⟨2, 71, none⟩)], .iface 105 (.agg #[.pointer (some ⟨2, 71, none⟩)])]).run Tryd.prog w = .ok (.bool true) w := by kernel_rfl
theorem evalueOfT (e : Int) (w : World) : (ReflectliteValue.unpack (.iface 71 (.int .i64 e))).run Tryd.prog w
    = .ok (.agg #[.pointer (some ⟨2, 71, none⟩), .pointer (some ⟨w.heap.size, 0, none⟩), .int .u64 130]) (w.alloc (.cells #[.int .i64 e] 71)) := by kernel_rfl
theorem eelemOfP (w : World) : (Rtype.elem? 88).run Tryd.prog w = .ok (some 71) w := by kernel_rfl
theorem emkT (p : Addr) (w : World) : (ReflectliteValue.mk 71 p ReflectliteValue.flagAddr).run Tryd.prog w = .ok (.agg #[.pointer (some ⟨2, 71, none⟩), .pointer (some p), .int .u64 386]) w := by kernel_rfl
theorem eelemVP (a p : Addr) (W : World) (ha : W.cell? a = some (.pointer (some p))) :
    (ReflectliteValue.method (ReflectliteValue.valueError "reflectlite.Value.Elem" 0) ReflectliteValue.elem #[.agg #[.pointer (some ⟨2, 88, none⟩), .pointer (some a), .int .u64 150]]).run Tryd.prog W
      = .ok (.agg #[.pointer (some ⟨2, 71, none⟩), .pointer (some p), .int .u64 386]) W := by
  rw [rlm]
  simp only [Sem.run_bind, epartsP, Result.andThen]
  simp [ReflectliteValue.elem, loadVar, isAgg, underlying, Tryd.underlying88, ha, Result.andThen, eelemOfP, emkT]
theorem epartsTa (a : Addr) (w : World) : (ReflectliteValue.parts (.agg #[.pointer (some ⟨2, 71, none⟩), .pointer (some a), .int .u64 386])).run Tryd.prog w = .ok (some (71, a, 386)) w := by kernel_rfl
theorem epartsT (a : Addr) (w : World) : (ReflectliteValue.parts (.agg #[.pointer (some ⟨2, 71, none⟩), .pointer (some a), .int .u64 130])).run Tryd.prog w = .ok (some (71, a, 130)) w := by kernel_rfl
theorem edirectT (w : World) : (Rtype.directlyAssignable 71 71).run Tryd.prog w = .ok true w := by kernel_rfl
theorem esetT (ta b : Addr) (e : Int) (old : Value) (W : World) (hb : W.cell? b = some (.int .i64 e)) (ht : W.cell? ta = some old) (hf : W.frozen? ta = false) :
    (ReflectliteValue.set #[.agg #[.pointer (some ⟨2, 71, none⟩), .pointer (some ta), .int .u64 386], .agg #[.pointer (some ⟨2, 71, none⟩), .pointer (some b), .int .u64 130]]).run Tryd.prog W
      = .ok (.tuple #[]) (W.setCell ta (.int .i64 e)) := by
  rw [rls]
  simp only [Sem.run_bind, epartsTa, epartsT, Result.andThen]
  simp [ReflectliteValue.flagAddr, loadVar, isAgg, underlying, Tryd.underlying71, hb, Result.andThen, edirectT, storeVar, Value.cells, storeCells, Addr.add]
  rw [run_store Tryd.prog W ta _ _ (by rfl)]
  simp [ht, hf]
end Go.Proofs.YtoooflagkhpnkaaDoor
