/- errors.As by its contracts: a *Fault asked for a *Fault; a *Fault asked for the Errno inside; api.Code, api.Place. -/
import Derived.Test.YtoooflagkhpnkaaDoorAsFacts
import Derived.Test.YtoooflagkhpnkaaDoorLaid
namespace Go.Proofs.YtoooflagkhpnkaaDoor
open Go Go.RowKit Go.Extern.Stop Go.Stop Go.Extern
set_option linter.unusedVariables false
set_option linter.unusedSimpArgs false

theorem noAs (v : Value) (xT : TypeId) (w : World) : (Instr.typeAssert (.iface 84 v) xT 110 true).run Tryd.prog w = .ok (.tuple #[.nilIface, .bool false]) w := run_typeAssert_lacksB Tryd.underlying110 (by kernel_rfl) (by kernel_rfl) v xT w
theorem hasUnwrap (v : Value) (xT : TypeId) (w : World) : (Instr.typeAssert (.iface 84 v) xT 113 true).run Tryd.prog w = .ok (.tuple #[.iface 84 v, .bool true]) w := run_typeAssert_hasB Tryd.underlying113 (by kernel_rfl) v xT w
theorem methodUnwrap (v : Value) (w : World) : (Go.method 245 84 v "Unwrap").run Tryd.prog w = .ok (92, v) w := by kernel_rfl
theorem assignableFE (w : World) : (ReflectliteType.relation "AssignableTo" ReflectliteType.assignableTo #[.agg #[.pointer (some ⟨2, 84, none⟩)], .iface 105 (.agg #[.pointer (some ⟨2, 71, none⟩)])]).run Tryd.prog w = .ok (.bool false) w := by kernel_rfl

set_option maxRecDepth 100000 in
set_option maxHeartbeats 4000000 in
theorem as_place (e t : Addr) (old : Value) (w : World) (hg : ErrT w) (ht0 : w.cell? t = some old) (hf0 : w.frozen? t = false) :
    Calls Tryd.prog 64 #[.iface 84 (.pointer (some e)), .iface 89 (.pointer (some t))] w fun ev w' => ev = .returned (.bool true) ∧ w' = ((((w.alloc (.cells #[.pointer (some t)] 89)).alloc (.cells #[.pointer (some ⟨2, 89, none⟩), .pointer (some ⟨w.heap.size, 0, none⟩), .int .u64 150] 94)).alloc (.cells #[.pointer (some ⟨2, 89, none⟩), .pointer (some ⟨w.heap.size, 0, none⟩), .int .u64 150] 94)).alloc (.cells #[.pointer (some e)] 84)).setCell t (.pointer (some e)) := by
  unfold ErrT at hg
  have h6 := @run_callFunc_extern Tryd.prog 66 _ (fun args => ReflectliteValue.unpack (args.getD 0 (.tuple #[]))) Tryd.func66 (by kernel_rfl) (by kernel_rfl) (by kernel_rfl) (by kernel_rfl)
  have h7 := @run_callFunc_extern Tryd.prog 67 _ (ReflectliteValue.methodAny (ReflectliteValue.valueError "reflectlite.Value.Type" 0) (fun t _ _ _ => ReflectliteType.toType t)) Tryd.func67 (by kernel_rfl) (by kernel_rfl) (by kernel_rfl) (by kernel_rfl)
  have h8 := @run_callFunc_extern Tryd.prog 68 _ (ReflectliteValue.method (ReflectliteValue.valueError "reflectlite.Value.IsNil" 0) ReflectliteValue.isNil) Tryd.func68 (by kernel_rfl) (by kernel_rfl) (by kernel_rfl) (by kernel_rfl)
  have h27 := @run_callFunc_extern Tryd.prog 87 _ (ReflectliteType.abiMethod fun t => do pure (.int .u8 (← Rtype.kind t))) Tryd.func87 (by kernel_rfl) (by kernel_rfl) (by kernel_rfl) (by kernel_rfl)
  have h37 := @run_callFunc_extern Tryd.prog 99 _ (ReflectliteType.method ReflectliteType.elem) Tryd.func99 (by kernel_rfl) (by kernel_rfl) (by kernel_rfl) (by kernel_rfl)
  have h38 := @run_callFunc_extern Tryd.prog 100 _ (ReflectliteType.relation "Implements" ReflectliteType.implements_) Tryd.func100 (by kernel_rfl) (by kernel_rfl) (by kernel_rfl) (by kernel_rfl)
  have h10 := @run_callFunc_extern Tryd.prog 70 _ ReflectliteType.typeOf Tryd.func70 (by kernel_rfl) (by kernel_rfl) (by kernel_rfl) (by kernel_rfl)
  have h35 := @run_callFunc_extern Tryd.prog 97 _ (ReflectliteType.relation "AssignableTo" ReflectliteType.assignableTo) Tryd.func97 (by kernel_rfl) (by kernel_rfl) (by kernel_rfl) (by kernel_rfl)
  have h11 := @run_callFunc_extern Tryd.prog 71 _ (ReflectliteValue.method (ReflectliteValue.valueError "reflectlite.Value.Elem" 0) ReflectliteValue.elem) Tryd.func71 (by kernel_rfl) (by kernel_rfl) (by kernel_rfl) (by kernel_rfl)
  have h12 := @run_callFunc_extern Tryd.prog 72 _ ReflectliteValue.set Tryd.func72 (by kernel_rfl) (by kernel_rfl) (by kernel_rfl) (by kernel_rfl)
  have tO := ftypeOfT
  have mA := methodAssignableTo
  have a25 := fassignableT
  have v25 := fvalueOfT
  have f6 := fvalueOfP
  have f7 := ftypeP
  have mK := methodKind
  have mE := methodElem
  have mI := methodImplements
  have k27 := fkindP
  have k25 := fkindT
  have e27 := felemP
  have i25 := fimplementsT
  have n8 := fisNilP ⟨w.heap.size, 0, none⟩ t ((w.alloc (.cells #[.pointer (some t)] 89)).alloc (.cells #[.pointer (some ⟨2, 89, none⟩), .pointer (some ⟨w.heap.size, 0, none⟩), .int .u64 150] 94)) (by simp)
  have hlt : 1 < w.heap.size := World.block_lt_of_cell? w _ hg
  have hg2 : ((w.alloc (.cells #[.pointer (some t)] 89)).alloc (.cells #[.pointer (some ⟨2, 89, none⟩), .pointer (some ⟨w.heap.size, 0, none⟩), .int .u64 150] 94)).cell? ⟨1, 0, none⟩ = some (.iface 105 (.agg #[.pointer (some ⟨2, 30, none⟩)])) := by
    rw [World.cell?_alloc_lt _ _ ⟨1, 0, none⟩ (by simp; omega), World.cell?_alloc_lt _ _ ⟨1, 0, none⟩ hlt]; exact hg
  have htl : t.block < w.heap.size := World.block_lt_of_cell? w _ ht0
  have el := felemVP ⟨w.heap.size, 0, none⟩ t (((w.alloc (.cells #[.pointer (some t)] 89)).alloc (.cells #[.pointer (some ⟨2, 89, none⟩), .pointer (some ⟨w.heap.size, 0, none⟩), .int .u64 150] 94)).alloc (.cells #[.pointer (some ⟨2, 89, none⟩), .pointer (some ⟨w.heap.size, 0, none⟩), .int .u64 150] 94)) (by rw [World.cell?_alloc_lt _ _ ⟨w.heap.size, 0, none⟩ (by simp; omega)]; simp)
  have st := fsetT t ⟨w.heap.size + 1 + 1 + 1, 0, none⟩ e old ((((w.alloc (.cells #[.pointer (some t)] 89)).alloc (.cells #[.pointer (some ⟨2, 89, none⟩), .pointer (some ⟨w.heap.size, 0, none⟩), .int .u64 150] 94)).alloc (.cells #[.pointer (some ⟨2, 89, none⟩), .pointer (some ⟨w.heap.size, 0, none⟩), .int .u64 150] 94)).alloc (.cells #[.pointer (some e)] 84))
    (by rw [World.cell?_alloc_at _ _ _ _ (by simp)]; rfl)
    (by rw [World.cell?_alloc_lt _ _ t (by simp; omega), World.cell?_alloc_lt _ _ t (by simp; omega), World.cell?_alloc_lt _ _ t (by simp; omega), World.cell?_alloc_lt _ _ t htl]; exact ht0)
    (by rw [World.frozen?_alloc_old _ _ t (by simp; omega), World.frozen?_alloc_old _ _ t (by simp; omega), World.frozen?_alloc_old _ _ t (by simp; omega), World.frozen?_alloc_old _ _ t (Nat.ne_of_lt htl)]; exact hf0)
  go_enter Tryd.func64, Tryd.ntmps64
  go_wp2
  refine wp_loop_rounds 1 ?_
  rw [rounds_succ]
  go_wp2
  go_ret
  exact ⟨rfl, rfl⟩

set_option maxRecDepth 100000 in
set_option maxHeartbeats 4000000 in
theorem as_code (g : Nat) (at_ code : Int) (t : Addr) (old : Value) (w : World) (hg : ErrT w) (ht0 : w.cell? t = some old) (hf0 : w.frozen? t = false) (hr : Row w g [.int .i64 at_, .iface 71 (.int .i64 code)] 86) :
    Calls Tryd.prog 64 #[.iface 84 (.pointer (some ⟨g, 0, none⟩)), .iface 88 (.pointer (some t))] w fun ev w' => ev = .returned (.bool true) ∧ w' = ((((w.alloc (.cells #[.pointer (some t)] 88)).alloc (.cells #[.pointer (some ⟨2, 88, none⟩), .pointer (some ⟨w.heap.size, 0, none⟩), .int .u64 150] 94)).alloc (.cells #[.pointer (some ⟨2, 88, none⟩), .pointer (some ⟨w.heap.size, 0, none⟩), .int .u64 150] 94)).alloc (.cells #[.int .i64 code] 71)).setCell t (.int .i64 code) := by
  unfold ErrT at hg
  have h6 := @run_callFunc_extern Tryd.prog 66 _ (fun args => ReflectliteValue.unpack (args.getD 0 (.tuple #[]))) Tryd.func66 (by kernel_rfl) (by kernel_rfl) (by kernel_rfl) (by kernel_rfl)
  have h7 := @run_callFunc_extern Tryd.prog 67 _ (ReflectliteValue.methodAny (ReflectliteValue.valueError "reflectlite.Value.Type" 0) (fun t _ _ _ => ReflectliteType.toType t)) Tryd.func67 (by kernel_rfl) (by kernel_rfl) (by kernel_rfl) (by kernel_rfl)
  have h8 := @run_callFunc_extern Tryd.prog 68 _ (ReflectliteValue.method (ReflectliteValue.valueError "reflectlite.Value.IsNil" 0) ReflectliteValue.isNil) Tryd.func68 (by kernel_rfl) (by kernel_rfl) (by kernel_rfl) (by kernel_rfl)
  have h27 := @run_callFunc_extern Tryd.prog 87 _ (ReflectliteType.abiMethod fun t => do pure (.int .u8 (← Rtype.kind t))) Tryd.func87 (by kernel_rfl) (by kernel_rfl) (by kernel_rfl) (by kernel_rfl)
  have h37 := @run_callFunc_extern Tryd.prog 99 _ (ReflectliteType.method ReflectliteType.elem) Tryd.func99 (by kernel_rfl) (by kernel_rfl) (by kernel_rfl) (by kernel_rfl)
  have h38 := @run_callFunc_extern Tryd.prog 100 _ (ReflectliteType.relation "Implements" ReflectliteType.implements_) Tryd.func100 (by kernel_rfl) (by kernel_rfl) (by kernel_rfl) (by kernel_rfl)
  have h10 := @run_callFunc_extern Tryd.prog 70 _ ReflectliteType.typeOf Tryd.func70 (by kernel_rfl) (by kernel_rfl) (by kernel_rfl) (by kernel_rfl)
  have h35 := @run_callFunc_extern Tryd.prog 97 _ (ReflectliteType.relation "AssignableTo" ReflectliteType.assignableTo) Tryd.func97 (by kernel_rfl) (by kernel_rfl) (by kernel_rfl) (by kernel_rfl)
  have h11 := @run_callFunc_extern Tryd.prog 71 _ (ReflectliteValue.method (ReflectliteValue.valueError "reflectlite.Value.Elem" 0) ReflectliteValue.elem) Tryd.func71 (by kernel_rfl) (by kernel_rfl) (by kernel_rfl) (by kernel_rfl)
  have h12 := @run_callFunc_extern Tryd.prog 72 _ ReflectliteValue.set Tryd.func72 (by kernel_rfl) (by kernel_rfl) (by kernel_rfl) (by kernel_rfl)
  have tO := etypeOfT
  have mA := methodAssignableTo
  have a25 := eassignableT
  have v25 := evalueOfT
  have f6 := evalueOfP
  have f7 := etypeP
  have mK := methodKind
  have mE := methodElem
  have mI := methodImplements
  have k27 := ekindP
  have k25 := ekindT
  have e27 := eelemP
  have i25 := eimplementsT
  have n8 := eisNilP ⟨w.heap.size, 0, none⟩ t ((w.alloc (.cells #[.pointer (some t)] 88)).alloc (.cells #[.pointer (some ⟨2, 88, none⟩), .pointer (some ⟨w.heap.size, 0, none⟩), .int .u64 150] 94)) (by simp)
  have hlt : 1 < w.heap.size := World.block_lt_of_cell? w _ hg
  have hg2 : ((w.alloc (.cells #[.pointer (some t)] 88)).alloc (.cells #[.pointer (some ⟨2, 88, none⟩), .pointer (some ⟨w.heap.size, 0, none⟩), .int .u64 150] 94)).cell? ⟨1, 0, none⟩ = some (.iface 105 (.agg #[.pointer (some ⟨2, 30, none⟩)])) := by
    rw [World.cell?_alloc_lt _ _ ⟨1, 0, none⟩ (by simp; omega), World.cell?_alloc_lt _ _ ⟨1, 0, none⟩ hlt]; exact hg
  have htl : t.block < w.heap.size := World.block_lt_of_cell? w _ ht0
  have el := eelemVP ⟨w.heap.size, 0, none⟩ t (((w.alloc (.cells #[.pointer (some t)] 88)).alloc (.cells #[.pointer (some ⟨2, 88, none⟩), .pointer (some ⟨w.heap.size, 0, none⟩), .int .u64 150] 94)).alloc (.cells #[.pointer (some ⟨2, 88, none⟩), .pointer (some ⟨w.heap.size, 0, none⟩), .int .u64 150] 94)) (by rw [World.cell?_alloc_lt _ _ ⟨w.heap.size, 0, none⟩ (by simp; omega)]; simp)
  have st := esetT t ⟨w.heap.size + 1 + 1 + 1, 0, none⟩ code old ((((w.alloc (.cells #[.pointer (some t)] 88)).alloc (.cells #[.pointer (some ⟨2, 88, none⟩), .pointer (some ⟨w.heap.size, 0, none⟩), .int .u64 150] 94)).alloc (.cells #[.pointer (some ⟨2, 88, none⟩), .pointer (some ⟨w.heap.size, 0, none⟩), .int .u64 150] 94)).alloc (.cells #[.int .i64 code] 71))
    (by rw [World.cell?_alloc_at _ _ _ _ (by simp)]; rfl)
    (by rw [World.cell?_alloc_lt _ _ t (by simp; omega), World.cell?_alloc_lt _ _ t (by simp; omega), World.cell?_alloc_lt _ _ t (by simp; omega), World.cell?_alloc_lt _ _ t htl]; exact ht0)
    (by rw [World.frozen?_alloc_old _ _ t (by simp; omega), World.frozen?_alloc_old _ _ t (by simp; omega), World.frozen?_alloc_old _ _ t (by simp; omega), World.frozen?_alloc_old _ _ t (Nat.ne_of_lt htl)]; exact hf0)
  have tF := ftypeOfT
  have aF := assignableFE
  have nA := noAs
  have hU := hasUnwrap
  have mU := methodUnwrap
  have c1 : (((w.alloc (.cells #[.pointer (some t)] 88)).alloc (.cells #[.pointer (some ⟨2, 88, none⟩), .pointer (some ⟨w.heap.size, 0, none⟩), .int .u64 150] 94)).alloc (.cells #[.pointer (some ⟨2, 88, none⟩), .pointer (some ⟨w.heap.size, 0, none⟩), .int .u64 150] 94)).cell? ⟨g, 1, none⟩ = some (.iface 71 (.int .i64 code)) := by
    have hgl := hr.lt
    rw [World.cell?_alloc_lt _ _ ⟨g, 1, none⟩ (by simp; omega), World.cell?_alloc_lt _ _ ⟨g, 1, none⟩ (by simp; omega), World.cell?_alloc_lt _ _ ⟨g, 1, none⟩ (by simp; omega)]
    exact hr.cell 1
  clear hr
  go_enter Tryd.func64, Tryd.ntmps64
  go_wp2
  refine wp_loop_rounds 2 ?_
  rw [rounds_succ]
  go_wp2
  rw [rounds_succ]
  go_wp2
  all_goals
    go_ret
    exact ⟨rfl, rfl⟩
end Go.Proofs.YtoooflagkhpnkaaDoor
