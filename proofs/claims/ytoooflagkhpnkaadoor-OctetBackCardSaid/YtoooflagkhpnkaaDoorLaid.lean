/- From the rows' listed variables (octet.table, errors.errorType) to the cells that a walk reads; a world that meets them. -/
import Derived.Test.YtoooflagkhpnkaaDoorRows
import Derived.Test.YtoooflagkhpnkaaDoorLeafB
import Derived.ChangeSame
import Derived.ChangeVars
import Derived.JoinedOf
import Derived.RowKit
import Derived.RowKitTokens
import Derived.LaidLaws
import Derived.LaidHandle
import Derived.LaidSub
import Derived.OpenShut
import Derived.Stop.Joined
namespace Go.Proofs.YtoooflagkhpnkaaDoor
open Go Go.ChangeShapes Go.WideShapes Go.RowKit

theorem own : ownKnob Tryd.prog.godebug = none := by kernel_rfl
theorem laidOut : laidOutB Tryd.prog = true := by kernel_rfl
theorem gTable : Tryd.prog.globalNamed "jotter/octet.table" = some 0 := by kernel_rfl
theorem gTableT : (Tryd.prog.globals[0]?).map (·.type) = some 68 := by kernel_rfl
theorem cellsU32 : Tryd.prog.cellsOf 24 = 1 := by kernel_rfl

def tableData {H : Type} : List (DataW H) := tblL.map fun (n : Nat) => .lit (.int .u32 (n : Int))

theorem table_of_laid {W : World} (h : laidMet Tryd.prog [("jotter/octet.table", Rows.laid_jotter_octet_table)] W) : Tbl W := by
  obtain ⟨ps, ⟨g, t, cs, fuel, p, q, hg, ht, hvar, hd, _, _⟩, _⟩ := h
  obtain rfl := Option.some.inj (gTable.symm.trans hg)
  obtain rfl := Option.some.inj (gTableT.symm.trans ht)
  obtain ⟨xs, m, _, hx, _, hl, hi⟩ := DataW.trod_array Tryd.underlying68 hd
  have hx1 : xs.map (·.1) = (tableData : List (DataW Unit)) := by
    have := (Prod.mk.inj hx).1
    exact (DataW.agg.inj (this.symm.trans (show (Rows.laid_jotter_octet_table : DataW Unit) = .agg tableData from rfl)))
  intro i hi16
  have h1 := hi i hi16
  rw [cellsU32, Nat.mul_one] at h1
  obtain ⟨x, hxi⟩ : ∃ x, xs[i]? = some x := ⟨_, List.getElem?_eq_getElem (by omega)⟩
  rw [hxi] at h1
  obtain ⟨n, hcs, hxn, _⟩ := DataW.trod_int Tryd.underlying24 h1
  have h2 : (tableData : List (DataW Unit))[i]? = some (.lit (.int .u32 n)) := by rw [← hx1, List.getElem?_map, hxi, hxn]; rfl
  have h3 : cs.toList[i]? = some (.int .u32 n) := by
    have : ((cs.toList.drop i).take 1)[0]? = some (.int .u32 n) := by rw [hcs]; rfl
    simpa [List.getElem?_take, List.getElem?_drop] using this
  have h4 : n = (tbl i : Int) := by
    have hlen : i < tblL.length := hi16
    have e : (tableData : List (DataW Unit))[i]? = some (.lit (.int .u32 (tblL[i] : Int))) := by simp [tableData, List.getElem?_eq_getElem hlen]
    rw [e] at h2
    have := (Lit.int.inj (DataW.lit.inj (Option.some.inj h2))).2
    rw [← this]
    simp [tbl, List.getD, List.getElem?_eq_getElem hlen]
  rw [World.var?_cell hg hvar i, ← h4]
  simpa using h3

theorem gErr : Tryd.prog.globalNamed "errors.errorType" = some 1 := by kernel_rfl
theorem rtRow : (Tryd.prog.cutTypes.find? (·.1 == "internal/reflectlite.rtype")).map (·.2) = some 105 := by kernel_rfl
theorem typesSize : Tryd.prog.types.size = Tryd.prog.types.size := rfl
theorem errRow : ((List.range Tryd.prog.types.size).filter fun t => Tryd.prog.rowNamed t [101, 114, 114, 111, 114]) = [30] := by kernel_rfl

/-- errors.errorType holds the handle of the type error -/
def ErrT (w : World) : Prop := w.cell? ⟨1, 0, none⟩ = some (.iface 105 (.agg #[.pointer (some ⟨2, 30, none⟩)]))
theorem ErrT.fr {S : List Nat} {w w' : World} (h : ErrT w) (f : Fr S w w') (hS : 1 ∉ S) : ErrT w' := f.cell h hS
theorem ErrT.drewN {w : World} (h : ErrT w) (n : Nat) : ErrT (w.drewN n) := h

theorem handle_of_laid {W : World} (h : handlesMet Tryd.prog [("errors.errorType", Rows.laid_errors_errorType)] W) : ErrT W := by
  obtain ⟨name, u, ty, e1, e2, e3, e4, e5⟩ := h _ (List.mem_singleton.2 rfl)
  have en : name = [101, 114, 114, 111, 114] := (Option.some.inj e1).symm
  subst en
  obtain rfl := Option.some.inj (rtRow.symm.trans e2)
  have hm : ty ∈ (List.range Tryd.prog.types.size).filter fun t => Tryd.prog.rowNamed t [101, 114, 114, 111, 114] := List.mem_filter.2 ⟨List.mem_range.2 e3, e4⟩
  rw [errRow] at hm
  obtain rfl := List.mem_singleton.1 hm
  have hh : typeHandle Tryd.prog 30 = .pointer (some ⟨2, 30, none⟩) := by kernel_rfl
  rw [hh] at e5
  unfold ErrT
  simpa using World.var?_cell gErr e5 0

abbrev L1 : List (String × DataW Unit) := [("jotter/octet.table", Rows.laid_jotter_octet_table)]
abbrev L2 : List (String × DataW Unit) := [("errors.errorType", Rows.laid_errors_errorType), ("jotter/octet.table", Rows.laid_jotter_octet_table)]
abbrev L3 : List (String × DataW Unit) := [("errors.errorType", Rows.laid_errors_errorType)]
theorem l1_of {W : World} (h : laidMetH Tryd.prog L1 W) : Tbl W := table_of_laid h
theorem l2_of {W : World} (h : laidMetH Tryd.prog L2 W) : Tbl W ∧ ErrT W := by
  have h' : laidMet Tryd.prog L1 W ∧ handlesMet Tryd.prog L3 W := h
  exact ⟨table_of_laid h'.1, handle_of_laid h'.2⟩
theorem l3_of {W : World} (h : laidMetH Tryd.prog L3 W) : ErrT W := by
  have h' : laidMet Tryd.prog [] W ∧ handlesMet Tryd.prog L3 W := h
  exact handle_of_laid h'.2

def tableCells : Array Value := (tblL.map fun (n : Nat) => Value.int .u32 (n : Int)).toArray
/-- A world that meets the conditions: the settled one, the two variables laid. -/
noncomputable def laidWorld (os : Os) : World :=
  let w0 := World.holding Tryd.prog os ⟨#[], #[], []⟩
  { w0 with heap := (w0.heap.modify 0 fun
      | .cells _ t frozen => .cells tableCells t frozen
      | o => o).modify 1 fun
      | .cells _ t frozen => .cells #[.iface 105 (.agg #[.pointer (some ⟨2, 30, none⟩)])] t frozen
      | o => o }
theorem met1 (os : Os) (args : Array Value) : laidMetH Tryd.prog L1 ((laidWorld os).forCall (fun _ _ => 0) ⟨#[], args, []⟩).memory :=
  laidMet_of_run' 8 (by kernel_rfl) (by kernel_rfl)
theorem met2 (os : Os) (args : Array Value) : laidMetH Tryd.prog L2 ((laidWorld os).forCall (fun _ _ => 0) ⟨#[], args, []⟩).memory :=
  laidMetH_of_parts (met1 os args) (by kernel_rfl)
theorem met3 (os : Os) (args : Array Value) : laidMetH Tryd.prog L3 ((laidWorld os).forCall (fun _ _ => 0) ⟨#[], args, []⟩).memory :=
  laidMetH_of_parts (laidMet_nil _ _) (by kernel_rfl)
end Go.Proofs.YtoooflagkhpnkaaDoor
