/- Contracts: api.Code, api.Place, jotterlaw01.told. -/
import Derived.Test.YtoooflagkhpnkaaDoorAs
namespace Go.Proofs.YtoooflagkhpnkaaDoor
open Go Go.RowKit
set_option linter.unusedVariables false

theorem as_place' (g : Nat) (t : Nat) (old : Value) (w : World) (hg : ErrT w) (ht0 : w.cell? ⟨t, 0, none⟩ = some old) (hf0 : w.frozen? ⟨t, 0, none⟩ = false) :
    Calls Tryd.prog 64 #[.iface 84 (.pointer (some ⟨g, 0, none⟩)), .iface 89 (.pointer (some ⟨t, 0, none⟩))] w fun ev w' =>
      ev = .returned (.bool true) ∧ w'.cell? ⟨t, 0, none⟩ = some (.pointer (some ⟨g, 0, none⟩)) ∧ Fr [t] w w' := by
  refine (as_place ⟨g, 0, none⟩ ⟨t, 0, none⟩ old w hg ht0 hf0).mono ?_
  rintro e w' ⟨rfl, rfl⟩
  have htl : t < w.heap.size := World.block_lt_of_cell? w ⟨t, 0, none⟩ ht0
  refine ⟨rfl, ?_, ?_⟩
  · refine World.cell?_setCell_same _ _ _ (u := old) ?_
    rw [World.cell?_alloc_lt _ _ ⟨t, 0, none⟩ (by simp; omega), World.cell?_alloc_lt _ _ ⟨t, 0, none⟩ (by simp; omega), World.cell?_alloc_lt _ _ ⟨t, 0, none⟩ (by simp; omega), World.cell?_alloc_lt _ _ ⟨t, 0, none⟩ htl]
    exact ht0
  · exact (((((Fr.refl [t] w).alloc _).alloc _).alloc _).alloc _).setCell _ (by simp)
theorem as_code' (g : Nat) (at_ code : Int) (t : Nat) (old : Value) (w : World) (hg : ErrT w) (ht0 : w.cell? ⟨t, 0, none⟩ = some old) (hf0 : w.frozen? ⟨t, 0, none⟩ = false) (hr : Row w g [.int .i64 at_, .iface 71 (.int .i64 code)] 86) :
    Calls Tryd.prog 64 #[.iface 84 (.pointer (some ⟨g, 0, none⟩)), .iface 88 (.pointer (some ⟨t, 0, none⟩))] w fun ev w' =>
      ev = .returned (.bool true) ∧ w'.cell? ⟨t, 0, none⟩ = some (.int .i64 code) ∧ Fr [t] w w' := by
  refine (as_code g at_ code ⟨t, 0, none⟩ old w hg ht0 hf0 hr).mono ?_
  rintro e w' ⟨rfl, rfl⟩
  have htl : t < w.heap.size := World.block_lt_of_cell? w ⟨t, 0, none⟩ ht0
  refine ⟨rfl, ?_, ?_⟩
  · refine World.cell?_setCell_same _ _ _ (u := old) ?_
    rw [World.cell?_alloc_lt _ _ ⟨t, 0, none⟩ (by simp; omega), World.cell?_alloc_lt _ _ ⟨t, 0, none⟩ (by simp; omega), World.cell?_alloc_lt _ _ ⟨t, 0, none⟩ (by simp; omega), World.cell?_alloc_lt _ _ ⟨t, 0, none⟩ htl]
    exact ht0
  · exact (((((Fr.refl [t] w).alloc _).alloc _).alloc _).alloc _).setCell _ (by simp)

/-- a new block that is written keeps all that was there -/
theorem Fr.newOnly {w w1 w2 : World} {o : Obj} (hw : w1 = w.alloc o) (h : Fr [w.heap.size] w1 w2) : Fr [] w w2 := by
  subst hw
  exact ((Fr.refl [] w).alloc o).trans h (by simp)

set_option maxRecDepth 100000 in
set_option maxHeartbeats 1000000 in
theorem code_fault (v : Value) (at_ code : Int) (w : World) (hg : ErrT w) (h : IsFault w v at_ code) :
    Calls Tryd.prog 54 #[v] w fun e w' => e = .returned (.int .i64 code) ∧ Fr [] w w' := by
  obtain ⟨g, rfl, hr⟩ := h
  obtain ⟨W, hW⟩ : ∃ W, W = w.alloc (.cells #[.int .i64 0] 71) := ⟨_, rfl⟩
  obtain ⟨t, ht⟩ : ∃ t, t = w.heap.size := ⟨_, rfl⟩
  have fw : Fr [] w W := by rw [hW]; exact (Fr.refl _ _).alloc _
  have hg2 := Lib.hid (hg.fr fw (by simp))
  have hr2 := Lib.hid (hr.fr fw (by simp))
  have row : Row W t [.int .i64 0] 71 := by rw [hW, ht]; exact Row.new w _ _
  have c0 := row.cell' (j := 0) rfl
  have f0 := row.free 0
  have HW := Lib.hid hW; have HT := Lib.hid ht
  clear hW ht fw hg hr row
  go_enter Tryd.func54, Tryd.ntmps54
  go_wp2_with fail
  rw [← HW.out, ← HT.out]
  refine (as_code' g at_ code t _ W hg2.out c0 f0 hr2.out).mono ?_
  rintro e w2 ⟨rfl, hc, hf⟩
  clear c0 f0
  go_wp2
  go_ret
  exact ⟨rfl, Fr.newOnly HW.out (by rw [← HT.out]; exact hf)⟩

set_option maxRecDepth 100000 in
set_option maxHeartbeats 1000000 in
theorem place_fault (v : Value) (at_ code : Int) (w : World) (hg : ErrT w) (h : IsFault w v at_ code) :
    Calls Tryd.prog 55 #[v] w fun e w' => e = .returned (.int .i64 at_) ∧ Fr [] w w' := by
  obtain ⟨g, rfl, hr⟩ := h
  obtain ⟨W, hW⟩ : ∃ W, W = w.alloc (.cells #[.pointer none] 84) := ⟨_, rfl⟩
  obtain ⟨t, ht⟩ : ∃ t, t = w.heap.size := ⟨_, rfl⟩
  have fw : Fr [] w W := by rw [hW]; exact (Fr.refl _ _).alloc _
  have hg2 := Lib.hid (hg.fr fw (by simp))
  have hgt : g ≠ t := by have := hr.lt; omega
  have hr2 := Lib.hid (hr.fr fw (by simp))
  have row : Row W t [.pointer none] 84 := by rw [hW, ht]; exact Row.new w _ _
  have c0 := row.cell' (j := 0) rfl
  have f0 := row.free 0
  have HW := Lib.hid hW; have HT := Lib.hid ht; have HGT := Lib.hid hgt
  clear hW ht fw hg hr row hgt
  go_enter Tryd.func55, Tryd.ntmps55
  go_wp2_with fail
  rw [← HW.out, ← HT.out]
  refine (as_place' g t _ W hg2.out c0 f0).mono ?_
  rintro e w2 ⟨rfl, hc, hf⟩
  have hr3 := hr2.out.fr hf (by simpa using HGT.out)
  have c1 := hr3.cell' (j := 0) rfl
  clear c0 f0 hr3
  go_wp2
  go_ret
  exact ⟨rfl, Fr.newOnly HW.out (by rw [← HT.out]; exact hf)⟩

theorem told_nil (at_ : Int) (w : World) : Calls Tryd.prog 32 #[.nilIface, .int .i64 0, .int .i64 at_] w fun e w' => e = .returned (.bool true) ∧ w = w' := by
  go_enter Tryd.func32, Tryd.ntmps32
  go_wp2
  go_ret
  exact ⟨rfl, rfl⟩

set_option maxHeartbeats 1000000 in
theorem told_fault (v : Value) (at_ code : Int) (w : World) (hg : ErrT w) (h : IsFault w v at_ code) (hc : code ≠ 0) :
    Calls Tryd.prog 32 #[v, .int .i64 code, .int .i64 at_] w fun e w' => e = .returned (.bool true) ∧ Fr [] w w' := by
  have hq : (code == 0) = false := by simpa using hc
  have HG := Lib.hid hg; have HI := Lib.hid h
  obtain ⟨g, rfl, hr⟩ := h
  clear hg hr hc
  go_enter Tryd.func32, Tryd.ntmps32
  go_wp2_with fail
  refine (code_fault _ at_ code _ HG.out HI.out).mono ?_
  rintro e w1 ⟨rfl, f1⟩
  go_wp2_with fail
  refine (place_fault _ at_ code _ (HG.out.fr f1 (by simp)) (HI.out.fr0 f1)).mono ?_
  rintro e w2 ⟨rfl, f2⟩
  go_wp2
  go_ret
  exact ⟨rfl, f1.trans0 f2⟩
end Go.Proofs.YtoooflagkhpnkaaDoor
