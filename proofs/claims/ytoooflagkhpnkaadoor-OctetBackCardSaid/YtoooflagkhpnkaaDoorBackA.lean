/- Contract: jotterlaw01.back: a number that was put is read back. (Written by gen_back.py.) -/
import Derived.Test.YtoooflagkhpnkaaDoorReadB
import Derived.Test.YtoooflagkhpnkaaDoorPutD
import Derived.Deep.RegionWith
namespace Go.Proofs.YtoooflagkhpnkaaDoor
open Go Go.RowKit
set_option linter.unusedVariables false

def cat (ops : List OpR) : List UInt8 := (ops.map putBytes).flatten
theorem cat_step (ol : List OpR) (k : Nat) (h : k < ol.length) : cat (ol.take (k + 1)) = cat (ol.take k) ++ putBytes ol[k] := by
  rw [cat, cat, List.take_succ_eq_append_getElem h, List.map_append, List.flatten_append]
  simp
theorem num1 (x : Nat) : num [b8 x] = x % 256 := by
  have := b8_int x
  simp [num]; omega
theorem num2 (x : Nat) : num [b8 (x / 256), b8 x] = x % 65536 := by
  have h1 := b8_int x; have h2 := b8_int (x / 256)
  simp [num]; omega
theorem num4 (x : Nat) : num [b8 (x / 16777216), b8 (x / 65536), b8 (x / 256), b8 x] = x % 4294967296 := by
  have h1 := b8_int x; have h2 := b8_int (x / 256); have h3 := b8_int (x / 65536); have h4 := b8_int (x / 16777216)
  simp [num]; omega
/-- reading what lies ahead -/
theorem got_ahead (P m t : List UInt8) (p k : Nat) (h : P.drop p = m ++ t) (hp : p ≤ P.length) (hk : k = m.length) : (⟨P, p, none⟩ : RdS).got k = m ∧ (⟨P, p, none⟩ : RdS).after k = ⟨P, p + k, none⟩ := by
  have hl : P.length - p = m.length + t.length := by rw [← List.length_drop, h, List.length_append]
  have hc : (⟨P, p, none⟩ : RdS).can k := ⟨rfl, by omega, by simp only; omega⟩
  constructor
  · rw [RdS.got, if_pos hc]
    show (P.drop p).take k = m
    rw [h, hk, List.take_left]
  · rw [RdS.after, if_pos hc]
    rfl
theorem Rdr.heap {w w' : World} {g : Nat} {s : RdS} (h : Rdr w g s) (e : w'.heap = w.heap) : Rdr w' g s := by
  obtain ⟨gb, n, ev, hn, hp, hn1, hrow, hbs, hev⟩ := h
  refine ⟨gb, n, ev, hn, hp, hn1, by unfold Row at *; rw [e]; exact hrow, by unfold Row at *; rw [e]; exact hbs, ?_⟩
  cases hb : s.bad with
  | none => rw [hb] at hev; exact hev
  | some q =>
    rw [hb] at hev
    obtain ⟨gv, hv, hr⟩ := hev
    exact ⟨gv, hv, by unfold Row at *; rw [e]; exact hr⟩

set_option maxRecDepth 100000 in
set_option maxHeartbeats 4000000 in
theorem back_any (g : Nat) (P t : List UInt8) (p : Nat) (r : OpR) (w : World) (h : Rdr w g ⟨P, p, none⟩) (hd : P.drop p = putBytes r ++ t) (hx : r.num < 18446744073709551616) :
    Calls Tryd.prog 45 #[.pointer (some ⟨g, 0, none⟩), opAgg r] w fun e w' => e = .returned (.bool true) ∧ Rdr w' g ⟨P, p + (putBytes r).length, none⟩ ∧ Fr [g] w w' := by
  obtain ⟨kind, which, nn, num0⟩ := r
  simp only at hx
  have hp := h.pos_le.1
  have HD := Lib.hid hd
  have HR := Lib.hid h
  clear h hd
  unfold opAgg
  dsimp only
  obtain ⟨w1, hw1⟩ : ∃ w1, w1 = w.alloc (.cells #[.int .i64 kind, .bool which, .int .i64 nn, .int .u64 (num0 : Int)] 55) := ⟨_, rfl⟩
  obtain ⟨gb, hgb⟩ : ∃ gb, gb = w.heap.size := ⟨_, rfl⟩
  have hf1 : Fr [] w w1 := by rw [hw1]; exact (Fr.refl _ _).alloc _
  have hrow : Row w1 gb [.int .i64 kind, .bool which, .int .i64 nn, .int .u64 (num0 : Int)] 55 := by rw [hw1, hgb]; exact Row.new w _ _
  have HR1 := Lib.hid (HR.out.fr0 hf1)
  have HNE : Hid (gb ≠ g) := Lib.hid (by obtain ⟨cr, hcr⟩ := HR1.out.row; exact hrow.ne hcr (by decide))
  have HW1 := Lib.hid hw1; have HGB := Lib.hid hgb; have HF1 := Lib.hid hf1; have HROW := Lib.hid hrow
  have c3 := hrow.cell' (j := 3) rfl
  clear hw1 hgb hf1 hrow
  by_cases k1 : kind = 1
  · subst k1
    have e1 : putBytes ⟨1, which, nn, num0⟩ = [b8 num0] := by simp [putBytes]
    have hga := got_ahead P [b8 num0] t p 1 (by rw [← e1]; exact HD.out) hp rfl
    have HE : Hid ((putBytes ⟨1, which, nn, num0⟩).length = 1) := Lib.hid (by rw [e1]; rfl)
    clear e1
    have t1 : ((1 : Int) == 1) = true := by decide
    have hq : ((num0 : Int) % 256) = ((num0 % 256 : Nat) : Int) := by omega
    obtain ⟨z, hz⟩ : ∃ z, z = num0 % 256 := ⟨_, rfl⟩
    rw [← hz] at hq
    have hzl : z < 4294967296 := by omega
    have hq2 : (num0 : Int).tmod 256 = (z : Int) := by rw [Int.tmod_eq_emod_of_nonneg (by omega)]; exact hq
    have hw : IntKind.i64.wrap (z : Int) = (z : Int) := IntWalk.i64_in _ (by omega)
    have HU : Hid (∀ w2, w2.heap = w1.heap → Calls Tryd.prog 39 #[.pointer (some ⟨g, 0, none⟩)] w2 fun e w' => e = .returned (.int .i64 z) ∧ Rdr w' g ⟨P, p + 1, none⟩ ∧ Fr [g] w2 w') := Lib.hid fun w2 hh => by
      have := u8_any g _ w2 (HR1.out.heap hh)
      rw [show (1 : Int) = ((1 : Nat) : Int) from rfl, hga.1, hga.2, num1, ← hz] at this
      exact this
    clear hz hga
    go_enter Tryd.func45, Tryd.ntmps45
    go_wp2_with fail
    rw [← HW1.out, ← HGB.out]
    go_region_with (go_at_call 39; go_loud (refine (HU.out w1.drew rfl).mono ?_; rintro e w2 ⟨rfl, hr, hf⟩; have HR2 := Lib.hid hr; have HF2 : Hid (Fr [g] w w2) := Lib.hid ((HF1.out.nil [g]).drew.trans1 hf); have q3 : w2.cell? ⟨gb, 3, none⟩ = some (.int .u64 (num0 : Int)) := hf.cell (show w1.drew.cell? ⟨gb, 3, none⟩ = _ from c3) (by simpa using HNE.out); clear hr hf))
    all_goals go_wp2_with fail
    all_goals go_ret
    all_goals exact ⟨rfl, by rw [HE.out]; exact HR2.out, HF2.out⟩
  by_cases k2 : kind = 2
  · subst k2
    have e1 : putBytes ⟨2, which, nn, num0⟩ = [b8 (num0 / 256), b8 num0] := by simp [putBytes]
    have hga := got_ahead P [b8 (num0 / 256), b8 num0] t p 2 (by rw [← e1]; exact HD.out) hp rfl
    have HE : Hid ((putBytes ⟨2, which, nn, num0⟩).length = 2) := Lib.hid (by rw [e1]; rfl)
    clear e1
    have t1 : ((2 : Int) == 1) = false := by decide
    have t2 : ((2 : Int) == 2) = true := by decide
    have hq : ((num0 : Int) % 65536) = ((num0 % 65536 : Nat) : Int) := by omega
    obtain ⟨z, hz⟩ : ∃ z, z = num0 % 65536 := ⟨_, rfl⟩
    rw [← hz] at hq
    have hzl : z < 4294967296 := by omega
    have hq2 : (num0 : Int).tmod 65536 = (z : Int) := by rw [Int.tmod_eq_emod_of_nonneg (by omega)]; exact hq
    have hw : IntKind.i64.wrap (z : Int) = (z : Int) := IntWalk.i64_in _ (by omega)
    have HU : Hid (∀ w2, w2.heap = w1.heap → Calls Tryd.prog 40 #[.pointer (some ⟨g, 0, none⟩)] w2 fun e w' => e = .returned (.int .i64 z) ∧ Rdr w' g ⟨P, p + 2, none⟩ ∧ Fr [g] w2 w') := Lib.hid fun w2 hh => by
      have := u16_any g _ w2 (HR1.out.heap hh)
      rw [show (2 : Int) = ((2 : Nat) : Int) from rfl, hga.1, hga.2, num2, ← hz] at this
      exact this
    clear hz hga
    go_enter Tryd.func45, Tryd.ntmps45
    go_wp2_with fail
    rw [← HW1.out, ← HGB.out]
    go_region_with (go_at_call 40; go_loud (refine (HU.out w1.drew rfl).mono ?_; rintro e w2 ⟨rfl, hr, hf⟩; have HR2 := Lib.hid hr; have HF2 : Hid (Fr [g] w w2) := Lib.hid ((HF1.out.nil [g]).drew.trans1 hf); have q3 : w2.cell? ⟨gb, 3, none⟩ = some (.int .u64 (num0 : Int)) := hf.cell (show w1.drew.cell? ⟨gb, 3, none⟩ = _ from c3) (by simpa using HNE.out); clear hr hf))
    all_goals go_wp2_with fail
    all_goals go_ret
    all_goals exact ⟨rfl, by rw [HE.out]; exact HR2.out, HF2.out⟩
  by_cases k3 : kind = 3
  · subst k3
    have e1 : putBytes ⟨3, which, nn, num0⟩ = [b8 (num0 / 16777216), b8 (num0 / 65536), b8 (num0 / 256), b8 num0] := by simp [putBytes]
    have hga := got_ahead P [b8 (num0 / 16777216), b8 (num0 / 65536), b8 (num0 / 256), b8 num0] t p 4 (by rw [← e1]; exact HD.out) hp rfl
    have HE : Hid ((putBytes ⟨3, which, nn, num0⟩).length = 4) := Lib.hid (by rw [e1]; rfl)
    clear e1
    have t1 : ((3 : Int) == 1) = false := by decide
    have t2 : ((3 : Int) == 2) = false := by decide
    have t3 : ((3 : Int) == 3) = true := by decide
    have hq : ((num0 : Int) % 4294967296) = ((num0 % 4294967296 : Nat) : Int) := by omega
    obtain ⟨z, hz⟩ : ∃ z, z = num0 % 4294967296 := ⟨_, rfl⟩
    rw [← hz] at hq
    have hzl : z < 4294967296 := by omega
    have hq2 : (num0 : Int).tmod 4294967296 = (z : Int) := by rw [Int.tmod_eq_emod_of_nonneg (by omega)]; exact hq
    have hw : IntKind.u32.wrap (z : Int) = (z : Int) := by rw [IntKind.wrap_u32']; omega
    have HU : Hid (∀ w2, w2.heap = w1.heap → Calls Tryd.prog 41 #[.pointer (some ⟨g, 0, none⟩)] w2 fun e w' => e = .returned (.int .u32 z) ∧ Rdr w' g ⟨P, p + 4, none⟩ ∧ Fr [g] w2 w') := Lib.hid fun w2 hh => by
      have := u32_any g _ w2 (HR1.out.heap hh)
      rw [show (4 : Int) = ((4 : Nat) : Int) from rfl, hga.1, hga.2, num4, ← hz] at this
      exact this
    clear hz hga
    go_enter Tryd.func45, Tryd.ntmps45
    go_wp2_with fail
    rw [← HW1.out, ← HGB.out]
    go_region_with (go_at_call 41; go_loud (refine (HU.out w1.drew rfl).mono ?_; rintro e w2 ⟨rfl, hr, hf⟩; have HR2 := Lib.hid hr; have HF2 : Hid (Fr [g] w w2) := Lib.hid ((HF1.out.nil [g]).drew.trans1 hf); have q3 : w2.cell? ⟨gb, 3, none⟩ = some (.int .u64 (num0 : Int)) := hf.cell (show w1.drew.cell? ⟨gb, 3, none⟩ = _ from c3) (by simpa using HNE.out); clear hr hf))
    all_goals go_wp2_with fail
    all_goals go_ret
    all_goals exact ⟨rfl, by rw [HE.out]; exact HR2.out, HF2.out⟩
  have e1 : (putBytes ⟨kind, which, nn, num0⟩).length = 0 := by simp [putBytes, k1, k2, k3]
  have HE := Lib.hid e1; clear e1
  have t1 : (kind == 1) = false := by simpa using k1
  have t2 : (kind == 2) = false := by simpa using k2
  have t3 : (kind == 3) = false := by simpa using k3
  go_enter Tryd.func45, Tryd.ntmps45
  go_wp2_with fail
  rw [← HW1.out]
  go_ret
  exact ⟨rfl, by rw [HE.out]; exact HR1.out, HF1.out.nil _⟩
end Go.Proofs.YtoooflagkhpnkaaDoor
