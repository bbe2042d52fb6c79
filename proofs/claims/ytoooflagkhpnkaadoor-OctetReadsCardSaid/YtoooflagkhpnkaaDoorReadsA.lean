/- Contracts: jotterlaw01.read, jotterlaw01.stands. (Written by gen_reads.py.) -/
import Derived.Test.YtoooflagkhpnkaaDoorReadR
import Derived.Test.YtoooflagkhpnkaaDoorTold
import Derived.Test.YtoooflagkhpnkaaDoorOps
namespace Go.Proofs.YtoooflagkhpnkaaDoor
open Go Go.RowKit
set_option linter.unusedVariables false

def opAgg (r : OpR) : Value := .agg #[.int .i64 r.kind, .bool r.which, .int .i64 r.n, .int .u64 (r.num : Int)]
theorem Rdr.ref {w w' : World} {g gs : Nat} {s t : RdS} (h : Rdr w g s) (k : RefR w gs t) (f : Fr [gs] w w') : Rdr w' g s := by
  obtain ⟨c, hc⟩ := h.row
  obtain ⟨d, hd⟩ := k.row
  exact h.frS f (by simpa using hc.ne hd (by decide)) (fun x hx => by simp at hx; subst hx; exact ⟨d, _, hd, by decide, by decide⟩)
theorem RefR.rd {w w' : World} {g gs : Nat} {s t : RdS} (h : Rdr w g s) (k : RefR w gs t) (f : Fr [g] w w') : RefR w' gs t := by
  obtain ⟨c, hc⟩ := h.row
  obtain ⟨d, hd⟩ := k.row
  exact k.frS f (by simpa using hd.ne hc (by decide)) (fun x hx => by simp at hx; subst hx; exact ⟨c, _, hc, by decide, by decide⟩)
theorem ErrT.two {w w' : World} {g gs : Nat} {s t : RdS} (he : ErrT w) (h : Rdr w g s) (k : RefR w gs t) (f : Fr [g, gs] w w') (hw : 1 ∉ [g, gs]) : ErrT w' := he.fr f hw
theorem told_any (v : Value) (o : Option Nat) (w : World) (hg : ErrT w) (h : EvIs w v o) :
    Calls Tryd.prog 32 #[v, .int .i64 (codeOf o), .int .i64 (placeOf o)] w fun e w' => e = .returned (.bool true) ∧ Fr [] w w' := by
  cases o with
  | none =>
    obtain rfl : v = .nilIface := h
    refine (told_nil (placeOf none) w).mono ?_
    rintro e w' ⟨rfl, rfl⟩
    exact ⟨rfl, Fr.refl _ _⟩
  | some p => exact told_fault v p 10 w hg h (by decide)

/-- where both readers stand behind a read -/
def Both (w w' : World) (g gs : Nat) : Prop := ∃ s, Rdr w' g s ∧ RefR w' gs s ∧ Fr [g, gs] w w'
theorem fr_ab {w w1 w2 : World} {g gs : Nat} (h : Fr [] w w1) (f : Fr [g] w1 w2) : Fr [g, gs] w w2 := (h.nil [g, gs]).trans f (fun b hb _ => by simp at hb; simp [hb])
theorem fr_b {w w1 w2 : World} {g gs : Nat} (h : Fr [g, gs] w w1) (f : Fr [gs] w1 w2) : Fr [g, gs] w w2 := h.trans f (fun b hb _ => by simp at hb; simp [hb])

set_option maxRecDepth 100000 in
set_option maxHeartbeats 8000000 in
theorem read_any (g gs : Nat) (s : RdS) (r : OpR) (w : World) (h : Rdr w g s) (k : RefR w gs s) (he : ErrT w) (he1 : g ≠ 1) (he2 : gs ≠ 1) :
    Calls Tryd.prog 35 #[.pointer (some ⟨g, 0, none⟩), .pointer (some ⟨gs, 0, none⟩), opAgg r] w fun e w' => e = .returned (.bool true) ∧ Both w w' g gs := by
  obtain ⟨kind, which, nn, num0⟩ := r
  unfold opAgg
  dsimp only
  obtain ⟨w1, hw1⟩ : ∃ w1, w1 = w.alloc (.cells #[.int .i64 kind, .bool which, .int .i64 nn, .int .u64 (num0 : Int)] 55) := ⟨_, rfl⟩
  obtain ⟨gb, hgb⟩ : ∃ gb, gb = w.heap.size := ⟨_, rfl⟩
  have hf1 : Fr [] w w1 := by rw [hw1]; exact (Fr.refl _ _).alloc _
  have hrow : Row w1 gb [.int .i64 kind, .bool which, .int .i64 nn, .int .u64 (num0 : Int)] 55 := by rw [hw1, hgb]; exact Row.new w _ _
  have HR1 := Lib.hid (h.fr0 hf1); have HK1 := Lib.hid (k.fr0 hf1)
  have HE := Lib.hid he
  have HEN : Hid (1 ∉ [g, gs]) := Lib.hid (by simp; exact ⟨fun h => he1 h.symm, fun h => he2 h.symm⟩)
  have HNE : Hid (gb ≠ g) := Lib.hid (by obtain ⟨c, hc⟩ := HR1.out.row; exact hrow.ne hc (by decide))
  have HW1 := Lib.hid hw1; have HGB := Lib.hid hgb; have HF1 := Lib.hid hf1; have HROW := Lib.hid hrow
  clear h k he he1 he2 hw1 hgb hf1 hrow
  by_cases k1 : kind = 1
  · subst k1
    have t1 : ((1 : Int) == 1) = true := by decide
    go_enter Tryd.func35, Tryd.ntmps35
    go_wp2_with fail
    rw [← HW1.out]
    obtain ⟨z, hz⟩ : ∃ z, z = num (s.got 1) := ⟨_, rfl⟩
    have HZ := Lib.hid hz
    clear hz
    refine (u8_any g s _ HR1.out).mono ?_
    rw [← HZ.out]
    rintro e w2 ⟨rfl, hr, hf⟩
    have HR2 := Lib.hid hr; have HK2 := Lib.hid (RefR.rd HR1.out HK1.out hf); have HF2 := Lib.hid (fr_ab (gs := gs) HF1.out hf)
    clear hr hf
    go_wp2_with fail
    refine (refU8_any gs s _ HK2.out).mono ?_
    rw [← HZ.out]
    rintro e w3 ⟨rfl, hr, hf⟩
    have HK3 := Lib.hid hr; have HR3 := Lib.hid (Rdr.ref HR2.out HK2.out hf); have HF3 := Lib.hid (fr_b HF2.out hf)
    clear hr hf
    go_wp2_with fail
    go_ret
    exact ⟨rfl, _, HR3.out, HK3.out, HF3.out⟩
  by_cases k2 : kind = 2
  · subst k2
    have t1 : ((2 : Int) == 1) = false := by decide
    have t2 : ((2 : Int) == 2) = true := by decide
    go_enter Tryd.func35, Tryd.ntmps35
    go_wp2_with fail
    rw [← HW1.out]
    obtain ⟨z, hz⟩ : ∃ z, z = num (s.got 2) := ⟨_, rfl⟩
    have HZ := Lib.hid hz
    clear hz
    refine (u16_any g s _ HR1.out).mono ?_
    rw [← HZ.out]
    rintro e w2 ⟨rfl, hr, hf⟩
    have HR2 := Lib.hid hr; have HK2 := Lib.hid (RefR.rd HR1.out HK1.out hf); have HF2 := Lib.hid (fr_ab (gs := gs) HF1.out hf)
    clear hr hf
    go_wp2_with fail
    refine (refU16_any gs s _ HK2.out).mono ?_
    rw [← HZ.out]
    rintro e w3 ⟨rfl, hr, hf⟩
    have HK3 := Lib.hid hr; have HR3 := Lib.hid (Rdr.ref HR2.out HK2.out hf); have HF3 := Lib.hid (fr_b HF2.out hf)
    clear hr hf
    go_wp2_with fail
    go_ret
    exact ⟨rfl, _, HR3.out, HK3.out, HF3.out⟩
  by_cases k3 : kind = 3
  · subst k3
    have t1 : ((3 : Int) == 1) = false := by decide
    have t2 : ((3 : Int) == 2) = false := by decide
    have t3 : ((3 : Int) == 3) = true := by decide
    go_enter Tryd.func35, Tryd.ntmps35
    go_wp2_with fail
    rw [← HW1.out]
    obtain ⟨z, hz⟩ : ∃ z, z = num (s.got 4) := ⟨_, rfl⟩
    have HZ := Lib.hid hz
    clear hz
    refine (u32_any g s _ HR1.out).mono ?_
    rw [← HZ.out]
    rintro e w2 ⟨rfl, hr, hf⟩
    have HR2 := Lib.hid hr; have HK2 := Lib.hid (RefR.rd HR1.out HK1.out hf); have HF2 := Lib.hid (fr_ab (gs := gs) HF1.out hf)
    clear hr hf
    go_wp2_with fail
    refine (refU32_any gs s _ HK2.out).mono ?_
    rw [← HZ.out]
    rintro e w3 ⟨rfl, hr, hf⟩
    have HK3 := Lib.hid hr; have HR3 := Lib.hid (Rdr.ref HR2.out HK2.out hf); have HF3 := Lib.hid (fr_b HF2.out hf)
    clear hr hf
    go_wp2_with fail
    go_ret
    exact ⟨rfl, _, HR3.out, HK3.out, HF3.out⟩
  by_cases k4 : kind = 4
  · subst k4
    have t1 : ((4 : Int) == 1) = false := by decide
    have t2 : ((4 : Int) == 2) = false := by decide
    have t3 : ((4 : Int) == 3) = false := by decide
    have t4 : ((4 : Int) == 4) = true := by decide
    go_enter Tryd.func35, Tryd.ntmps35
    go_wp2_with fail
    rw [← HW1.out, ← HGB.out]
    have hb := HR1.out.pos_le
    have HL : Hid ((s.got nn).length ≤ 100000) := Lib.hid (by
      rw [RdS.got]
      split
      · simp; omega
      · simp)
    clear hb
    refine (take_any g s nn _ HR1.out).mono ?_
    rintro e w2 ⟨a2, n2, c2, rfl, ht2, hr, hf⟩
    have HR2 := Lib.hid hr; have HK2 := Lib.hid (RefR.rd HR1.out HK1.out hf); have HF2 := Lib.hid (fr_ab (gs := gs) HF1.out hf)
    obtain ⟨hl2, hn2, hc2, hby2⟩ := ht2.bytes (by have := HL.out; unfold maxLen; omega)
    have HBY2 := Lib.hid hby2; have HT2 := Lib.hid ht2; have HL2 := Lib.hid hl2; have HN2 := Lib.hid hn2; have HC2 := Lib.hid hc2
    have q2 := (HROW.out.fr hf (by simpa using HNE.out)).cell' (j := 2) rfl
    clear hr hf ht2 hl2 hn2 hc2 hby2
    go_wp2_with fail
    refine (refTake_any gs s nn _ HK2.out).mono ?_
    rintro e w3 ⟨a3, n3, c3, rfl, ht3, hr, hf⟩
    have HK3 := Lib.hid hr; have HR3 := Lib.hid (Rdr.ref HR2.out HK2.out hf); have HF3 := Lib.hid (fr_b HF2.out hf)
    obtain ⟨hl3, hn3, hc3, hby3⟩ := ht3.bytes (by have := HL.out; unfold maxLen; omega)
    have HBY3 := Lib.hid hby3; have HL3 := Lib.hid hl3
    have HBY2b : Hid (BytesAt w3 a2 (s.got nn)) := Lib.hid (by
      obtain ⟨dk, hdk⟩ := HK2.out.row
      rcases HT2.out with ⟨gx, rfl, _, _, _, hr2, _⟩ | ⟨_, _, _, hnil, _⟩
      · exact BytesAt.ofRow (hr2.fr hf (by simpa using hr2.ne hdk (by decide)))
      · rw [hnil]; exact .inl rfl)
    clear hr hf ht3 hl3 hn3 hc3 hby3
    go_wp2_with fail
    refine (same_at a2 a3 _ _ n2 n3 c2 c3 _ HL2.out HL3.out HBY2b.out HBY3.out (by rw [HL2.out]; have := HL.out; unfold maxLen; omega) (by rw [HL3.out]; have := HL.out; unfold maxLen; omega) true (decide_eq_true rfl)).mono ?_
    rintro e w4 ⟨rfl, nd, rfl⟩
    go_wp2_with fail
    go_ret
    exact ⟨rfl, _, HR3.out.drewN nd, HK3.out.drewN nd, HF3.out.drewN nd⟩
  by_cases k5 : kind = 5
  · subst k5
    have t1 : ((5 : Int) == 1) = false := by decide
    have t2 : ((5 : Int) == 2) = false := by decide
    have t3 : ((5 : Int) == 3) = false := by decide
    have t4 : ((5 : Int) == 4) = false := by decide
    have t5 : ((5 : Int) == 5) = true := by decide
    go_enter Tryd.func35, Tryd.ntmps35
    go_wp2_with fail
    rw [← HW1.out]
    refine (at_any g s _ HR1.out).mono ?_
    rintro e w2 ⟨rfl, rfl⟩
    go_wp2_with fail
    refine (refAt_any gs s _ HK1.out).mono ?_
    rintro e w3 ⟨rfl, rfl⟩
    go_wp2_with fail
    go_ret
    exact ⟨rfl, _, HR1.out, HK1.out, HF1.out.nil _⟩
  by_cases k6 : kind = 6
  · subst k6
    have t1 : ((6 : Int) == 1) = false := by decide
    have t2 : ((6 : Int) == 2) = false := by decide
    have t3 : ((6 : Int) == 3) = false := by decide
    have t4 : ((6 : Int) == 4) = false := by decide
    have t5 : ((6 : Int) == 5) = false := by decide
    have t6 : ((6 : Int) == 6) = true := by decide
    go_enter Tryd.func35, Tryd.ntmps35
    go_wp2_with fail
    rw [← HW1.out]
    obtain ⟨d, hd⟩ : ∃ d, d = s.l.length - s.pos := ⟨_, rfl⟩
    have HD := Lib.hid hd
    clear hd
    refine (left_any g s _ HR1.out).mono ?_
    rw [← HD.out]
    rintro e w2 ⟨rfl, nd, rfl⟩
    go_wp2_with fail
    refine (refLeft_any gs s _ (HK1.out.drewN nd)).mono ?_
    rw [← HD.out]
    rintro e w3 ⟨rfl, nd3, rfl⟩
    go_wp2_with fail
    go_ret
    exact ⟨rfl, _, HR1.out.drewN (nd + nd3), HK1.out.drewN (nd + nd3), (HF1.out.drewN (nd + nd3)).nil _⟩
  by_cases k7 : kind = 7
  · subst k7
    have t1 : ((7 : Int) == 1) = false := by decide
    have t2 : ((7 : Int) == 2) = false := by decide
    have t3 : ((7 : Int) == 3) = false := by decide
    have t4 : ((7 : Int) == 4) = false := by decide
    have t5 : ((7 : Int) == 5) = false := by decide
    have t6 : ((7 : Int) == 6) = false := by decide
    have t7 : ((7 : Int) == 7) = true := by decide
    go_enter Tryd.func35, Tryd.ntmps35
    go_wp2_with fail
    rw [← HW1.out]
    refine (refErr_any gs s _ HK1.out).mono ?_
    rintro e w2 ⟨rfl, nd, rfl⟩
    go_wp2_with fail
    refine (err_any g s _ (HR1.out.drewN nd)).mono ?_
    rintro e w3 ⟨v, rfl, hv, rfl⟩
    have HV := Lib.hid hv
    have hvi : v = .nilIface ∨ ∃ T x, v = .iface T x := by
      cases hb : s.bad with
      | none => rw [hb] at hv; exact .inl hv
      | some p => rw [hb] at hv; obtain ⟨gv, hv, _⟩ := hv; exact .inr ⟨_, _, hv⟩
    clear hv hvi
    go_wp2_with fail
    refine (told_any v s.bad _ (HE.out.fr (HF1.out.drewN nd) (by simp)) HV.out).mono ?_
    rintro e w4 ⟨rfl, hf⟩
    go_wp2_with fail
    go_ret
    exact ⟨rfl, _, (HR1.out.drewN nd).fr0 hf, (HK1.out.drewN nd).fr0 hf, ((HF1.out.drewN nd).trans0 hf).nil _⟩
  have t1 : (kind == 1) = false := by simpa using k1
  have t2 : (kind == 2) = false := by simpa using k2
  have t3 : (kind == 3) = false := by simpa using k3
  have t4 : (kind == 4) = false := by simpa using k4
  have t5 : (kind == 5) = false := by simpa using k5
  have t6 : (kind == 6) = false := by simpa using k6
  have t7 : (kind == 7) = false := by simpa using k7
  go_enter Tryd.func35, Tryd.ntmps35
  go_wp2_with fail
  rw [← HW1.out]
  go_ret
  exact ⟨rfl, _, HR1.out, HK1.out, HF1.out.nil _⟩

set_option maxRecDepth 100000 in
set_option maxHeartbeats 4000000 in
theorem stands_any (g gs : Nat) (s : RdS) (w : World) (h : Rdr w g s) (k : RefR w gs s) (he : ErrT w) :
    Calls Tryd.prog 36 #[.pointer (some ⟨g, 0, none⟩), .pointer (some ⟨gs, 0, none⟩)] w fun e w' => e = .returned (.bool true) ∧ Fr [] w w' := by
  have HR1 := Lib.hid h; have HK1 := Lib.hid k; have HE := Lib.hid he
  obtain ⟨d, hd⟩ : ∃ d, d = s.l.length - s.pos := ⟨_, rfl⟩
  have HD := Lib.hid hd
  clear h k he hd
  go_enter Tryd.func36, Tryd.ntmps36
  go_wp2_with fail
  refine (refErr_any gs s _ HK1.out).mono ?_
  rintro e w2 ⟨rfl, nd, rfl⟩
  have HR2 := Lib.hid (HR1.out.drewN nd); have HK2 := Lib.hid (HK1.out.drewN nd); have HF2 := Lib.hid ((Fr.refl [] w).drewN nd)
  go_wp2_with fail
  refine (at_any g s _ HR2.out).mono ?_
  rintro e w3 ⟨rfl, rfl⟩
  go_wp2_with fail
  refine (refAt_any gs s _ HK2.out).mono ?_
  rintro e w4 ⟨rfl, rfl⟩
  go_wp2_with fail
  refine (left_any g s _ HR2.out).mono ?_
  rw [← HD.out]
  rintro e w5 ⟨rfl, nd5, rfl⟩
  have HK5 := Lib.hid (HK1.out.drewN (nd + nd5))
  go_wp2_with fail
  refine (refLeft_any gs s _ HK5.out).mono ?_
  rw [← HD.out]
  rintro e w6 ⟨rfl, nd6, rfl⟩
  have HR6 := Lib.hid (HR1.out.drewN (nd + nd5 + nd6)); have HF6 := Lib.hid ((Fr.refl [] w).drewN (nd + nd5 + nd6))
  go_wp2_with fail
  refine (err_any g s _ HR6.out).mono ?_
  rintro e w7 ⟨v, rfl, hv, rfl⟩
  have HV := Lib.hid hv
  clear hv
  go_wp2_with fail
  refine (told_any v s.bad _ (HE.out.fr HF6.out (by simp)) HV.out).mono ?_
  rintro e w8 ⟨rfl, hf⟩
  go_wp2_with fail
  go_ret
  exact ⟨rfl, HF6.out.trans0 hf⟩
end Go.Proofs.YtoooflagkhpnkaaDoor
