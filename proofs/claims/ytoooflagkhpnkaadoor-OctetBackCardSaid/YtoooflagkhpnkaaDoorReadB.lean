/- Contracts: octet's NewReader, Take, number, U8, U16, U32, At, Left, Err. -/
import Derived.Test.YtoooflagkhpnkaaDoorReader
import Derived.Laws.Tables
namespace Go.Proofs.YtoooflagkhpnkaaDoor
open Go Go.RowKit
set_option linter.unusedVariables false

theorem built_rd (a : Option Addr) (n c : Nat) (w : World) : (Instr.build 73 #[(0, .slice a n c)]).run Tryd.prog w = .ok (.agg #[.slice a n c, .int .i64 0, .nilIface]) w := run_build w _ _ _ (by kernel_rfl)
set_option maxRecDepth 100000 in
set_option maxHeartbeats 1000000 in
theorem newReader_any (a : Option Addr) (l : List UInt8) (n c : Nat) (w : World) (hn : n = l.length) (h : BytesAt w a l) (hm : n ≤ 100000) :
    Calls Tryd.prog 27 #[.slice a n c] w fun e w' => ∃ g, e = .returned (.pointer (some ⟨g, 0, none⟩)) ∧ w.heap.size ≤ g ∧ Rdr w' g ⟨l, 0, none⟩ ∧ Fr [] w w' := by
  have HN := Lib.hid hn
  clear hn
  go_enter Tryd.func27, Tryd.ntmps27
  go_wp2_with fail
  refine (with_at a l n c none [] 0 0 _ HN.out rfl h (BytesAt.nil _ _) (by have := HN.out; simp; omega)).mono ?_
  rintro e w1 hr
  rw [List.append_nil] at hr
  obtain ⟨g, rfl, hg, hr, hf⟩ := hr.open n HN.out
  have hbd := built_rd (some ⟨g, 0, none⟩) n n w1
  go_wp2_with fail
  go_ret
  refine ⟨_, rfl, hf.size, ⟨g, n, _, HN.out, Nat.zero_le _, hm, Row.new w1 _ _, hr.alloc _, rfl⟩, hf.alloc _⟩

theorem nil_some (A : Addr) (m c : Nat) (w : World) : (binOp .eql 22 (.slice (some A) m c) (.slice none 0 0)).run Tryd.prog w = .ok (.bool false) w := by kernel_rfl
theorem nil_none (w : World) : (binOp .eql 22 (.slice none 0 0) (.slice none 0 0)).run Tryd.prog w = .ok (.bool true) w := by kernel_rfl
theorem at_any (g : Nat) (s : RdS) (w : World) (h : Rdr w g s) :
    Calls Tryd.prog 42 #[.pointer (some ⟨g, 0, none⟩)] w fun e w' => e = .returned (.int .i64 s.pos) ∧ w = w' := by
  obtain ⟨gb, n, ev, hn, hp, hn1, hrow, hbs, hev⟩ := h
  have c1 := hrow.cell' (j := 1) rfl
  clear hrow hbs hev hn hp
  go_enter Tryd.func42, Tryd.ntmps42
  go_wp2_with fail
  go_ret
  exact ⟨rfl, rfl⟩
theorem err_any (g : Nat) (s : RdS) (w : World) (h : Rdr w g s) :
    Calls Tryd.prog 38 #[.pointer (some ⟨g, 0, none⟩)] w fun e w' => ∃ v, e = .returned v ∧ EvIs w v s.bad ∧ w = w' := by
  obtain ⟨gb, n, ev, hn, hp, hn1, hrow, hbs, hev⟩ := h
  have c2 := hrow.cell' (j := 2) rfl
  have HE := Lib.hid hev
  clear hrow hbs hev hn hp
  go_enter Tryd.func38, Tryd.ntmps38
  go_wp2_with fail
  go_ret
  exact ⟨ev, rfl, HE.out, rfl⟩
theorem left_any (g : Nat) (s : RdS) (w : World) (h : Rdr w g s) :
    Calls Tryd.prog 37 #[.pointer (some ⟨g, 0, none⟩)] w fun e w' => e = .returned (.int .i64 ((s.l.length - s.pos : Nat) : Int)) ∧ ∃ n, w' = w.drewN n := by
  obtain ⟨l, p, bad⟩ := s
  obtain ⟨gb, n, ev, hn, hp, hn1, hrow, hbs, hev⟩ := h
  simp only at hn hp hrow hbs hev ⊢
  rw [← hn]
  have c0 := hrow.cell' (j := 0) rfl
  have c1 := hrow.cell' (j := 1) rfl
  obtain ⟨d, hd⟩ : ∃ d, d = n - p := ⟨_, rfl⟩
  have hdi : (n : Int) - (p : Int) = (d : Int) := by omega
  have q1 : IntKind.i64.wrap (d : Int) = (d : Int) := IntWalk.i64_in _ (by omega)
  rw [← hd]
  clear hrow hbs hev hn hp hd
  go_enter Tryd.func37, Tryd.ntmps37
  go_wp2_with fail
  go_quiet (fail)
  go_wp2_with fail
  go_ret
  exact ⟨rfl, _, rfl⟩

/-- what Take hands back: new memory, or nil -/
def Taken (w w' : World) (m : List UInt8) (ok : Prop) (a : Option Addr) (n c : Nat) : Prop :=
  (∃ gx, a = some ⟨gx, 0, none⟩ ∧ n = m.length ∧ c = n ∧ w.heap.size ≤ gx ∧ Row w' gx (bs m) 5 ∧ ok) ∨ (a = none ∧ n = 0 ∧ c = 0 ∧ m = [] ∧ ¬ ok)
set_option maxRecDepth 100000 in
theorem take_any (g : Nat) (s : RdS) (x : Int) (w : World) (h : Rdr w g s) :
    Calls Tryd.prog 28 #[.pointer (some ⟨g, 0, none⟩), .int .i64 x] w fun e w' => ∃ a n c, e = .returned (.slice a n c) ∧ Taken w w' (s.got x) (s.can x) a n c ∧ Rdr w' g (s.after x) ∧ Fr [g] w w' := by
  have HR := Lib.hid h
  have hb := h.pos_le
  have HL : Hid ((s.got x).length ≤ 100000) := Lib.hid (by
    rw [RdS.got]
    split
    · simp; omega
    · simp)
  clear h hb
  go_enter Tryd.func28, Tryd.ntmps28
  go_wp2_with fail
  refine (next_any g s x _ HR.out).mono ?_
  rintro e w1 ⟨a, m, c, rfl, hm, hc, hl, hby, hca, hr, hf⟩
  have HF := Lib.hid hf; have HRR := Lib.hid hr; have HB := Lib.hid hby; have HL2 := Lib.hid hl
  clear hf hr hby hl
  rcases hca with ⟨A, rfl, hcan⟩ | ⟨rfl, rfl, hcan⟩
  · have HC := Lib.hid hcan
    clear hcan
    have hnil := nil_some A m c w1
    go_wp2_with fail
    refine (with_at (some A) (s.got x) m c none [] 0 0 _ HL2.out rfl HB.out (BytesAt.nil _ _) (by have := HL.out; simp; omega)).mono ?_
    rintro e w2 hr
    rw [List.append_nil] at hr
    obtain ⟨gx, rfl, hg, hr, hf⟩ := hr.open m HL2.out
    go_wp2_with fail
    go_ret
    exact ⟨_, _, _, rfl, .inl ⟨gx, rfl, HL2.out, rfl, Nat.le_trans HF.out.size hg, hr, HC.out⟩, HRR.out.fr0 hf, HF.out.trans0 hf⟩
  · have hm0 : m = 0 := by omega
    subst hm0
    have HC := Lib.hid hcan
    clear hcan
    have hnil := nil_none w1
    go_wp2_with fail
    go_ret
    refine ⟨none, 0, 0, rfl, .inr ⟨rfl, rfl, rfl, ?_, HC.out⟩, HRR.out, HF.out⟩
    exact List.eq_nil_of_length_eq_zero HL2.out.symm

def num (l : List UInt8) : Nat := l.foldl (fun v c => v * 256 + c.toNat) 0
theorem num_take (l : List UInt8) (k : Nat) (h : k < l.length) : num (l.take (k + 1)) = num (l.take k) * 256 + l[k].toNat := by
  rw [num, num, List.take_succ_eq_append_getElem h, List.foldl_append]
  rfl
theorem num_lt (l : List UInt8) : num l < 256 ^ l.length := by
  suffices ∀ (l : List UInt8) (v k : Nat), v < 256 ^ k → l.foldl (fun v c => v * 256 + c.toNat) v < 256 ^ (k + l.length) from by
    have h0 := this l 0 0 (by simp)
    rw [Nat.zero_add] at h0
    exact h0
  intro l
  induction l with
  | nil => intro v k h; simpa using h
  | cons c l ih =>
    intro v k h
    rw [List.foldl_cons, List.length_cons, show k + (l.length + 1) = (k + 1) + l.length by omega]
    refine ih _ _ ?_
    have := c.toNat_lt
    rw [Nat.pow_succ]
    omega

theorem or8 (y : Nat) (c : UInt8) (h : y < 16777216) : bits .or .u32 ((y : Int) * 256 % 4294967296) ((c.toNat : Int) % 4294967296) = ((y * 256 + c.toNat : Nat) : Int) := by
  have hc := c.toNat_lt
  have e1 : (y : Int) * 256 % 4294967296 = ((y * 256 : Nat) : Int) := by omega
  have e2 : (c.toNat : Int) % 4294967296 = ((c.toNat : Nat) : Int) := by omega
  rw [e1, e2, u32_or_nat _ _ (by omega) (by omega)]
  have := Nat.two_pow_add_eq_or_of_lt (i := 8) (b := c.toNat) (by omega) y
  rw [show y * 256 = 2 ^ 8 * y by omega, ← this]
theorem pow256 (k : Nat) (h : k ≤ 3) : 256 ^ k ≤ 16777216 := by
  have := Nat.pow_le_pow_right (n := 256) (by omega) h
  simpa using this

set_option maxRecDepth 100000 in
set_option maxHeartbeats 1000000 in
theorem number_any (g : Nat) (s : RdS) (x : Nat) (w : World) (h : Rdr w g s) (hx : x ≤ 4) :
    Calls Tryd.prog 63 #[.pointer (some ⟨g, 0, none⟩), .int .i64 x] w fun e w' => e = .returned (.int .u32 (num (s.got x))) ∧ Rdr w' g (s.after x) ∧ Fr [g] w w' := by
  have HR := Lib.hid h
  obtain ⟨L, hL⟩ : ∃ L, L = s.got x := ⟨_, rfl⟩
  have hl4 : L.length ≤ 4 := by
    rw [hL, RdS.got]
    split
    · simp; omega
    · simp
  have H4 := Lib.hid hl4
  clear h hl4
  go_enter Tryd.func63, Tryd.ntmps63
  go_wp2_with fail
  refine (next_any g s x _ HR.out).mono ?_
  rw [← hL]
  have HL := Lib.hid hL
  clear hL
  rintro e w1 ⟨a, m, c, rfl, hm, hc, hl, hby, _, hr, hf⟩
  have HF := Lib.hid hf; have HRR := Lib.hid hr; have HB := Lib.hid hby; have HL2 := Lib.hid hl
  clear hf hr hby hl
  go_wp2_with fail
  go_loop [5, 12] (fun v i => ∃ k y : Nat, i = .int .i64 k ∧ k ≤ m ∧ v = .int .u32 y ∧ Hid (y = num (L.take k)) ∧ Hid (y < 256 ^ k)) (fun _ i => m - (intOf i).toNat)
  case atStart => exact ⟨0, 0, rfl, Nat.zero_le _, rfl, Lib.hid rfl, Lib.hid (by omega)⟩
  case round =>
    obtain ⟨k, y, rfl, hk, rfl, HY, HY2⟩ := hrel
    by_cases hlt : k < m
    · obtain ⟨b, off, rfl, hcs⟩ := HB.out.get k (by have := HL2.out; omega)
      obtain ⟨cb, hcb⟩ : ∃ cb, cb = L[k]'(by have := HL2.out; omega) := ⟨_, rfl⟩
      rw [← hcb] at hcs
      have HCB := Lib.hid hcb
      clear hcb
      have hy3 : y < 16777216 := by
        have := pow256 k (by have := HL2.out; have := H4.out; omega)
        have := HY2.out
        omega
      have e1 := or8 y cb hy3
      obtain ⟨z, hz⟩ : ∃ z, z = y * 256 + cb.toNat := ⟨_, rfl⟩
      rw [← hz] at e1
      have hznum : z = num (L.take (k + 1)) := by rw [num_take L k (by have := HL2.out; omega), ← HCB.out, ← HY.out, hz]
      have hzlt : z < 256 ^ (k + 1) := by
        have := num_lt (L.take (k + 1))
        rw [← hznum, List.length_take, Nat.min_eq_left (by have := HL2.out; omega)] at this
        exact this
      have HZ := Lib.hid hznum; have HZ2 := Lib.hid hzlt
      have hm4 : m ≤ 4 := by have := HL2.out; have := H4.out; omega
      clear hz hznum hzlt hy3
      go_wp2_with fail
      go_round
      case rel => exact ⟨k + 1, z, by go_num, by omega, rfl, HZ, HZ2⟩
      case measure => simp [intOf]; omega
    · have hkm : k = m := by omega
      have HK := Lib.hid hkm
      clear hkm
      go_wp2_with fail
      go_ret
      have hz : y = num (s.got x) := by rw [HY.out, HK.out, HL2.out, List.take_length, HL.out]
      exact ⟨ret_int (by rw [hz]), HRR.out, HF.out⟩
theorem got_le (s : RdS) (x : Nat) : (s.got x).length ≤ x := by
  rw [RdS.got]
  split
  · simp; omega
  · simp
theorem num_le (s : RdS) (x k : Nat) (hx : x ≤ k) : num (s.got x) < 256 ^ k := Nat.lt_of_lt_of_le (num_lt _) (Nat.pow_le_pow_right (by omega) (Nat.le_trans (got_le s x) hx))
theorem u8_any (g : Nat) (s : RdS) (w : World) (h : Rdr w g s) :
    Calls Tryd.prog 39 #[.pointer (some ⟨g, 0, none⟩)] w fun e w' => e = .returned (.int .i64 (num (s.got 1))) ∧ Rdr w' g (s.after 1) ∧ Fr [g] w w' := by
  have HR := Lib.hid h
  obtain ⟨z, hz⟩ : ∃ z, z = num (s.got 1) := ⟨_, rfl⟩
  rw [← hz]
  have hy : z < 256 ^ 4 := by rw [hz]; exact num_le s 1 4 (by omega)
  have HZ := Lib.hid hz
  clear h hz
  go_enter Tryd.func39, Tryd.ntmps39
  go_wp2_with fail
  refine (number_any g s 1 _ HR.out (by omega)).mono ?_
  rw [show ((1 : Nat) : Int) = 1 from rfl, ← HZ.out]
  rintro e w1 ⟨rfl, hr, hf⟩
  have HF := Lib.hid hf; have HRR := Lib.hid hr
  clear hf hr
  go_wp2_with fail
  go_ret
  exact ⟨rfl, HRR.out, HF.out⟩
theorem u16_any (g : Nat) (s : RdS) (w : World) (h : Rdr w g s) :
    Calls Tryd.prog 40 #[.pointer (some ⟨g, 0, none⟩)] w fun e w' => e = .returned (.int .i64 (num (s.got 2))) ∧ Rdr w' g (s.after 2) ∧ Fr [g] w w' := by
  have HR := Lib.hid h
  obtain ⟨z, hz⟩ : ∃ z, z = num (s.got 2) := ⟨_, rfl⟩
  rw [← hz]
  have hy : z < 256 ^ 4 := by rw [hz]; exact num_le s 2 4 (by omega)
  have HZ := Lib.hid hz
  clear h hz
  go_enter Tryd.func40, Tryd.ntmps40
  go_wp2_with fail
  refine (number_any g s 2 _ HR.out (by omega)).mono ?_
  rw [show ((2 : Nat) : Int) = 2 from rfl, ← HZ.out]
  rintro e w1 ⟨rfl, hr, hf⟩
  have HF := Lib.hid hf; have HRR := Lib.hid hr
  clear hf hr
  go_wp2_with fail
  go_ret
  exact ⟨rfl, HRR.out, HF.out⟩
theorem u32_any (g : Nat) (s : RdS) (w : World) (h : Rdr w g s) :
    Calls Tryd.prog 41 #[.pointer (some ⟨g, 0, none⟩)] w fun e w' => e = .returned (.int .u32 (num (s.got 4))) ∧ Rdr w' g (s.after 4) ∧ Fr [g] w w' := by
  have HR := Lib.hid h
  obtain ⟨z, hz⟩ : ∃ z, z = num (s.got 4) := ⟨_, rfl⟩
  rw [← hz]
  have HZ := Lib.hid hz
  clear h hz
  go_enter Tryd.func41, Tryd.ntmps41
  go_wp2_with fail
  refine (number_any g s 4 _ HR.out (by omega)).mono ?_
  rw [show ((4 : Nat) : Int) = 4 from rfl, ← HZ.out]
  rintro e w1 ⟨rfl, hr, hf⟩
  have HF := Lib.hid hf; have HRR := Lib.hid hr
  clear hf hr
  go_wp2_with fail
  go_ret
  exact ⟨rfl, HRR.out, HF.out⟩
end Go.Proofs.YtoooflagkhpnkaaDoor
