/- The walk of jotterlaw01.change. -/
import Derived.Test.YtoooflagkhpnkaaDoorChange
namespace Go.Proofs.YtoooflagkhpnkaaDoor
open Go Go.RowKit
set_option linter.unusedVariables false

theorem bs_set (l : List UInt8) (i : Nat) (b : UInt8) : bs (l.set i b) = (bs l).set i (.int .u8 (b.toNat : Int)) := by simp [bs, List.map_set]
set_option maxRecDepth 100000 in
set_option maxHeartbeats 4000000 in
theorem change_any (a : Option Addr) (l : List UInt8) (n c : Nat) (at_ : Int) (m : Nat) (w : World) (hn : n = l.length) (h : BytesAt w a l) (hm : n ≤ 1000) (ha1 : -4 ≤ at_) (ha2 : at_ ≤ n) (hm2 : m < 4294967296) :
    Calls Tryd.prog 33 #[.slice a n c, .int .i64 at_, .int .u32 m] w fun e w' => ∃ g, e = .returned (.tuple #[.slice (some ⟨g, 0, none⟩) n n, .bool (chgF l at_ m 4)]) ∧ w.heap.size ≤ g ∧ Row w' g (bs (chgL l at_ m 4)) 5 ∧ Fr [] w w' := by
  have H1 := Lib.hid hn
  clear hn
  go_enter Tryd.func33, Tryd.ntmps33
  go_wp2_with (refine wpList_make' rfl (.tmp 14) (.tmp 14) _ 5 rfl Tryd.underlying22 (.int .u8 0) 1 infoU8 rfl n rfl rfl (by omega) (by unfold maxLen; omega) ?_; intro w2 g hr hg hf)
  go_loopw [9] (fun i wr => ∃ k : Nat, i = .int .i64 k ∧ k ≤ n ∧ Row wr g (bs (l.take k) ++ List.replicate (n - k) (.int .u8 0)) 5 ∧ Fr [] w wr) (fun i _ => n - (intOf i).toNat)
  case atStart => exact ⟨0, rfl, Nat.zero_le _, by simpa [bs] using hr, hf⟩
  case round =>
    clear hr hf
    obtain ⟨k, rfl, hk, hrow, hfr⟩ := hrel
    by_cases hlt : k < n
    · obtain ⟨b, off, rfl, hcs⟩ := (h.fr0 hfr).get k (by have := H1.out; omega)
      have hcd := hrow.cell' (j := k) (v := .int .u8 0) (fill_get l k n H1.out hlt)
      have hz := hrow.free k
      have HR := Lib.hid (hrow.set k (.int .u8 ((l[k]'(by have := H1.out; omega)).toNat : Int)))
      have HF := Lib.hid (hfr.setCell (a := ⟨g, k, none⟩) (.int .u8 ((l[k]'(by have := H1.out; omega)).toNat : Int)) (fun hx => absurd hx (by simp; omega)))
      clear hrow hfr
      go_wp2
      go_roundw
      case rel => exact ⟨k + 1, by go_num, by omega, by rw [← fill_step l k n H1.out (by have := H1.out; omega)]; exact HR.out, HF.out⟩
      case measure => simp [intOf]; omega
    · have hkn : k = n := by omega
      rw [hkn, Nat.sub_self, List.replicate_zero, List.append_nil, H1.out, List.take_length] at hrow
      clear hkn
      go_wp2
      go_loopw [2, 10, 11] (fun ms ch kk wr => ∃ (k mm : Nat) (fl : Bool), ms = .int .u32 mm ∧ ch = .bool fl ∧ kk = .int .i64 k ∧ k ≤ 4 ∧ Hid (mm = m / 256 ^ k) ∧ mm < 4294967296 ∧ Hid (fl = chgF l at_ m k) ∧ Row wr g (bs (chgL l at_ m k)) 5 ∧ Fr [] w wr) (fun _ _ kk _ => 4 - (intOf kk).toNat)
      case atStart => exact ⟨0, m, false, rfl, rfl, rfl, by omega, Lib.hid (by simp), hm2, Lib.hid rfl, hrow, hfr⟩
      case round =>
        clear hrow hfr
        obtain ⟨k, mm, fl, rfl, rfl, rfl, hk, HM, hmm, HFl, hrow, hfr⟩ := hrel
        by_cases hk4 : k < 4
        · obtain ⟨y, hy⟩ : ∃ y, y = mby m k := ⟨_, rfl⟩
          have hyi : (mm : Int) % 256 % 256 = (y.toNat : Int) := by rw [hy, mby, b8_int, ← HM.out]; omega
          have hyj : (mm : Int) % 256 = (y.toNat : Int) := by rw [hy, mby, b8_int, ← HM.out]
          have hnext : mm / 256 = m / 256 ^ (k + 1) := by rw [HM.out, Nat.div_div_eq_div_mul, Nat.pow_succ]
          have hdi : ((mm : Int) / 256) = ((mm / 256 : Nat) : Int) := by omega
          have HN := Lib.hid hnext
          have hmm2 : mm / 256 < 4294967296 := by omega
          generalize hq : mm / 256 = mq at *
          clear hq
          have HY := Lib.hid hy
          clear hy hnext
          by_cases hp : 0 ≤ at_ + k ∧ at_ + k < n ∧ y ≠ 0
          · obtain ⟨p, hpe⟩ : ∃ p : Nat, at_ + (k : Int) = (p : Int) := ⟨(at_ + k).toNat, by omega⟩
            have hpn : p < n := by omega
            obtain ⟨C, hC⟩ : ∃ C, C = chgL l at_ m k := ⟨_, rfl⟩
            have hCl : C.length = n := by rw [hC, chgL_length]; exact H1.out.symm
            rw [← hC] at hrow
            obtain ⟨x, hx⟩ : ∃ x, x = C[p]'(by omega) := ⟨_, rfl⟩
            have hcd := hrow.cell' (j := p) (v := .int .u8 (x.toNat : Int)) (by rw [hx]; exact bs_get C p (by omega))
            have hz := hrow.free p
            have e1 := xor8 x y
            obtain ⟨v, hv⟩ : ∃ v, v = x ^^^ y := ⟨_, rfl⟩
            rw [← hv] at e1
            have hstep : chgL l at_ m (k + 1) = C.set p v := by
              rw [chgL, if_pos ⟨hp.1, by have := H1.out; omega, by rw [← HY.out]; exact hp.2.2⟩, ← hC, ← HY.out, hpe]
              have : C.getD p 0 = x := by rw [hx]; simp [List.getD, List.getElem?_eq_getElem (by omega : p < C.length)]
              rw [show ((p : Int)).toNat = p by omega, this, hv]
            have hfl : chgF l at_ m (k + 1) = true := by rw [chgF, if_pos ⟨hp.1, by have := H1.out; omega, by rw [← HY.out]; exact hp.2.2⟩]
            have HS := Lib.hid hstep; have HFL2 := Lib.hid hfl
            have HR := Lib.hid (hrow.set p (.int .u8 (v.toNat : Int)))
            have HF := Lib.hid (hfr.setCell (a := ⟨g, p, none⟩) (.int .u8 (v.toNat : Int)) (fun hx => absurd hx (by simp; omega)))
            have hy0 : ((y.toNat : Int) != 0) = true := by
              rw [bne_iff_ne]
              intro hh
              have : y.toNat = 0 := by omega
              exact hp.2.2 (UInt8.toNat_inj.1 this)
            have t1 : (0 : Int) ≤ (p : Int) := by omega
            have t2 : (p : Int) < (n : Int) := by omega
            have HC := Lib.hid hC
            clear hp hC hCl hx hv hstep hfl hrow hfr
            go_wp2
            go_roundw
            case rel => exact ⟨k + 1, mq, true, by go_num, rfl, by go_num, by omega, HN, hmm2, Lib.hid HFL2.out.symm, by rw [HS.out, bs_set]; exact HR.out, HF.out⟩
            case measure => simp [intOf]; omega
          · have hstep : chgL l at_ m (k + 1) = chgL l at_ m k := by rw [chgL, if_neg (by rw [← HY.out, ← H1.out]; exact hp)]
            have hfl : chgF l at_ m (k + 1) = chgF l at_ m k := by rw [chgF, if_neg (by rw [← HY.out, ← H1.out]; exact hp)]
            have HS := Lib.hid hstep; have HFL2 := Lib.hid (HFl.out.trans hfl.symm)
            have HR := Lib.hid hrow
            have HF := Lib.hid hfr
            clear hstep hfl hrow hfr
            by_cases c1 : 0 ≤ at_ + (k : Int)
            · by_cases c2 : at_ + (k : Int) < (n : Int)
              · have hy0 : ((y.toNat : Int) != 0) = false := by
                  have : y = 0 := Decidable.byContradiction fun hh => hp ⟨c1, c2, hh⟩
                  rw [this]; rfl
                clear hp
                go_wp2
                go_roundw
                case rel => exact ⟨k + 1, mq, fl, by go_num, rfl, by go_num, by omega, HN, hmm2, HFL2, by rw [HS.out]; exact HR.out, HF.out⟩
                case measure => simp [intOf]; omega
              · clear hp
                go_wp2
                go_roundw
                case rel => exact ⟨k + 1, mq, fl, by go_num, rfl, by go_num, by omega, HN, hmm2, HFL2, by rw [HS.out]; exact HR.out, HF.out⟩
                case measure => simp [intOf]; omega
            · clear hp
              go_wp2
              go_roundw
              case rel => exact ⟨k + 1, mq, fl, by go_num, rfl, by go_num, by omega, HN, hmm2, HFL2, by rw [HS.out]; exact HR.out, HF.out⟩
              case measure => simp [intOf]; omega
        · have hk4' : k = 4 := by omega
          rw [hk4'] at hrow
          have HFl2 : Hid (fl = chgF l at_ m 4) := by rw [← hk4']; exact HFl
          clear hk4'
          have HR := Lib.hid hrow
          have HF := Lib.hid hfr
          clear hrow hfr
          go_wp2
          go_ret2
          exact ⟨g, by rw [← HFl2.out]; rfl, hg, HR.out, HF.out⟩
end Go.Proofs.YtoooflagkhpnkaaDoor
