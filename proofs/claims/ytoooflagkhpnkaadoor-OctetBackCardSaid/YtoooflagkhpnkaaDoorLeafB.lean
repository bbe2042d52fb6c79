/- Contracts: octet.Sum. -/
import Derived.Test.YtoooflagkhpnkaaDoorLeafA
import Derived.Test.YtoooflagkhpnkaaDoorCrc
namespace Go.Proofs.YtoooflagkhpnkaaDoor
open Go Go.RowKit

/-- octet.table lies in the memory w -/
def Tbl (w : World) : Prop := ∀ i, i < 16 → w.cell? ⟨0, i, none⟩ = some (.int .u32 (tbl i : Int))
theorem Tbl.fr {S : List Nat} {w w' : World} (h : Tbl w) (f : Fr S w w') (hS : 0 ∉ S) : Tbl w' := fun i hi => f.cell (h i hi) hS

theorem Tbl.drewN {w : World} (h : Tbl w) (n : Nat) : Tbl (w.drewN n) := h

set_option maxHeartbeats 400000 in
theorem sum_any (a : Option Addr) (l : List UInt8) (c : Nat) (w : World) (h : BytesAt w a l) (hm : l.length ≤ maxLen) (ht : Tbl w) :
    Calls Tryd.prog 15 #[.slice a l.length c] w fun e w' => e = .returned (.int .u32 (crc l : Int)) ∧ w = w' := by
  unfold maxLen at hm
  obtain ⟨n, hn⟩ : ∃ n, n = l.length := ⟨_, rfl⟩
  have hmn : n ≤ 9223372036854775807 := by omega
  rw [← hn]
  have H1 := Lib.hid hn
  clear hn hm
  go_enter Tryd.func15, Tryd.ntmps15
  go_wp2
  go_loop [3, 8] (fun r i => ∃ k rr : Nat, i = .int .i64 k ∧ k ≤ n ∧ r = .int .u32 rr ∧ rr < 4294967296 ∧ Hid (rr = run 4294967295 (l.take k))) (fun _ i => n - (intOf i).toNat)
  case atStart => exact ⟨0, 4294967295, rfl, Nat.zero_le _, rfl, by omega, Lib.hid (by simp [run])⟩
  case round =>
    obtain ⟨k, rr, rfl, hk, rfl, hr, HR⟩ := hrel
    by_cases hlt : k < n
    · obtain ⟨b, off, rfl, hc⟩ := h.get k (by have := H1.out; omega)
      obtain ⟨x, hx, hx1, e1⟩ := xor_walk rr (l[k]'(by have := H1.out; omega)) hr
      obtain ⟨y, z, hy, e2, e3, hz, HZ⟩ := nib_walk x hx1
      obtain ⟨y', z', hy', e2', e3', hz', HZ'⟩ := nib_walk z hz
      have t1 := ht y hy
      have t2 := ht y' hy'
      go_wp2
      go_round
      case rel => exact ⟨k + 1, z', by go_num, by omega, rfl, hz', Lib.hid (by rw [run_take _ _ _ (by have := H1.out; omega), ← HR.out, HZ'.out, HZ.out, hx.out]; rfl)⟩
      case measure => simp [intOf]; omega
    · have hkl : k = n := by omega
      have HK := Lib.hid hkl
      clear hkl
      have e := not_walk rr hr
      go_wp2
      go_ret
      have hmax : IntKind.u32.max = 4294967295 := by decide
      exact ⟨ret_int (by rw [HR.out, HK.out, H1.out, List.take_length, hmax]; exact not_walk _ (run_lt _ _ (by omega))), rfl⟩
end Go.Proofs.YtoooflagkhpnkaaDoor
