/- Contracts: jotterref01.bits, jotterref01.Sum. -/
import Derived.Test.YtoooflagkhpnkaaDoorLeafE
namespace Go.Proofs.YtoooflagkhpnkaaDoor
open Go Go.RowKit
set_option linter.unusedVariables false

def bv (b : Bool) : Value := .int .u8 (if b then 1 else 0)
def bitRow (M : List Bool) : List Value := M.map bv
theorem bitRow_length (M : List Bool) : (bitRow M).length = M.length := by simp [bitRow]
theorem bitRow_get (M : List Bool) (i : Nat) (h : i < M.length) : (bitRow M)[i]? = some (bv M[i]) := by simp [bitRow, h]
theorem bitRow_set (M : List Bool) (i : Nat) (b : Bool) : (bitRow M).set i (bv b) = bitRow (M.set i b) := by simp [bitRow, List.map_set]

/-- the first i bytes' bits, k of the next one's, laid into M -/
def laidBits (l : List UInt8) (n : Nat) : Nat → List Bool
  | 0 => List.replicate (8 * n + 32) false
  | p + 1 => if (l.getD (p / 8) 0).toNat.testBit (p % 8) then (laidBits l n p).set p true else laidBits l n p
theorem laidBits_length (l : List UInt8) (n p : Nat) : (laidBits l n p).length = 8 * n + 32 := by
  induction p with
  | zero => simp [laidBits]
  | succ p ih => rw [laidBits]; split <;> simp [ih]
def turned (M : List Bool) : Nat → List Bool
  | 0 => M
  | k + 1 => (turned M k).set k (!(turned M k).getD k false)
theorem turned_length (M : List Bool) (k : Nat) : (turned M k).length = M.length := by
  induction k with
  | zero => rfl
  | succ k ih => rw [turned]; simp [ih]

theorem and_bit (x : UInt8) (k : Nat) (hk : k < 8) (m : Int) (hm : m = ((2 ^ k : Nat) : Int)) (tb : Bool) (ht : x.toNat.testBit k = tb) : (bits .and .u8 (x.toNat : Int) m != 0) = tb := by
  have hk2 : 2 ^ k < 256 := by
    have : ∀ k : Fin 8, 2 ^ k.val < 256 := by decide
    exact this ⟨k, hk⟩
  rw [hm, u8_and_nat _ _ (u8lt x) hk2, ← ht]
  have hd : ∀ x : Fin 256, ∀ k : Fin 8, (((x.val &&& 2 ^ k.val : Nat) : Int) != 0) = x.val.testBit k.val := by decide +kernel
  exact hd ⟨x.toNat, u8lt x⟩ ⟨k, hk⟩
theorem getD_get {l : List UInt8} {i : Nat} (h : i < l.length) : l.getD i 0 = l[i] := by simp [List.getD, List.getElem?_eq_getElem h]
theorem bitRow_at {w : World} {g : Nat} {M : List Bool} {T : TypeId} (h : Row w g (bitRow M) T) (i : Nat) (hi : i < M.length) : w.cell? ⟨g, i, none⟩ = some (bv (M.getD i false)) := by
  rw [h.cell i, bitRow_get M i hi]
  simp [List.getD, List.getElem?_eq_getElem hi]

set_option maxRecDepth 100000 in
set_option maxHeartbeats 1000000 in
theorem bits_any (a : Option Addr) (l : List UInt8) (n c : Nat) (w : World) (hn : n = l.length) (h : BytesAt w a l) (hm : n ≤ 1000) :
    Calls Tryd.prog 46 #[.slice a n c] w fun e w' => ∃ g, e = .returned (.slice (some ⟨g, 0, none⟩) (8 * n + 32) (8 * n + 32)) ∧ w.heap.size ≤ g ∧ Row w' g (bitRow (turned (laidBits l n (8 * n)) 32)) 5 ∧ Fr [] w w' := by
  have HN := Lib.hid hn; clear hn
  go_enter Tryd.func46, Tryd.ntmps46
  go_wp2_with (refine wpList_make' rfl (.tmp 10) (.tmp 10) _ 5 rfl Tryd.underlying22 (.int .u8 0) 1 infoU8 rfl (8 * n + 32) rfl rfl (by omega) (by unfold maxLen; omega) ?_; intro w2 g hr hg hf)
  go_loopw [4] (fun i wr => ∃ k : Nat, i = .int .i64 k ∧ k ≤ n ∧ Row wr g (bitRow (laidBits l n (8 * k))) 5 ∧ Fr [] w wr) (fun i _ => n - (intOf i).toNat)
  case atStart => exact ⟨0, rfl, Nat.zero_le _, by simpa [bitRow, laidBits, bv] using hr, hf⟩
  case round =>
    clear hr hf
    obtain ⟨i, rfl, hi, hrow, hfr⟩ := hrel
    by_cases hlt : i < n
    · obtain ⟨wo, hwo⟩ : ∃ wo : World, wo = wr := ⟨_, rfl⟩
      go_wp2
      go_loopw [5] (fun j wr => ∃ k : Nat, j = .int .i64 k ∧ k ≤ 8 ∧ Row wr g (bitRow (laidBits l n (8 * i + k))) 5 ∧ Fr [] w wr) (fun j _ => 8 - (intOf j).toNat)
      case atStart => exact ⟨0, rfl, Nat.zero_le _, hrow, hfr⟩
      case round =>
        clear hrow hfr
        obtain ⟨k, rfl, hk, hrow, hfr⟩ := hrel
        by_cases hk8 : k < 8
        · obtain ⟨b, off, rfl, hcs⟩ := (h.fr0 hfr).get i (by have := HN.out; omega)
          obtain ⟨x, hx⟩ : ∃ x, x = l[i]'(by have := HN.out; omega) := ⟨_, rfl⟩
          rw [← hx] at hcs
          obtain ⟨tb, htb⟩ : ∃ tb, x.toNat.testBit k = tb := ⟨_, rfl⟩
          have hstep : laidBits l n (8 * i + k + 1) = if tb then (laidBits l n (8 * i + k)).set (8 * i + k) true else laidBits l n (8 * i + k) := by
            rw [laidBits, show (8 * i + k) / 8 = i by omega, show (8 * i + k) % 8 = k by omega, getD_get (by have := HN.out; omega), ← hx, htb]
          have hcd := bitRow_at hrow (8 * i + k) (by rw [laidBits_length]; omega)
          have hz := hrow.free (8 * i + k)
          have HR := Lib.hid (hrow.set (8 * i + k) (bv true))
          have HS := Lib.hid hstep
          have HF := Lib.hid (hfr.setCell (a := ⟨g, 8 * i + k, none⟩) (bv true) (fun hx => absurd hx (by simp; omega)))
          have HO := Lib.hid hrow
          have HG := Lib.hid hfr
          generalize (laidBits l n (8 * i + k)).getD (8 * i + k) false = tv at hcd
          obtain ⟨m, hm2⟩ : ∃ m : Int, m = ((2 ^ k : Nat) : Int) := ⟨_, rfl⟩
          have hq := and_bit x k hk8 m hm2 tb htb
          clear hstep hrow hfr hx htb
          have HK1 : Hid (∃ j : Nat, Value.int .i64 ((k : Int) + 1) = .int .i64 (j : Int) ∧ j = k + 1) := Lib.hid ⟨k + 1, rfl, rfl⟩
          rcases (show (k = 0 ∧ m = 1) ∨ (k = 1 ∧ m = 2) ∨ (k = 2 ∧ m = 4) ∨ (k = 3 ∧ m = 8) ∨ (k = 4 ∧ m = 16) ∨ (k = 5 ∧ m = 32) ∨ (k = 6 ∧ m = 64) ∨ (k = 7 ∧ m = 128) by
            rcases (show k = 0 ∨ k = 1 ∨ k = 2 ∨ k = 3 ∨ k = 4 ∨ k = 5 ∨ k = 6 ∨ k = 7 by omega) with rfl | rfl | rfl | rfl | rfl | rfl | rfl | rfl <;> simp [hm2]) with ⟨rfl, rfl⟩ | ⟨rfl, rfl⟩ | ⟨rfl, rfl⟩ | ⟨rfl, rfl⟩ | ⟨rfl, rfl⟩ | ⟨rfl, rfl⟩ | ⟨rfl, rfl⟩ | ⟨rfl, rfl⟩
          all_goals
            clear hm2
            obtain ⟨j, hj, hj2⟩ := HK1.out
            have HJ := Lib.hid hj; have HJ2 := Lib.hid hj2
            clear hj hj2 HK1
            try simp only [Nat.add_zero] at hcd hz
            cases tb
            · go_wp2
              go_quiet (fail)
              go_wp2
              go_roundw
              case rel => exact ⟨j, HJ.out, by have := HJ2.out; omega, by rw [HJ2.out]; have e := HS.out; simp only [Bool.false_eq_true, if_false] at e; have o := HO.out; rw [← e] at o; exact o.drewN _, HG.out.drewN _⟩
              case measure => simp [intOf]
            · go_wp2
              go_quiet (fail)
              go_wp2
              go_roundw
              case rel => exact ⟨j, HJ.out, by have := HJ2.out; omega, by rw [HJ2.out]; have e := HS.out; simp only [if_true] at e; have o := HR.out; rw [bitRow_set, ← e] at o; exact o.drewN _, HF.out.drewN _⟩
              case measure => simp [intOf]
        · have hk9 : k = 8 := by omega
          have HK := Lib.hid hk9
          clear hk9
          go_wp2
          go_roundw
          case rel => exact ⟨i + 1, by go_num, by omega, by have := hrow; rw [HK.out] at this; exact this, hfr⟩
          case measure => simp [intOf]; omega
    · have hin : i = n := by omega
      rw [hin] at hrow
      clear hin
      go_wp2
      go_loopw [6] (fun i wr => ∃ k : Nat, i = .int .i64 k ∧ k ≤ 32 ∧ Row wr g (bitRow (turned (laidBits l n (8 * n)) k)) 5 ∧ Fr [] w wr) (fun i _ => 32 - (intOf i).toNat)
      case atStart => exact ⟨0, rfl, Nat.zero_le _, hrow, hfr⟩
      case round =>
        clear hrow hfr
        obtain ⟨k, rfl, hk, hrow, hfr⟩ := hrel
        by_cases hlt2 : k < 32
        · have hcd := bitRow_at hrow k (by rw [turned_length, laidBits_length]; omega)
          have hz := hrow.free k
          have hstep : turned (laidBits l n (8 * n)) (k + 1) = (turned (laidBits l n (8 * n)) k).set k (!(turned (laidBits l n (8 * n)) k).getD k false) := rfl
          obtain ⟨tv, htv⟩ : ∃ tv, (turned (laidBits l n (8 * n)) k).getD k false = tv := ⟨_, rfl⟩
          rw [htv] at hcd hstep
          have HR := Lib.hid (hrow.set k (bv !tv))
          have HS := Lib.hid hstep
          have HF := Lib.hid (hfr.setCell (a := ⟨g, k, none⟩) (bv !tv) (fun hx => absurd hx (by simp; omega)))
          clear hstep htv hrow hfr
          cases tv
          all_goals
            simp only [bv, Bool.false_eq_true, if_false, if_true] at hcd
            go_wp2
            go_roundw
            case rel => exact ⟨k + 1, by go_num, by omega, by have e := HS.out; have o := HR.out; rw [bitRow_set, ← e] at o; exact o, HF.out⟩
            case measure => simp [intOf]; omega
        · have hk9 : k = 32 := by omega
          rw [hk9] at hrow
          clear hk9
          go_wp2
          go_ret
          exact ⟨g, rfl, hg, hrow, hfr⟩
end Go.Proofs.YtoooflagkhpnkaaDoor
