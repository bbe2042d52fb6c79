/- Contracts: jotterref01.Sum. -/
import Derived.Test.YtoooflagkhpnkaaDoorRefA
namespace Go.Proofs.YtoooflagkhpnkaaDoor
open Go Go.RowKit
set_option linter.unusedVariables false
set_option linter.unusedSimpArgs false

def polyL : List Bool := [true,false,false,false,false,false,true,false,false,true,true,false,false,false,false,false,true,false,false,false,true,true,true,false,true,true,false,true,true,false,true,true,true]
def polyB (k : Nat) : Bool := polyL.getD k false

/-- the polynomial's first k coefficients taken off, from place i on -/
def tookOff (M : List Bool) (i : Nat) : Nat → List Bool
  | 0 => M
  | k + 1 => if polyB k then (tookOff M i k).set (i + k) (!(tookOff M i k).getD (i + k) false) else tookOff M i k
theorem tookOff_length (M : List Bool) (i k : Nat) : (tookOff M i k).length = M.length := by
  induction k with
  | zero => rfl
  | succ k ih => rw [tookOff]; split <;> simp [ih]
def divided (M : List Bool) : Nat → List Bool
  | 0 => M
  | i + 1 => if (divided M i).getD i false then tookOff (divided M i) i 33 else divided M i
theorem divided_length (M : List Bool) (k : Nat) : (divided M k).length = M.length := by
  induction k with
  | zero => rfl
  | succ k ih => rw [divided]; split <;> simp [ih, tookOff_length]
/-- the sum's lowest k bits, of the remainder from place p on -/
def summed (M : List Bool) (p : Nat) : Nat → Nat
  | 0 => 0
  | k + 1 => if (M.getD (p + k) false) = false then summed M p k + 2 ^ k else summed M p k
theorem summed_lt (M : List Bool) (p k : Nat) : summed M p k < 2 ^ k := by
  induction k with
  | zero => simp [summed]
  | succ k ih => rw [summed, Nat.pow_succ]; split <;> omega
def refM (l : List UInt8) : List Bool := divided (turned (laidBits l l.length (8 * l.length)) 32) (8 * l.length)
def refSum (l : List UInt8) : Nat := summed (refM l) (8 * l.length) 32

theorem bits_at (a : Option Addr) (l : List UInt8) (n c : Nat) (w : World) (hn : n = l.length) (h : BytesAt w a l) (hm : n ≤ 1000) (M : List Bool) (hM : M = turned (laidBits l n (8 * n)) 32) :
    Calls Tryd.prog 46 #[.slice a n c] w fun e w' => ∃ g, e = .returned (.slice (some ⟨g, 0, none⟩) (8 * n + 32) (8 * n + 32)) ∧ w.heap.size ≤ g ∧ Row w' g (bitRow M) 5 ∧ Fr [] w w' := by
  rw [hM]
  exact bits_any a l n c w hn h hm

theorem pow_walk (k : Nat) (hk : k < 32) : ∃ p : Nat, (2 : Int) ^ k % 4294967296 = (p : Int) ∧ p ≤ 2147483648 ∧ Hid (p = 2 ^ k) := by
  have h1 : 2 ^ k ≤ 2 ^ 31 := Nat.pow_le_pow_right (by omega) (by omega)
  have e : ((2 : Int) ^ k) = ((2 ^ k : Nat) : Int) := by simp
  refine ⟨2 ^ k, ?_, h1, Lib.hid rfl⟩
  rw [e]
  generalize 2 ^ k = p at *
  omega
theorem poly_at (k : Nat) (h : k < 33) : (((({ data := #[49, 48, 48, 48, 48, 48, 49, 48, 48, 49, 49, 48, 48, 48, 48, 48, 49, 48, 48, 48, 49, 49, 49, 48, 49, 49, 48, 49, 49, 48, 49, 49, 49] } : ByteArray)[k]'h).toNat : Int) == 49) = polyB k := by
  have : ∀ k : Fin 33, (((({ data := #[49, 48, 48, 48, 48, 48, 49, 48, 48, 49, 49, 48, 48, 48, 48, 48, 49, 48, 48, 48, 49, 49, 49, 48, 49, 49, 48, 49, 49, 48, 49, 49, 49] } : ByteArray)[k.val]'k.isLt).toNat : Int) == 49) = polyB k.val := by decide
  exact this ⟨k, h⟩

set_option maxRecDepth 100000 in
set_option maxHeartbeats 1000000 in
theorem refSum_any (a : Option Addr) (l : List UInt8) (n c : Nat) (w : World) (hn : n = l.length) (h : BytesAt w a l) (hm : n ≤ 1000) :
    Calls Tryd.prog 16 #[.slice a n c] w fun e w' => e = .returned (.int .u32 (refSum l : Int)) ∧ Fr [] w w' := by
  obtain ⟨M, hM⟩ : ∃ M, M = turned (laidBits l n (8 * n)) 32 := ⟨_, rfl⟩
  have hMl : M.length = 8 * n + 32 := by rw [hM, turned_length, laidBits_length]
  have HN := Lib.hid hn; have HM := Lib.hid hM; have HML := Lib.hid hMl
  clear hn hM hMl
  go_enter Tryd.func16, Tryd.ntmps16
  go_wp2_with fail
  refine (bits_at a l n c _ HN.out h hm M HM.out).mono ?_
  rintro e w1 ⟨g, rfl, hg, hr, hf⟩
  go_wp2_with fail
  go_loopw [4] (fun i wr => ∃ k : Nat, i = .int .i64 k ∧ k ≤ 8 * n ∧ Row wr g (bitRow (divided M k)) 5 ∧ Fr [] w wr) (fun i _ => 8 * n - (intOf i).toNat)
  case atStart => exact ⟨0, rfl, Nat.zero_le _, hr, hf⟩
  case round =>
    clear hr hf
    obtain ⟨i, rfl, hi, hrow, hfr⟩ := hrel
    by_cases hlt : i < 8 * n
    · have hcd := bitRow_at hrow i (by rw [divided_length]; have := HML.out; omega)
      obtain ⟨D, hD⟩ : ∃ D, D = divided M i := ⟨_, rfl⟩
      have hDl : D.length = 8 * n + 32 := by rw [hD, divided_length]; exact HML.out
      rw [← hD] at hrow hcd
      obtain ⟨tv, htv⟩ : ∃ tv, D.getD i false = tv := ⟨_, rfl⟩
      rw [htv] at hcd
      have hstep : divided M (i + 1) = if tv then tookOff D i 33 else D := by rw [divided, ← hD, htv]
      have HS := Lib.hid hstep; have HDL := Lib.hid hDl
      clear hD htv hstep hDl
      cases tv
      · simp only [bv, Bool.false_eq_true, if_false, if_true] at hcd
        have hz : ((0 : Int) == 1) = false := by decide
        go_wp2
        go_roundw
        case rel => exact ⟨i + 1, by go_num, by omega, by have e := HS.out; simp only [Bool.false_eq_true, if_false] at e; rw [e]; exact hrow, hfr⟩
        case measure => simp [intOf]; omega
      · simp only [bv, Bool.false_eq_true, if_false, if_true] at hcd
        obtain ⟨wo, hwo⟩ : ∃ wo : World, wo = wr := ⟨_, rfl⟩
        go_wp2
        go_loopw [5] (fun j wr => ∃ k : Nat, j = .int .i64 k ∧ k ≤ 33 ∧ Row wr g (bitRow (tookOff D i k)) 5 ∧ Fr [] w wr) (fun j _ => 33 - (intOf j).toNat)
        case atStart => exact ⟨0, rfl, Nat.zero_le _, hrow, hfr⟩
        case round =>
          clear hrow hfr hwo hcd
          obtain ⟨k, rfl, hk, hrow, hfr⟩ := hrel
          by_cases hk8 : k < 33
          · have hp := poly_at k hk8
            obtain ⟨tb, htb⟩ : ∃ tb, polyB k = tb := ⟨_, rfl⟩
            rw [htb] at hp
            have hcd := bitRow_at hrow (i + k) (by rw [tookOff_length]; have := HDL.out; omega)
            have hz := hrow.free (i + k)
            obtain ⟨tv, htv⟩ : ∃ tv, (tookOff D i k).getD (i + k) false = tv := ⟨_, rfl⟩
            have hstep : tookOff D i (k + 1) = if tb then (tookOff D i k).set (i + k) (!tv) else tookOff D i k := by rw [tookOff, htb, htv]
            rw [htv] at hcd
            have HS2 := Lib.hid hstep
            have HR := Lib.hid (hrow.set (i + k) (bv !tv))
            have HF := Lib.hid (hfr.setCell (a := ⟨g, i + k, none⟩) (bv !tv) (fun hx => absurd hx (by simp; omega)))
            clear htb htv hstep
            cases tb
            · go_wp2
              go_roundw
              case rel => exact ⟨k + 1, by go_num, by omega, by have e := HS2.out; simp only [Bool.false_eq_true, if_false] at e; rw [e]; exact hrow, hfr⟩
              case measure => simp [intOf]; omega
            · cases tv
              all_goals
                simp only [bv, Bool.false_eq_true, if_false, if_true] at hcd
                clear hrow hfr
                go_wp2
                go_roundw
                case rel => exact ⟨k + 1, by go_num, by omega, by have e := HS2.out; simp only [if_true] at e; have o := HR.out; rw [bitRow_set, ← e] at o; exact o, HF.out⟩
                case measure => simp [intOf]; omega
          · have hk9 : k = 33 := by omega
            rw [hk9] at hrow
            clear hk9
            have e := HS.out
            simp only [if_true] at e
            rw [← e] at hrow
            clear e
            go_wp2
            go_roundw
            case rel => exact ⟨i + 1, by go_num, by omega, hrow, hfr⟩
            case measure => simp [intOf]; omega
    · have hin : i = 8 * n := by omega
      rw [hin] at hrow
      clear hin
      obtain ⟨D, hD⟩ : ∃ D, D = divided M (8 * n) := ⟨_, rfl⟩
      have hDl : D.length = 8 * n + 32 := by rw [hD, divided_length]; exact HML.out
      have hfin : summed D (8 * n) 32 = refSum l := by rw [hD, HM.out, refSum, refM, ← HN.out]
      rw [← hD] at hrow
      have HDL := Lib.hid hDl; have HFin := Lib.hid hfin
      clear hD hDl hfin
      go_wp2
      go_loop [6, 7] (fun s j => ∃ (k t : Nat), j = .int .i64 k ∧ k ≤ 32 ∧ s = .int .u32 t ∧ Hid (t = summed D (8 * n) k) ∧ t < 2 ^ k) (fun _ j => 32 - (intOf j).toNat)
      case atStart => exact ⟨0, 0, rfl, Nat.zero_le _, rfl, Lib.hid rfl, by simp⟩
      case round =>
        obtain ⟨k, t, rfl, hk, rfl, HT, ht⟩ := hrel
        by_cases hk8 : k < 32
        · have hcd := bitRow_at hrow (8 * n + k) (by have := HDL.out; omega)
          obtain ⟨tv, htv⟩ : ∃ tv, D.getD (8 * n + k) false = tv := ⟨_, rfl⟩
          rw [htv] at hcd
          have hstep : summed D (8 * n) (k + 1) = if tv = false then t + 2 ^ k else t := by rw [summed, htv, HT.out]
          have HS := Lib.hid hstep
          clear htv hstep
          cases tv
          · simp only [bv, Bool.false_eq_true, if_false, if_true] at hcd
            obtain ⟨p, hw, hp, HP⟩ := pow_walk k hk8
            have hpt : t < p := by rw [HP.out]; exact ht
            go_wp2
            go_round
            case rel => exact ⟨k + 1, t + p, by go_num, by omega, by go_num, Lib.hid (by rw [HP.out]; have e := HS.out; simp only [if_true] at e; exact e.symm), by rw [Nat.pow_succ, ← HP.out]; omega⟩
            case measure => simp [intOf]; omega
          · simp only [bv, Bool.false_eq_true, if_false, if_true] at hcd
            have hz : ((1 : Int) == 0) = false := by decide
            go_wp2
            go_round
            case rel => exact ⟨k + 1, t, by go_num, by omega, rfl, Lib.hid (by have e := HS.out; simp only [Bool.true_eq_false, if_false] at e; exact e.symm), by rw [Nat.pow_succ]; omega⟩
            case measure => simp [intOf]; omega
        · have hk9 : k = 32 := by omega
          have HK := Lib.hid hk9
          clear hk9
          go_wp2
          go_ret
          exact ⟨ret_int (by rw [HT.out, HK.out, HFin.out]), hfr⟩
end Go.Proofs.YtoooflagkhpnkaaDoor
