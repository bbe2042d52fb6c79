/- What is changed within four neighbouring bytes of sealed bytes is told by the sum. Plain: no program. -/
import Derived.Test.YtoooflagkhpnkaaDoorCrcStep
namespace Go.Proofs.YtoooflagkhpnkaaDoor
open Go Go.RowKit

def le : List UInt8 → Nat
  | [] => 0
  | c :: D => c.toNat + 256 * le D
theorem split8 (x : Nat) : x = (256 * (x / 256)) ^^^ (x % 256) := by
  apply Nat.eq_of_testBit_eq
  intro i
  rw [Nat.testBit_xor, show (256 : Nat) = 2 ^ 8 from rfl, Nat.testBit_two_pow_mul, Nat.testBit_mod_two_pow, Nat.testBit_div_two_pow]
  by_cases h : i < 8
  · simp [h, show ¬ 8 ≤ i by omega]
  · simp [h, show 8 ≤ i by omega]
theorem add_xor (c y : Nat) (hc : c < 256) : c + 256 * y = (256 * y) ^^^ c := by
  have h := split8 (c + 256 * y)
  rw [show (c + 256 * y) / 256 = y by omega, show (c + 256 * y) % 256 = c by omega] at h
  exact h
theorem steps_lin (k a b : Nat) : steps k (a ^^^ b) = steps k a ^^^ steps k b := by
  induction k with
  | zero => rfl
  | succ k ih => rw [steps, ih, s1_lin]; rfl
theorem steps_add (j k r : Nat) : steps (j + k) r = steps j (steps k r) := by
  induction j with
  | zero => simp [steps]
  | succ j ih => rw [Nat.succ_add, steps, ih]; rfl
theorem steps_pow (k y : Nat) : steps k (2 ^ k * y) = y := by
  induction k generalizing y with
  | zero => simp [steps]
  | succ k ih => rw [steps, Nat.pow_succ, show 2 ^ k * 2 * y = 2 ^ k * (2 * y) by rw [Nat.mul_assoc], ih, s1_even]
theorem run_le (D : List UInt8) : ∀ r, run r D = steps (8 * D.length) (r ^^^ le D) := by
  induction D with
  | nil => intro r; simp [run, steps, le]
  | cons c D ih =>
    intro r
    have e : run r (c :: D) = run (feed r c) D := rfl
    rw [e, ih, feed_steps, List.length_cons, show 8 * (D.length + 1) = 8 * D.length + 8 by omega, steps_add]
    congr 1
    have h8 : steps 8 (256 * le D) = le D := steps_pow 8 (le D)
    rw [le, add_xor _ _ (u8lt c), Nat.xor_comm (256 * le D), ← Nat.xor_assoc, steps_lin 8 (r ^^^ c.toNat) (256 * le D), h8]
theorem s1_ne (x : Nat) (h0 : x ≠ 0) (h : x < 4294967296) : s1 x ≠ 0 := by
  unfold s1
  by_cases h2 : x % 2 = 1
  · rw [if_pos h2]
    intro he
    have : x / 2 = 3988292384 := by
      have := congrArg (· ^^^ 3988292384) he
      simp only [Nat.xor_assoc, Nat.xor_self, Nat.xor_zero, Nat.zero_xor] at this
      exact this
    omega
  · rw [if_neg h2, Nat.xor_zero]
    omega
theorem steps_ne (k x : Nat) (h0 : x ≠ 0) (h : x < 4294967296) : steps k x ≠ 0 := by
  induction k with
  | zero => exact h0
  | succ k ih => exact s1_ne _ ih (steps_lt k x h)
theorem le_lt (D : List UInt8) : ∀ k, (∀ i, k ≤ i → D.getD i 0 = 0) → le D < 256 ^ k := by
  induction D with
  | nil => intro k _; simp [le]; exact Nat.pow_pos (by omega)
  | cons c D ih =>
    intro k h
    cases k with
    | zero =>
      have hc : c = 0 := by simpa using h 0 (by omega)
      have hD := ih 0 (fun i _ => by simpa using h (i + 1) (by omega))
      simp at hD
      simp [le, hc, hD]
    | succ k =>
      have hD := ih k (fun i hi => by simpa using h (i + 1) (by omega))
      have := u8lt c
      rw [le, Nat.pow_succ]
      omega
theorem le_drop (D : List UInt8) : ∀ p, (∀ i, i < p → D.getD i 0 = 0) → le D = 256 ^ p * le (D.drop p) := by
  induction D with
  | nil => intro p _; simp [le]
  | cons c D ih =>
    intro p h
    cases p with
    | zero => simp
    | succ p =>
      have hc : c = 0 := by simpa using h 0 (by omega)
      have hD := ih p (fun i hi => by simpa using h (i + 1) (by omega))
      rw [le, hc, hD, List.drop_succ_cons, Nat.pow_succ]
      simp
      rw [Nat.mul_comm (256 ^ p) 256, Nat.mul_assoc]
theorem le_zero (D : List UInt8) (h : le D = 0) : ∀ i, D.getD i 0 = 0 := by
  induction D with
  | nil => intro i; simp
  | cons c D ih =>
    rw [le] at h
    have hc : c = 0 := by
      have : c.toNat = 0 := by omega
      exact UInt8.toNat_inj.1 this
    intro i
    cases i with
    | zero => simpa using hc
    | succ i => simpa using ih (by omega) i
/-- a burst of four bytes is told -/
theorem burst (D : List UInt8) (p : Nat) (h1 : ∀ i, i < p → D.getD i 0 = 0) (h2 : ∀ i, p + 4 ≤ i → D.getD i 0 = 0) (h3 : ∃ i, D.getD i 0 ≠ 0) : run 0 D ≠ 0 := by
  rw [run_le, Nat.zero_xor]
  have hd := le_drop D p h1
  have hx : le (D.drop p) < 256 ^ 4 := le_lt _ 4 (fun i hi => by
    have := h2 (p + i) (by omega)
    simpa [List.getD, List.getElem?_drop] using this)
  have hx0 : le (D.drop p) ≠ 0 := by
    intro he
    obtain ⟨i, hi⟩ := h3
    rw [he, Nat.mul_zero] at hd
    exact hi (le_zero D hd i)
  generalize le (D.drop p) = x at *
  have hp : p ≤ D.length := by
    rcases Nat.lt_or_ge D.length p with h | h
    · obtain ⟨i, hi⟩ := h3
      rcases Nat.lt_or_ge i p with hip | hip
      · exact absurd (h1 i hip) hi
      · exact absurd (by simp [List.getD, List.getElem?_eq_none (show D.length ≤ i by omega)]) hi
    · exact h
  rw [hd, show 8 * D.length = (8 * D.length - 8 * p) + 8 * p by omega, steps_add]
  have e : 256 ^ p * x = 2 ^ (8 * p) * x := by rw [Nat.pow_mul]
  rw [e, steps_pow]
  exact steps_ne _ x hx0 (by simpa using hx)
theorem run_append (r : Nat) (a b : List UInt8) : run r (a ++ b) = run (run r a) b := by
  unfold run
  rw [List.foldl_append]
theorem le_sum (s : Nat) (h : s < 4294967296) : le [UInt8.ofNat s, UInt8.ofNat (s / 256), UInt8.ofNat (s / 65536), UInt8.ofNat (s / 16777216)] = s := by
  simp only [le, UInt8.toNat_ofNat']
  omega
/-- the register behind sealed bytes -/
theorem run_residue (m : List UInt8) : run 4294967295 (m ++ [UInt8.ofNat (crc m), UInt8.ofNat (crc m / 256), UInt8.ofNat (crc m / 65536), UInt8.ofNat (crc m / 16777216)]) = steps 32 4294967295 := by
  rw [run_append, run_le, le_sum _ (crc_lt m)]
  congr 1
  unfold crc
  rw [xor_lc, Nat.xor_self, Nat.xor_zero]
end Go.Proofs.YtoooflagkhpnkaaDoor
