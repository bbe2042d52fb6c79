/- Half a byte by the table is four single steps of the register; a byte is eight. Plain: no program. -/
import Derived.Test.YtoooflagkhpnkaaDoorCrcLin
namespace Go.Proofs.YtoooflagkhpnkaaDoor
open Go Go.RowKit

def s1 (r : Nat) : Nat := (r / 2) ^^^ (if r % 2 = 1 then 3988292384 else 0)
theorem xor_div2 (a b : Nat) : (a ^^^ b) / 2 = a / 2 ^^^ b / 2 := by
  have := Nat.shiftRight_xor_distrib (a := a) (b := b) (i := 1)
  simpa [Nat.shiftRight_eq_div_pow] using this
theorem xor_mod2 (a b : Nat) : (a ^^^ b) % 2 = (a % 2 + b % 2) % 2 := by
  have h : ((a ^^^ b).testBit 0) = ((a.testBit 0) ^^ (b.testBit 0)) := Nat.testBit_xor a b 0
  simp only [Nat.testBit_zero] at h
  have ha : a % 2 = 0 ∨ a % 2 = 1 := by omega
  have hb : b % 2 = 0 ∨ b % 2 = 1 := by omega
  have hc : (a ^^^ b) % 2 = 0 ∨ (a ^^^ b) % 2 = 1 := by omega
  rcases ha with ha | ha <;> rcases hb with hb | hb <;> rcases hc with hc | hc <;> simp [ha, hb, hc] at h ⊢
theorem s1_lin (a b : Nat) : s1 (a ^^^ b) = s1 a ^^^ s1 b := by
  unfold s1
  rw [xor_div2, xor_mod2]
  have ha : a % 2 = 0 ∨ a % 2 = 1 := by omega
  have hb : b % 2 = 0 ∨ b % 2 = 1 := by omega
  rcases ha with ha | ha <;> rcases hb with hb | hb <;> simp [ha, hb, Nat.xor_assoc]
  · rw [Nat.xor_comm (b / 2)]
  · rw [xor_lc 3988292384 (b / 2) 3988292384, Nat.xor_self, Nat.xor_zero]
theorem s1_even (q : Nat) : s1 (2 * q) = q := by
  unfold s1
  rw [if_neg (by omega), Nat.xor_zero]
  omega
theorem split16 (x : Nat) : x = (16 * (x / 16)) ^^^ (x % 16) := by
  apply Nat.eq_of_testBit_eq
  intro i
  rw [Nat.testBit_xor, show (16 : Nat) = 2 ^ 4 from rfl, Nat.testBit_two_pow_mul, Nat.testBit_mod_two_pow, Nat.testBit_div_two_pow]
  by_cases h : i < 4
  · simp [h, show ¬ 4 ≤ i by omega]
  · simp [h, show 4 ≤ i by omega]
theorem nib_s1 (x : Nat) : nib x = s1 (s1 (s1 (s1 x))) := by
  have e : s1 (s1 (s1 (s1 x))) = s1 (s1 (s1 (s1 (16 * (x / 16))))) ^^^ s1 (s1 (s1 (s1 (x % 16)))) := by
    rw [← s1_lin, ← s1_lin, ← s1_lin, ← s1_lin, ← split16]
  have e1 : s1 (s1 (s1 (s1 (16 * (x / 16))))) = x / 16 := by
    rw [show 16 * (x / 16) = 2 * (2 * (2 * (2 * (x / 16)))) by omega, s1_even, s1_even, s1_even, s1_even]
  have e2 : ∀ t : Fin 16, s1 (s1 (s1 (s1 t.val))) = tbl t.val := by decide
  rw [e, e1, e2 ⟨x % 16, Nat.mod_lt _ (by omega)⟩]
  unfold nib
  rw [show (15 : Nat) = 2 ^ 4 - 1 from rfl, Nat.and_two_pow_sub_one_eq_mod]
def steps : Nat → Nat → Nat
  | 0, r => r
  | k + 1, r => s1 (steps k r)
theorem feed_steps (r : Nat) (c : UInt8) : feed r c = steps 8 (r ^^^ c.toNat) := by
  unfold feed
  rw [nib_s1, nib_s1]
  rfl
theorem s1_lt (r : Nat) (h : r < 4294967296) : s1 r < 4294967296 := by
  unfold s1
  exact Nat.xor_lt_two_pow (n := 32) (by omega) (by split <;> omega)
theorem steps_lt (k r : Nat) (h : r < 4294967296) : steps k r < 4294967296 := by
  induction k with
  | zero => exact h
  | succ k ih => exact s1_lt _ ih
theorem ones_xor (r : Nat) (h : r < 4294967296) : 4294967295 ^^^ r = 4294967295 - r := by
  have e := BitVec.toNat_not (x := BitVec.ofNat 32 r)
  rw [← BitVec.allOnes_xor, BitVec.toNat_xor, BitVec.toNat_allOnes, BitVec.toNat_ofNat, Nat.mod_eq_of_lt (by omega)] at e
  exact e
end Go.Proofs.YtoooflagkhpnkaaDoor
