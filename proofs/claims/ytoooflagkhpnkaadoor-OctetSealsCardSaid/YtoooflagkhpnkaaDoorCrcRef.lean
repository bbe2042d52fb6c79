/- The long division's remainder is the register's sum. Plain: no program is walked. -/
import Derived.Test.YtoooflagkhpnkaaDoorRefB
import Derived.Test.YtoooflagkhpnkaaDoorCrcStep
namespace Go.Proofs.YtoooflagkhpnkaaDoor
open Go Go.RowKit
set_option linter.unusedSimpArgs false

/-- bit p of the message -/
def mbit (l : List UInt8) (p : Nat) : Bool := (l.getD (p / 8) 0).toNat.testBit (p % 8)
/-- one bit into the register -/
def sb (r : Nat) (b : Bool) : Nat := s1 (r ^^^ b.toNat)
def reg (l : List UInt8) : Nat → Nat
  | 0 => 4294967295
  | i + 1 => sb (reg l i) (mbit l i)
theorem reg_lt (l : List UInt8) (i : Nat) : reg l i < 4294967296 := by
  induction i with
  | zero => simp [reg]
  | succ i ih => exact s1_lt _ (Nat.xor_lt_two_pow (n := 32) ih (by cases mbit l i <;> decide))

theorem getD_set (M : List Bool) (i p : Nat) (b : Bool) (hi : i < M.length) : (M.set i b).getD p false = if p = i then b else M.getD p false := by
  simp only [List.getD, List.getElem?_set]
  by_cases h : i = p
  · subst h; simp [hi]
  · rw [if_neg h, if_neg (fun e => h e.symm)]

theorem laidBits_get (l : List UInt8) (n q p : Nat) (hq : q ≤ 8 * n) (hp : p < 8 * n + 32) : (laidBits l n q).getD p false = (decide (p < q) && mbit l p) := by
  induction q with
  | zero => simp [laidBits, List.getD, List.getElem?_replicate, hp]
  | succ q ih =>
    have ih' := ih (by omega)
    rw [laidBits]
    have hm : (l.getD (q / 8) 0).toNat.testBit (q % 8) = mbit l q := rfl
    rw [hm]
    by_cases hb : mbit l q = true
    · rw [if_pos hb, getD_set _ _ _ _ (by rw [laidBits_length]; omega), ih']
      by_cases e : p = q
      · subst e; simp [hb]
      · rw [if_neg e]
        by_cases h1 : p < q
        · simp [h1, show p < q + 1 by omega]
        · simp [h1, show ¬ p < q + 1 by omega]
    · rw [if_neg hb, ih']
      by_cases e : p = q
      · subst e; simp [hb]
      · by_cases h1 : p < q
        · simp [h1, show p < q + 1 by omega]
        · simp [h1, show ¬ p < q + 1 by omega]

theorem turned_get (M : List Bool) (k p : Nat) (hk : k ≤ M.length) : (turned M k).getD p false = (M.getD p false ^^ decide (p < k)) := by
  induction k with
  | zero => simp [turned]
  | succ k ih =>
    have ih' := ih (by omega)
    rw [turned, getD_set _ _ _ _ (by rw [turned_length]; omega)]
    by_cases e : p = k
    · subst e
      rw [if_pos rfl, ih', decide_eq_false (Nat.lt_irrefl p), decide_eq_true (Nat.lt_succ_self p)]
      cases M.getD p false <;> rfl
    · rw [if_neg e, ih']
      by_cases h1 : p < k
      · simp [h1, show p < k + 1 by omega]
      · simp [h1, show ¬ p < k + 1 by omega]

theorem tookOff_get (M : List Bool) (i k p : Nat) (hk : i + k ≤ M.length) : (tookOff M i k).getD p false = (M.getD p false ^^ (decide (i ≤ p) && decide (p < i + k) && polyB (p - i))) := by
  induction k with
  | zero =>
    rw [tookOff]
    by_cases h : i ≤ p
    · simp [h, show ¬ p < i by omega]
    · simp [h]
  | succ k ih =>
    have ih' := ih (by omega)
    rw [tookOff]
    by_cases hb : polyB k = true
    · rw [if_pos hb, getD_set _ _ _ _ (by rw [tookOff_length]; omega)]
      by_cases e : p = i + k
      · subst e
        rw [if_pos rfl, ih', decide_eq_false (Nat.lt_irrefl (i + k)), decide_eq_true (show i ≤ i + k by omega), decide_eq_true (show i + k < i + (k + 1) by omega), show i + k - i = k by omega, hb]
        cases M.getD (i + k) false <;> rfl
      · rw [if_neg e, ih']
        by_cases h1 : p < i + k
        · simp [h1, show p < i + (k + 1) by omega]
        · simp [h1, show ¬ p < i + (k + 1) by omega]
    · rw [if_neg hb, ih']
      by_cases e : p = i + k
      · subst e; simp [hb]
      · by_cases h1 : p < i + k
        · simp [h1, show p < i + (k + 1) by omega]
        · simp [h1, show ¬ p < i + (k + 1) by omega]

theorem poly_bit (j : Nat) (hj : j < 32) : (3988292384 : Nat).testBit j = polyB (j + 1) := by
  have : ∀ j : Fin 32, (3988292384 : Nat).testBit j.val = polyB (j.val + 1) := by decide
  exact this ⟨j, hj⟩

theorem sb_bit (r : Nat) (hr : r < 4294967296) (b : Bool) (j : Nat) (hj : j < 32) : (sb r b).testBit j = ((decide (j < 31) && r.testBit (j + 1)) ^^ ((r.testBit 0 ^^ b) && polyB (j + 1))) := by
  unfold sb s1
  rw [xor_div2, xor_mod2, Nat.testBit_xor, Nat.testBit_xor]
  have h2 : (b.toNat / 2) = 0 := by cases b <;> rfl
  have h3 : (r / 2).testBit j = r.testBit (j + 1) := by rw [Nat.testBit_div_two]
  have h4 : (decide (j < 31) && r.testBit (j + 1)) = r.testBit (j + 1) := by
    by_cases h : j < 31
    · simp [h]
    · have : r.testBit (j + 1) = false := Nat.testBit_lt_two_pow (Nat.lt_of_lt_of_le hr (by rw [show j + 1 = 32 by omega]; decide))
      simp [this]
  rw [h2, h3, h4, Nat.zero_testBit, Bool.xor_false, ← poly_bit j hj]
  congr 1
  rw [Nat.testBit_zero]
  have hm : r % 2 = 0 ∨ r % 2 = 1 := by omega
  cases b <;> rcases hm with hm | hm <;> simp [hm]

theorem div_inv (l : List UInt8) (n i : Nat) (hi : i ≤ 8 * n) : ∀ p, i ≤ p → p < 8 * n + 32 →
    (divided (turned (laidBits l n (8 * n)) 32) i).getD p false = ((decide (p < i + 32) && (reg l i).testBit (p - i)) ^^ (decide (p < 8 * n) && mbit l p)) := by
  induction i with
  | zero =>
    intro p _ hp
    rw [divided, turned_get _ _ _ (by rw [laidBits_length]; omega), laidBits_get l n (8 * n) p (Nat.le_refl _) hp]
    have : (reg l 0).testBit (p - 0) = decide (p < 32) := by
      show (2 ^ 32 - 1 : Nat).testBit (p - 0) = _
      rw [Nat.testBit_two_pow_sub_one]; rfl
    rw [this]
    by_cases h : p < 32
    · simp [h, Bool.xor_comm]
    · simp [h]
  | succ i ih =>
    intro p h1 hp
    have ih' := ih (by omega)
    have hlen : (divided (turned (laidBits l n (8 * n)) 32) i).length = 8 * n + 32 := by rw [divided_length, turned_length, laidBits_length]
    generalize hD : divided (turned (laidBits l n (8 * n)) 32) i = D at ih' hlen
    have hd : divided (turned (laidBits l n (8 * n)) 32) (i + 1) = if D.getD i false then tookOff D i 33 else D := by rw [divided, hD]
    have hi0 : D.getD i false = ((reg l i).testBit 0 ^^ mbit l i) := by
      rw [ih' i (Nat.le_refl _) (by omega)]
      simp [show i < 8 * n by omega]
    have hp0 := ih' p (by omega) hp
    have hr : (decide (p < i + 1 + 32) && (reg l (i + 1)).testBit (p - (i + 1))) = ((decide (p < i + 32) && (reg l i).testBit (p - i)) ^^ ((D.getD i false) && (decide (p < i + 33) && polyB (p - i)))) := by
      by_cases h2 : p < i + 33
      · rw [show reg l (i + 1) = sb (reg l i) (mbit l i) from rfl, sb_bit _ (reg_lt l i) _ _ (by omega), ← hi0, show p - (i + 1) + 1 = p - i by omega]
        by_cases h3 : p < i + 32
        · simp [h2, h3, show p < i + 1 + 32 by omega, show p - (i + 1) < 31 by omega]
        · simp [h2, h3, show p < i + 1 + 32 by omega, show ¬ p - (i + 1) < 31 by omega]
      · simp [h2, show ¬ p < i + 1 + 32 by omega, show ¬ p < i + 32 by omega]
    rw [hd, hr]
    cases hb : D.getD i false
    · rw [if_neg (by decide), hp0, Bool.false_and, Bool.xor_false]
    · rw [if_pos rfl, tookOff_get D i 33 p (by omega), hp0]
      simp only [Bool.true_and, show decide (i ≤ p) = true from decide_eq_true (by omega)]
      generalize (decide (p < i + 32) && (reg l i).testBit (p - i)) = A
      generalize (decide (p < 8 * n) && mbit l p) = B
      generalize (decide (p < i + 33) && polyB (p - i)) = C
      cases A <;> cases B <;> cases C <;> rfl

theorem summed_eq (M : List Bool) (p R : Nat) (k : Nat) (h : ∀ j, j < k → M.getD (p + j) false = R.testBit j) : summed M p k + R % 2 ^ k = 2 ^ k - 1 := by
  induction k with
  | zero => simp [summed, Nat.mod_one]
  | succ k ih =>
    have ih' := ih (fun j hj => h j (by omega))
    have hk := h k (by omega)
    have hp : 0 < 2 ^ k := Nat.two_pow_pos k
    have hb : R.testBit k = decide (R / 2 ^ k % 2 = 1) := by
      rw [← Nat.testBit_zero, Nat.testBit_div_two_pow, Nat.zero_add]
    rw [summed, hk, Nat.pow_succ, Nat.mod_mul, hb]
    have h2 : R / 2 ^ k % 2 = 0 ∨ R / 2 ^ k % 2 = 1 := by omega
    rcases h2 with h2 | h2
    · rw [h2]; simp; omega
    · rw [h2]; simp; omega

theorem reg_byte (l : List UInt8) (q k : Nat) (hk : k ≤ 8) : steps k (reg l (8 * q) ^^^ (l.getD q 0).toNat) = reg l (8 * q + k) ^^^ ((l.getD q 0).toNat / 2 ^ k) := by
  induction k with
  | zero => simp [steps]
  | succ k ih =>
    rw [steps, ih (by omega), show 8 * q + (k + 1) = (8 * q + k) + 1 by omega]
    have hm : mbit l (8 * q + k) = (l.getD q 0).toNat.testBit k := by
      unfold mbit
      rw [show (8 * q + k) / 8 = q by omega, show (8 * q + k) % 8 = k by omega]
    rw [show reg l (8 * q + k + 1) = sb (reg l (8 * q + k)) (mbit l (8 * q + k)) from rfl, hm]
    unfold sb
    generalize (l.getD q 0).toNat = c
    have hc : c / 2 ^ k = (c.testBit k).toNat ^^^ (2 * (c / 2 ^ (k + 1))) := by
      have h1 : (c / 2 ^ k) / 2 = c / 2 ^ (k + 1) := by rw [Nat.div_div_eq_div_mul, Nat.pow_succ]
      rw [← h1]
      have h2 : c.testBit k = decide (c / 2 ^ k % 2 = 1) := by
        rw [← Nat.testBit_zero, Nat.testBit_div_two_pow, Nat.zero_add]
      rw [h2]
      generalize c / 2 ^ k = y
      apply Nat.eq_of_testBit_eq
      intro i
      rw [Nat.testBit_xor]
      cases i with
      | zero =>
        have hy : y % 2 = 0 ∨ y % 2 = 1 := by omega
        rcases hy with hy | hy <;> simp [hy, Nat.testBit_zero]
      | succ i =>
        have e1 : (2 * (y / 2)).testBit (i + 1) = y.testBit (i + 1) := by
          rw [← Nat.testBit_div_two, ← Nat.testBit_div_two, show 2 * (y / 2) / 2 = y / 2 by omega]
        have e2 : ((decide (y % 2 = 1)).toNat).testBit (i + 1) = false := by
          cases decide (y % 2 = 1) <;> simp [← Nat.testBit_div_two]
        rw [e1, e2, Bool.false_xor]
    rw [hc, ← Nat.xor_assoc, s1_lin, s1_even]

theorem reg_run (l : List UInt8) (q : Nat) (hq : q ≤ l.length) : reg l (8 * q) = run 4294967295 (l.take q) := by
  induction q with
  | zero => simp [reg, run]
  | succ q ih =>
    have h := reg_byte l q 8 (Nat.le_refl _)
    have hz : (l.getD q 0).toNat / 2 ^ 8 = 0 := Nat.div_eq_of_lt (u8lt _)
    rw [hz, Nat.xor_zero, ← feed_steps, ih (by omega)] at h
    rw [run_take _ _ _ (by omega), show 8 * (q + 1) = 8 * q + 8 by omega, ← h, getD_get (by omega)]

theorem refSum_crc (l : List UInt8) : refSum l = crc l := by
  have hinv := div_inv l l.length (8 * l.length) (Nat.le_refl _)
  have hs := summed_eq (refM l) (8 * l.length) (reg l (8 * l.length)) 32 (fun j hj => by
    unfold refM
    rw [hinv (8 * l.length + j) (by omega) (by omega), show 8 * l.length + j - 8 * l.length = j by omega]
    simp [hj, show ¬ 8 * l.length + j < 8 * l.length by omega])
  have hr := reg_lt l (8 * l.length)
  rw [Nat.mod_eq_of_lt hr, reg_run l l.length (Nat.le_refl _), List.take_length] at hs
  unfold refSum crc
  rw [ones_xor _ (run_lt l _ (by omega))]
  omega
end Go.Proofs.YtoooflagkhpnkaaDoor
