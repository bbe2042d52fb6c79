/- Contract: jotterlaw01.change; what it changes is told by the sum. -/
import Derived.Test.YtoooflagkhpnkaaDoorTold
import Derived.Test.YtoooflagkhpnkaaDoorCrcBurst
import Derived.Test.YtoooflagkhpnkaaDoorXor8
namespace Go.Proofs.YtoooflagkhpnkaaDoor
open Go Go.RowKit
set_option linter.unusedVariables false

def mby (masks k : Nat) : UInt8 := b8 (masks / 256 ^ k)
def chgL (l : List UInt8) (at_ : Int) (masks : Nat) : Nat → List UInt8
  | 0 => l
  | k + 1 => if 0 ≤ at_ + k ∧ at_ + k < l.length ∧ mby masks k ≠ 0 then (chgL l at_ masks k).set (at_ + k).toNat ((chgL l at_ masks k).getD (at_ + k).toNat 0 ^^^ mby masks k) else chgL l at_ masks k
def chgF (l : List UInt8) (at_ : Int) (masks : Nat) : Nat → Bool
  | 0 => false
  | k + 1 => if 0 ≤ at_ + k ∧ at_ + k < l.length ∧ mby masks k ≠ 0 then true else chgF l at_ masks k
theorem chgL_length (l : List UInt8) (a : Int) (m k : Nat) : (chgL l a m k).length = l.length := by
  induction k with
  | zero => rfl
  | succ k ih => rw [chgL]; split <;> simp [ih]
theorem getD_set8 (M : List UInt8) (i p : Nat) (b : UInt8) (hi : i < M.length) : (M.set i b).getD p 0 = if p = i then b else M.getD p 0 := by
  simp only [List.getD, List.getElem?_set]
  by_cases h : i = p
  · subst h; simp [hi]
  · rw [if_neg h, if_neg (fun e => h e.symm)]
/-- what is laid over byte i -/
def wd (a : Int) (m : Nat) (k i : Nat) : UInt8 := if a ≤ i ∧ (i : Int) < a + k then mby m ((i : Int) - a).toNat else 0
theorem chgL_get (l : List UInt8) (a : Int) (m k i : Nat) (hi : i < l.length) : (chgL l a m k).getD i 0 = l.getD i 0 ^^^ wd a m k i := by
  induction k with
  | zero =>
    rw [chgL, wd, if_neg (by omega)]
    simp
  | succ k ih =>
    rw [chgL]
    by_cases hp : 0 ≤ a + k ∧ a + k < l.length ∧ mby m k ≠ 0
    · rw [if_pos hp, getD_set8 _ _ _ _ (by rw [chgL_length]; omega)]
      by_cases e : i = (a + k).toNat
      · rw [if_pos e, ← e, ih]
        have e1 : wd a m k i = 0 := by rw [wd, if_neg (by omega)]
        have e2 : wd a m (k + 1) i = mby m k := by rw [wd, if_pos (by omega)]; congr 1; omega
        rw [e1, e2]
        simp
      · rw [if_neg e, ih]
        have : wd a m k i = wd a m (k + 1) i := by
          unfold wd
          by_cases h1 : a ≤ i ∧ (i : Int) < a + k
          · rw [if_pos h1, if_pos (by omega)]
          · rw [if_neg h1, if_neg (by omega)]
        rw [this]
    · rw [if_neg hp, ih]
      have : wd a m k i = wd a m (k + 1) i := by
        unfold wd
        by_cases h1 : a ≤ i ∧ (i : Int) < a + k
        · rw [if_pos h1, if_pos (by omega)]
        · rw [if_neg h1]
          by_cases h2 : a ≤ i ∧ (i : Int) < a + (k + 1 : Nat)
          · rw [if_pos h2, show ((i : Int) - a).toNat = k by omega]
            have : mby m k = 0 := by
              rcases Decidable.em (mby m k = 0) with h | h
              · exact h
              · exact absurd ⟨by omega, by omega, h⟩ hp
            exact this.symm
          · rw [if_neg h2]
      rw [this]
theorem chgF_none (l : List UInt8) (a : Int) (m k : Nat) (h : chgF l a m k = false) : chgL l a m k = l := by
  induction k with
  | zero => rfl
  | succ k ih =>
    rw [chgF] at h
    rw [chgL]
    split
    · rename_i hp; rw [if_pos hp] at h; cases h
    · rename_i hp; rw [if_neg hp] at h; exact ih h
theorem chgF_some (l : List UInt8) (a : Int) (m k : Nat) (h : chgF l a m k = true) : ∃ i, i < l.length ∧ wd a m k i ≠ 0 := by
  induction k with
  | zero => cases h
  | succ k ih =>
    rw [chgF] at h
    by_cases hp : 0 ≤ a + k ∧ a + k < l.length ∧ mby m k ≠ 0
    · refine ⟨(a + k).toNat, by omega, ?_⟩
      rw [wd, if_pos (by omega), show (((a + k).toNat : Nat) : Int) - a = k by omega]
      simpa using hp.2.2
    · rw [if_neg hp] at h
      obtain ⟨i, hi, hw⟩ := ih h
      refine ⟨i, hi, ?_⟩
      unfold wd at hw ⊢
      by_cases h1 : a ≤ i ∧ (i : Int) < a + k
      · rw [if_pos h1] at hw
        rw [if_pos (by omega)]
        exact hw
      · rw [if_neg h1] at hw
        exact absurd rfl hw

theorem xorself8 (x y : UInt8) : x ^^^ (x ^^^ y) = y := by rw [← UInt8.xor_assoc, UInt8.xor_self, UInt8.zero_xor]
/-- sealed bytes, changed so: not sealed any more -/
theorem chg_told (l : List UInt8) (a : Int) (m : Nat) (h : chgF (sealed l) a m 4 = true) (m' : List UInt8) : chgL (sealed l) a m 4 ≠ sealed m' := by
  intro he
  obtain ⟨S, hS⟩ : ∃ S, S = sealed l := ⟨_, rfl⟩
  obtain ⟨C, hC⟩ : ∃ C, C = chgL (sealed l) a m 4 := ⟨_, rfl⟩
  have hlen : S.length = C.length := by rw [hS, hC, chgL_length]
  have r1 : run 4294967295 S = steps 32 4294967295 := by rw [hS]; exact run_residue l
  have r2 : run 4294967295 C = steps 32 4294967295 := by rw [hC, he]; exact run_residue m'
  have r3 := run_lin S C 4294967295 4294967295 hlen
  rw [Nat.xor_self, r1, r2, Nat.xor_self] at r3
  have hD : ∀ i, (List.zipWith (· ^^^ ·) S C).getD i 0 = if i < S.length then wd a m 4 i else 0 := by
    intro i
    by_cases hi : i < S.length
    · rw [if_pos hi]
      have h1 : (List.zipWith (· ^^^ ·) S C)[i]? = some (S[i] ^^^ C[i]'(by omega)) := by
        rw [List.getElem?_zipWith, List.getElem?_eq_getElem hi, List.getElem?_eq_getElem (by omega : i < C.length)]
      simp only [List.getD, h1, Option.getD_some]
      have h2 := chgL_get S a m 4 i hi
      rw [hS] at h2
      rw [← hC, ← hS] at h2
      have h3 : C.getD i 0 = C[i]'(by omega) := by simp [List.getD, List.getElem?_eq_getElem (by omega : i < C.length)]
      have h4 : S.getD i 0 = S[i] := by simp [List.getD, List.getElem?_eq_getElem hi]
      rw [h3, h4] at h2
      rw [h2, xorself8]
    · rw [if_neg hi]
      simp [List.getD, List.getElem?_eq_none (show (List.zipWith (· ^^^ ·) S C).length ≤ i by simp; omega)]
  refine burst (List.zipWith (· ^^^ ·) S C) a.toNat (fun i hi => ?_) (fun i hi => ?_) ?_ r3
  · rw [hD]
    split
    · rw [wd, if_neg (by omega)]
    · rfl
  · rw [hD]
    split
    · rw [wd, if_neg (by omega)]
    · rfl
  · obtain ⟨i, hi, hw⟩ := chgF_some (sealed l) a m 4 h
    rw [← hS] at hi
    exact ⟨i, by rw [hD, if_pos hi]; exact hw⟩
end Go.Proofs.YtoooflagkhpnkaaDoor
