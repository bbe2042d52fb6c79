/- The sum is linear: sums add up by XOR. Plain: no program. -/
import Derived.Test.YtoooflagkhpnkaaDoorCrc
namespace Go.Proofs.YtoooflagkhpnkaaDoor
open Go Go.RowKit

theorem xor_lc (a b c : Nat) : a ^^^ (b ^^^ c) = b ^^^ (a ^^^ c) := by
  rw [← Nat.xor_assoc, Nat.xor_comm a b, Nat.xor_assoc]
theorem tbl_lin (i j : Nat) (hi : i < 16) (hj : j < 16) : tbl (i ^^^ j) = tbl i ^^^ tbl j := by
  have : ∀ i j : Fin 16, tbl (i.val ^^^ j.val) = tbl i.val ^^^ tbl j.val := by decide
  exact this ⟨i, hi⟩ ⟨j, hj⟩
theorem nib_lin (x y : Nat) : nib (x ^^^ y) = nib x ^^^ nib y := by
  unfold nib
  have e1 : (x ^^^ y) / 16 = x / 16 ^^^ y / 16 := by
    have := Nat.shiftRight_xor_distrib (a := x) (b := y) (i := 4)
    simpa [Nat.shiftRight_eq_div_pow] using this
  rw [e1, Nat.and_xor_distrib_right, tbl_lin _ _ (Nat.and_lt_two_pow (n := 4) _ (by omega)) (Nat.and_lt_two_pow (n := 4) _ (by omega))]
  simp only [Nat.xor_assoc, xor_lc]
theorem feed_lin (r s : Nat) (x y : UInt8) : feed (r ^^^ s) (x ^^^ y) = feed r x ^^^ feed s y := by
  unfold feed
  rw [← nib_lin, ← nib_lin, UInt8.toNat_xor]
  simp only [Nat.xor_assoc, xor_lc]
theorem run_lin : ∀ (a b : List UInt8) (r s : Nat), a.length = b.length → run (r ^^^ s) (List.zipWith (· ^^^ ·) a b) = run r a ^^^ run s b
  | [], [], _, _, _ => rfl
  | x :: a, y :: b, r, s, h => by
    have ih := run_lin a b (feed r x) (feed s y) (by simpa using h)
    have e : run (r ^^^ s) (List.zipWith (· ^^^ ·) (x :: a) (y :: b)) = run (feed (r ^^^ s) (x ^^^ y)) (List.zipWith (· ^^^ ·) a b) := rfl
    rw [e, feed_lin, ih]
    rfl
  | [], _ :: _, _, _, h => by simp at h
  | _ :: _, [], _, _, h => by simp at h
def xor3 (a b c : List UInt8) : List UInt8 := List.zipWith (· ^^^ ·) (List.zipWith (· ^^^ ·) a b) c
theorem crc_xor3 (a b c : List UInt8) (h : a.length = b.length) (h' : a.length = c.length) : crc (xor3 a b c) = crc a ^^^ crc b ^^^ crc c := by
  unfold crc xor3
  have e := run_lin (List.zipWith (· ^^^ ·) a b) c (4294967295 ^^^ 4294967295) 4294967295 (by simp; omega)
  rw [run_lin a b 4294967295 4294967295 h] at e
  have e0 : 4294967295 ^^^ 4294967295 ^^^ 4294967295 = 4294967295 := by decide
  rw [e0] at e
  rw [e]
  generalize run 4294967295 a = A
  generalize run 4294967295 b = B
  generalize run 4294967295 c = C
  have e1 : ∀ x, 4294967295 ^^^ (4294967295 ^^^ x) = x := fun x => by rw [← Nat.xor_assoc, Nat.xor_self, Nat.zero_xor]
  simp only [Nat.xor_assoc]
  rw [xor_lc A 4294967295 (B ^^^ _), e1, xor_lc B 4294967295 C, xor_lc A 4294967295 _]
theorem crc_zero : crc [0] = 3523407757 := by decide
end Go.Proofs.YtoooflagkhpnkaaDoor
