/- The sum as numbers: feed (a byte by the table), run, crc. Plain: no program. -/
import Derived.WalkKit
import Derived.Lib.Hide
namespace Go.Proofs.YtoooflagkhpnkaaDoor
open Go Go.RowKit

def tblL : List Nat := [0x00000000, 0x1db71064, 0x3b6e20c8, 0x26d930ac, 0x76dc4190, 0x6b6b51f4, 0x4db26158, 0x5005713c,
  0xedb88320, 0xf00f9344, 0xd6d6a3e8, 0xcb61b38c, 0x9b64c2b0, 0x86d3d2d4, 0xa00ae278, 0xbdbdf21c]
def tbl (i : Nat) : Nat := tblL.getD i 0
/-- four steps of the register -/
def nib (r : Nat) : Nat := (r / 16) ^^^ tbl (r &&& 15)
def feed (r : Nat) (c : UInt8) : Nat := nib (nib (r ^^^ c.toNat))
def run (r : Nat) (l : List UInt8) : Nat := l.foldl feed r
def crc (l : List UInt8) : Nat := 4294967295 ^^^ run 4294967295 l

theorem tbl_lt (i : Nat) (h : i < 16) : tbl i < 4294967296 := by
  have : ∀ i : Fin 16, tbl i.val < 4294967296 := by decide
  exact this ⟨i, h⟩
theorem u8lt (c : UInt8) : c.toNat < 256 := c.toNat_lt
theorem nib_lt (r : Nat) (h : r < 4294967296) : nib r < 4294967296 :=
  Nat.xor_lt_two_pow (n := 32) (by omega) (tbl_lt _ (Nat.and_lt_two_pow (n := 4) _ (by omega)))
theorem xor_u8_lt (r : Nat) (c : UInt8) (h : r < 4294967296) : r ^^^ c.toNat < 4294967296 :=
  Nat.xor_lt_two_pow (n := 32) (by omega) (by have := u8lt c; omega)
theorem feed_lt (r : Nat) (c : UInt8) (h : r < 4294967296) : feed r c < 4294967296 := nib_lt _ (nib_lt _ (xor_u8_lt r c h))
theorem run_lt (l : List UInt8) : ∀ r, r < 4294967296 → run r l < 4294967296 := by
  induction l with
  | nil => intro r h; exact h
  | cons c l ih => intro r h; exact ih _ (feed_lt r c h)
theorem run_take (r : Nat) (l : List UInt8) (k : Nat) (hk : k < l.length) : run r (l.take (k + 1)) = feed (run r (l.take k)) l[k] := by
  rw [List.take_succ_eq_append_getElem hk]
  unfold run
  rw [List.foldl_append]
  rfl
theorem crc_lt (l : List UInt8) : crc l < 4294967296 := Nat.xor_lt_two_pow (n := 32) (by omega) (run_lt l _ (by omega))

/-- what the walk meets at a byte -/
theorem xor_walk (r : Nat) (c : UInt8) (h : r < 4294967296) : ∃ x, Hid (x = r ^^^ c.toNat) ∧ x < 4294967296 ∧ bits .xor .u32 (r : Int) ((c.toNat : Int) % 4294967296) = (x : Int) := by
  refine ⟨_, Lib.hid rfl, xor_u8_lt r c h, ?_⟩
  have := u8lt c
  rw [Int.emod_eq_of_lt (by omega) (by omega), u32_xor_nat _ _ h (by omega)]
/-- what the walk meets at half a byte -/
theorem nib_walk (x : Nat) (h : x < 4294967296) : ∃ y z : Nat, y < 16 ∧ bits .and .u32 (x : Int) 15 = (y : Int) ∧ bits .xor .u32 ((x : Int) / 16) (tbl y : Int) = (z : Int) ∧ z < 4294967296 ∧ Hid (z = nib x) := by
  refine ⟨x &&& 15, nib x, Nat.and_lt_two_pow (n := 4) _ (by omega), u32_and_nat x 15 h (by omega), ?_, nib_lt x h, Lib.hid rfl⟩
  have e : ((x : Int) / 16) = ((x / 16 : Nat) : Int) := by omega
  rw [e, u32_xor_nat _ _ (by omega) (tbl_lt _ (Nat.and_lt_two_pow (n := 4) _ (by omega)))]
  rfl
theorem not_walk (r : Nat) (h : r < 4294967296) : bits .xor .u32 4294967295 (r : Int) = ((4294967295 ^^^ r : Nat) : Int) := u32_xor_nat 4294967295 r (by omega) h
end Go.Proofs.YtoooflagkhpnkaaDoor
