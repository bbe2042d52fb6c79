/- XOR of two bytes, as the walk spells it. -/
import Derived.Test.YtoooflagkhpnkaaDoorCrc
namespace Go.Proofs.YtoooflagkhpnkaaDoor
open Go Go.RowKit
theorem xor8 (x y : UInt8) : bits .xor .u8 (x.toNat : Int) (y.toNat : Int) = ((x ^^^ y).toNat : Int) := by
  rw [u8_xor_nat _ _ (u8lt x) (u8lt y), UInt8.toNat_xor]
end Go.Proofs.YtoooflagkhpnkaaDoor
