/- Small forms of the leaves' contracts: lengths as variables. -/
import Derived.Test.YtoooflagkhpnkaaLeafD
namespace Go.Proofs.Ytoooflagkhpnkaa
open Go Go.RowKit
set_option linter.unusedVariables false

theorem cut_at (a : Option Addr) (len cap k : Nat) (w : World) (hk : k = min len 600) (h0 : len ≤ cap) (hm : cap ≤ maxLen) :
    Calls Try.prog 4 #[.slice a len cap] w fun e w' => e = .returned (.slice a k cap) ∧ w = w' := by
  subst hk
  exact cut_any a len cap w h0 hm
theorem twin_at (a : Option Addr) (l : List UInt8) (n c : Nat) (w : World) (hn : n = l.length) (h : BytesAt w a l) (hm : l.length ≤ 281474976710656) :
    Calls Try.prog 5 #[.slice a n c] w (RetMade w l) := by
  subst hn
  exact twin_any a l c w h hm
end Go.Proofs.Ytoooflagkhpnkaa
