/- Small forms of the leaves' contracts: lengths as variables. -/
import Derived.Test.YtoooflagkhpnkaaDoorLeafD
namespace Go.Proofs.YtoooflagkhpnkaaDoor
open Go Go.RowKit
set_option linter.unusedVariables false

theorem cut_at (a : Option Addr) (len cap k : Nat) (w : World) (hk : k = min len 600) (h0 : len ≤ cap) (hm : cap ≤ maxLen) :
    Calls Tryd.prog 13 #[.slice a len cap] w fun e w' => e = .returned (.slice a k cap) ∧ w = w' := by
  subst hk
  exact cut_any a len cap w h0 hm
theorem twin_at (a : Option Addr) (l : List UInt8) (n c : Nat) (w : World) (hn : n = l.length) (h : BytesAt w a l) (hm : l.length ≤ 281474976710656) :
    Calls Tryd.prog 14 #[.slice a n c] w (RetMade w l) := by
  subst hn
  exact twin_any a l c w h hm
theorem same_at (a b : Option Addr) (la lb : List UInt8) (n m ca cb : Nat) (w : World) (hn : n = la.length) (hm : m = lb.length) (ha : BytesAt w a la) (hb : BytesAt w b lb) (h1 : n ≤ maxLen) (h2 : m ≤ maxLen) (r : Bool) (hr : decide (la = lb) = r) :
    Calls Tryd.prog 20 #[.slice a n ca, .slice b m cb] w fun e w' => e = .returned (.bool r) ∧ ∃ n, w' = w.drewN n := by
  subst hn; subst hm; subst hr
  exact same_any a b la lb ca cb w ha hb h1 h2

end Go.Proofs.YtoooflagkhpnkaaDoor
