/- The walk of jotterlaw09.InboxNames. -/
import Derived.Test.YtjhemoekmlhlpaaProg
import Derived.Test.YtjhemoekmlhlpaaBase
namespace Go.Proofs.Ytjhemoekmlhlpaa
open Go Go.RowKit
theorem inboxNames_walk {w : World} : Calls Try.prog 3 #[] w fun e w' => e = .returned (.bool true) ∧ Fr [] w w' := by
  go_enter Try.func3, Try.ntmps3
  go_wp2
  go_ret
  exact ⟨rfl, Fr.refl _ _⟩
end Go.Proofs.Ytjhemoekmlhlpaa
