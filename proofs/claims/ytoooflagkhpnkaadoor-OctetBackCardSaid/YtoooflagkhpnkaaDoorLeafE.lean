/- Contracts: octet.Seal. -/
import Derived.Test.YtoooflagkhpnkaaDoorLeafD
import Derived.Test.YtoooflagkhpnkaaDoorLeafB
namespace Go.Proofs.YtoooflagkhpnkaaDoor
open Go Go.RowKit
set_option linter.unusedVariables false

theorem sum_at (a : Option Addr) (l : List UInt8) (n c : Nat) (w : World) (hn : n = l.length) (h : BytesAt w a l) (hm : l.length ≤ maxLen) (ht : Tbl w) :
    Calls Tryd.prog 15 #[.slice a n c] w fun e w' => e = .returned (.int .u32 (crc l : Int)) ∧ w = w' := by
  subst hn
  exact sum_any a l c w h hm ht
def sealed (l : List UInt8) : List UInt8 := l ++ [b8 (crc l), b8 (crc l / 256), b8 (crc l / 65536), b8 (crc l / 16777216)]
theorem sealed_length (l : List UInt8) : (sealed l).length = l.length + 4 := by simp [sealed]

set_option maxHeartbeats 400000 in
theorem seal_any (a : Option Addr) (l : List UInt8) (n c : Nat) (w : World) (hn : n = l.length) (h : BytesAt w a l) (hm : l.length ≤ 281474976710000) (ht : Tbl w) :
    Calls Tryd.prog 18 #[.slice a n c] w (RetMade w (sealed l)) := by
  have HN := Lib.hid hn; clear hn
  have hs := crc_lt l
  go_enter Tryd.func18, Tryd.ntmps18
  go_wp2_with fail
  refine (sum_at a l n c _ HN.out h (by unfold maxLen; omega) ht).mono ?_
  rintro e w' ⟨rfl, rfl⟩
  obtain ⟨s, hsc⟩ : ∃ s, s = crc l := ⟨_, rfl⟩
  rw [← hsc] at hs ⊢
  have HS := Lib.hid hsc; clear hsc
  go_wp2_with fail
  refine (with_at a l n c _ [b8 s, b8 (s / 256), b8 (s / 65536), b8 (s / 16777216)] _ _ _ HN.out rfl (h.fr0 ((Fr.refl _ _).alloc _)) (BytesAt.lit _ _ _ _ (by simp [bs, b8_int]; omega)) (by simp; omega)).mono ?_
  intro e w' hr
  obtain ⟨v, rfl, hr⟩ := hr.returned
  go_wp2
  go_ret
  have e : sealed l = l ++ [b8 s, b8 (s / 256), b8 (s / 65536), b8 (s / 16777216)] := by rw [HS.out]; rfl
  rw [e]
  exact RetMade.fr ((Fr.refl _ _).alloc _) hr
end Go.Proofs.YtoooflagkhpnkaaDoor
