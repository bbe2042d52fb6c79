/- The walk of jotterlaw01.OctetSums. -/
import Derived.Test.YtoooflagkhpnkaaDoorCrcRef
import Derived.Test.YtoooflagkhpnkaaDoorSmall
namespace Go.Proofs.YtoooflagkhpnkaaDoor
open Go Go.RowKit
set_option linter.unusedVariables false

theorem refSum_at (a : Option Addr) (l : List UInt8) (n c : Nat) (w : World) (hn : n = l.length) (h : BytesAt w a l) (hm : n ≤ 1000) :
    Calls Tryd.prog 16 #[.slice a n c] w fun e w' => e = .returned (.int .u32 (crc l : Int)) ∧ Fr [] w w' := by
  rw [← refSum_crc]
  exact refSum_any a l n c w hn h hm
set_option maxHeartbeats 1000000 in
theorem octetSums_walk (a : Option Addr) (la : List UInt8) (ca : Nat) {w : World} (ha : BytesAt w a la) (h1 : la.length ≤ ca) (m1 : ca ≤ maxLen) (ht : Tbl w) :
    Calls Tryd.prog 3 #[.slice a la.length ca] w fun e w' => e = .returned (.bool true) ∧ Fr [] w w' := by
  obtain ⟨n, hn⟩ : ∃ n, n = min la.length 600 := ⟨_, rfl⟩
  obtain ⟨l, hl⟩ : ∃ l, l = la.take n := ⟨_, rfl⟩
  have hnl : n = l.length := by rw [hl, List.length_take]; omega
  have hb : BytesAt w a l := by rw [hl]; exact ha.take n
  have hn6 : n ≤ 600 := by omega
  have HN := Lib.hid hn; have HL := Lib.hid hnl
  clear hn hnl hl ha
  go_enter Tryd.func3, Tryd.ntmps3
  go_wp2_with fail
  refine (cut_at _ _ _ _ _ HN.out h1 m1).mono ?_
  rintro e w1 ⟨rfl, rfl⟩
  go_wp2_with fail
  refine (twin_at _ l n _ _ HL.out hb (by have := HL.out; omega)).mono ?_
  rintro e w1 hr
  obtain ⟨g, rfl, hg, hr, hf⟩ := hr.open n HL.out
  go_wp2_with fail
  refine (sum_at _ l n _ _ HL.out (hb.fr0 hf) (by have := HL.out; unfold maxLen; omega) (ht.fr hf (by simp))).mono ?_
  rintro e w2 ⟨rfl, rfl⟩
  go_wp2_with fail
  refine (refSum_at _ l n _ _ HL.out (BytesAt.ofRow hr) (by omega)).mono ?_
  rintro e w2 ⟨rfl, hf2⟩
  go_wp2
  go_ret
  exact ⟨rfl, hf.trans0 hf2⟩
end Go.Proofs.YtoooflagkhpnkaaDoor
