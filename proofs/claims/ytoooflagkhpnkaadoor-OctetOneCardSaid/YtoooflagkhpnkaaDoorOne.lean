/- The walk of jotterlaw01.OctetOne. -/
import Derived.Test.YtoooflagkhpnkaaDoorTold
namespace Go.Proofs.YtoooflagkhpnkaaDoor
open Go Go.RowKit
set_option linter.unusedVariables false

set_option maxRecDepth 100000 in
set_option maxHeartbeats 4000000 in
theorem octetOne_walk (a : Option Addr) (la : List UInt8) (ca : Nat) {w : World} (ha : BytesAt w a la) (h1 : la.length ≤ ca) (m1 : ca ≤ maxLen) (ht : Tbl w) (he : ErrT w) :
    Calls Tryd.prog 9 #[.slice a la.length ca] w fun e w' => e = .returned (.bool true) ∧ Fr [] w w' := by
  obtain ⟨n, hn⟩ : ∃ n, n = min la.length 600 := ⟨_, rfl⟩
  obtain ⟨l, hl⟩ : ∃ l, l = la.take n := ⟨_, rfl⟩
  have hnl : n = l.length := by rw [hl, List.length_take]; omega
  have hbl : BytesAt w a l := by rw [hl]; exact ha.take n
  have hn6 : n ≤ 600 := by omega
  have hnc : n ≤ ca := by omega
  have HN := Lib.hid hn; have HL := Lib.hid hnl
  have H1 := Lib.hid h1; have M1 := Lib.hid m1; have HBL := Lib.hid hbl; have HTT := Lib.hid ht; have HE := Lib.hid he
  clear hn hnl hl ha h1 m1 hbl ht he
  by_cases h4 : n < 4
  · go_enter Tryd.func9, Tryd.ntmps9
    go_wp2_with fail
    refine (cut_at _ _ _ _ _ HN.out H1.out M1.out).mono ?_
    rintro e w1 ⟨rfl, rfl⟩
    go_wp2_with fail
    refine (twin_at _ l n _ _ HL.out HBL.out (by have := HL.out; omega)).mono ?_
    rintro e w1 hr
    obtain ⟨g, rfl, hg, hr, hf⟩ := hr.open n HL.out
    have HF := Lib.hid hf
    clear hr hf hg
    go_wp2_with fail
    refine (open_short _ n n _ h4).mono ?_
    rintro e w2 ⟨v, rfl, hi, hf⟩
    have HI := Lib.hid hi; have HF2 := Lib.hid (HF.out.trans0 hf)
    obtain ⟨gv, rfl, _⟩ := hi
    clear hf
    go_wp2_with fail
    refine (told_fault _ n 10 _ (HE.out.fr HF2.out (by simp)) HI.out (by decide)).mono ?_
    rintro e w3 ⟨rfl, hf⟩
    have HF3 := Lib.hid (HF2.out.trans0 hf)
    clear hf
    go_wp2
    go_ret
    exact ⟨rfl, HF3.out⟩
  · obtain ⟨k, hk⟩ : ∃ k, k = n - 4 := ⟨_, rfl⟩
    obtain ⟨m, hm⟩ : ∃ m, m = l.take k := ⟨_, rfl⟩
    obtain ⟨t, htl⟩ : ∃ t, t = l.drop k := ⟨_, rfl⟩
    have hnk : n = k + 4 := by omega
    have hkm : k = m.length := by rw [hm, List.length_take]; have := HL.out; omega
    have ht4 : t.length = 4 := by rw [htl, List.length_drop]; have := HL.out; omega
    have hmt : l = m ++ t := by rw [hm, htl, List.take_append_drop]
    have e0 : ((n : Int) - 4) = (k : Int) := by omega
    have hk4 : k ≤ n := by omega
    have hkc : k ≤ ca := by omega
    have HNK := Lib.hid hnk; have HKM := Lib.hid hkm; have HT4 := Lib.hid ht4; have HMT := Lib.hid hmt
    have hbm : BytesAt w a m := by rw [hm]; exact HBL.out.take k
    have HBM := Lib.hid hbm
    clear hk hm htl hnk hkm ht4 hmt hbm
    have h4' : 4 ≤ n := by omega
    go_enter Tryd.func9, Tryd.ntmps9
    go_wp2_with fail
    refine (cut_at _ _ _ _ _ HN.out H1.out M1.out).mono ?_
    rintro e w1 ⟨rfl, rfl⟩
    go_wp2_with fail
    refine (twin_at _ l n _ _ HL.out HBL.out (by have := HL.out; omega)).mono ?_
    rintro e w1 hr
    obtain ⟨g, rfl, hg, hr, hf⟩ := hr.open n HL.out
    have HF := Lib.hid hf
    have HR := Lib.hid (BytesAt.ofRow hr)
    clear hr hf hg
    go_wp2_with fail
    refine (open_long _ m t n k n _ HKM.out HT4.out HNK.out (Nat.le_refl _) (by unfold maxLen; omega) (by rw [← HMT.out]; exact HR.out) (by omega) (HTT.out.fr HF.out (by simp))).mono ?_
    rintro e w2 ⟨hf, ⟨g2, hs, rfl, hg2, hr2⟩ | ⟨v, hs, rfl, hi⟩⟩
    · have HF2 := Lib.hid (HF.out.trans0 hf)
      have HS := Lib.hid hs; have HR2 := Lib.hid hr2
      clear hf hs hr2 hg2
      go_wp2_with fail
      refine (seal_any _ m k k _ HKM.out (BytesAt.ofRow HR2.out) (by have := HKM.out; omega) (HTT.out.fr HF2.out (by simp))).mono ?_
      rintro e w3 hr
      obtain ⟨g3, rfl, hg3, hr3, hf3⟩ := hr.open n (by rw [sealed_length, ← HKM.out]; exact HNK.out)
      have HF3 := Lib.hid (HF2.out.trans0 hf3)
      have HR3 := Lib.hid hr3
      clear hr hf3 hr3 hg3
      go_wp2_with fail
      refine (same_at _ a _ l n n n ca _ (by rw [sealed_length, ← HKM.out]; exact HNK.out) HL.out (BytesAt.ofRow HR3.out) (HBL.out.fr0 HF3.out) (by unfold maxLen; omega) (by unfold maxLen; omega) true (decide_eq_true (by rw [HMT.out]; exact HS.out.symm))).mono ?_
      rintro e w4 ⟨rfl, nd, rfl⟩
      go_wp2
      go_ret
      exact ⟨rfl, HF3.out.drewN _⟩
    · have HF2 := Lib.hid (HF.out.trans0 hf)
      have HS := Lib.hid hs
      have HI := Lib.hid hi
      obtain ⟨gv, rfl, _⟩ := hi
      clear hf hs
      go_wp2_with fail
      refine (seal_any _ m k ca _ HKM.out (HBM.out.fr0 HF2.out) (by have := HKM.out; omega) (HTT.out.fr HF2.out (by simp))).mono ?_
      rintro e w3 hr
      obtain ⟨g3, rfl, hg3, hr3, hf3⟩ := hr.open n (by rw [sealed_length, ← HKM.out]; exact HNK.out)
      have HI3 := Lib.hid (HI.out.fr0 hf3)
      have HF3 := Lib.hid (HF2.out.trans0 hf3)
      have HR3 := Lib.hid hr3
      clear hr hf3 hr3 hg3
      go_wp2_with fail
      refine (told_fault _ k 11 _ (HE.out.fr HF3.out (by simp)) HI3.out (by decide)).mono ?_
      rintro e w4 ⟨rfl, hf⟩
      have HF4 := Lib.hid (HF3.out.trans0 hf)
      have HR4 := Lib.hid (HR3.out.fr hf (by simp))
      clear hf
      go_wp2_with fail
      refine (same_at _ a _ l n n n ca _ (by rw [sealed_length, ← HKM.out]; exact HNK.out) HL.out (BytesAt.ofRow HR4.out) (HBL.out.fr0 HF4.out) (by unfold maxLen; omega) (by unfold maxLen; omega) false (decide_eq_false (fun hh => HS.out (by rw [hh]; exact HMT.out.symm)))).mono ?_
      rintro e w5 ⟨rfl, nd, rfl⟩
      go_wp2
      go_ret
      exact ⟨rfl, HF4.out.drewN _⟩
end Go.Proofs.YtoooflagkhpnkaaDoor
