/- The walk of jotterlaw01.OctetTold. -/
import Derived.Test.YtoooflagkhpnkaaDoorChange
import Derived.Test.YtoooflagkhpnkaaDoorChangeW
namespace Go.Proofs.YtoooflagkhpnkaaDoor
open Go Go.RowKit
set_option linter.unusedVariables false

theorem open_seal (a : Option Addr) (m : List UInt8) (k n c : Nat) (w : World) (hk : k = m.length) (hn : n = k + 4) (hc : n ≤ c) (hc2 : c ≤ maxLen) (h : BytesAt w a (sealed m)) (hm : n ≤ 281474976710000) (ht : Tbl w) :
    Calls Tryd.prog 19 #[.slice a n c] w fun e w' => ∃ g, e = .returned (.tuple #[.slice (some ⟨g, 0, none⟩) k k, .nilIface]) ∧ Row w' g (bs m) 5 ∧ Fr [] w w' := by
  rw [sealed_sum] at h
  refine (open_long a m _ n k c w hk (by simp) hn hc hc2 h hm ht).mono ?_
  rintro e w' ⟨hf, ⟨g, _, he, _, hr⟩ | ⟨v, hne, _⟩⟩
  · exact ⟨g, he, hr, hf⟩
  · exact absurd (sealed_sum m).symm hne
/-- changed sealed bytes: opened just if nothing was changed -/
theorem open_chg (a : Option Addr) (l : List UInt8) (at_ : Int) (m k n c : Nat) (w : World) (hk : k = l.length) (hn : n = k + 4) (hc : n ≤ c) (hc2 : c ≤ maxLen) (h : BytesAt w a (chgL (sealed l) at_ m 4)) (hm : n ≤ 281474976710000) (ht : Tbl w) :
    Calls Tryd.prog 19 #[.slice a n c] w fun e w' => Fr [] w w' ∧
      ((∃ g, chgF (sealed l) at_ m 4 = false ∧ e = .returned (.tuple #[.slice (some ⟨g, 0, none⟩) k k, .nilIface]) ∧ Row w' g (bs l) 5) ∨
       (∃ v, chgF (sealed l) at_ m 4 = true ∧ e = .returned (.tuple #[.slice none 0 0, v]) ∧ IsFault w' v k 11)) := by
  cases hf : chgF (sealed l) at_ m 4 with
  | false =>
    rw [chgF_none _ _ _ _ hf] at h
    refine (open_seal a l k n c w hk hn hc hc2 h hm ht).mono ?_
    rintro e w' ⟨g, he, hr, hfr⟩
    exact ⟨hfr, .inl ⟨g, rfl, he, hr⟩⟩
  | true =>
    obtain ⟨C, hC⟩ : ∃ C, C = chgL (sealed l) at_ m 4 := ⟨_, rfl⟩
    have hCl : C.length = k + 4 := by rw [hC, chgL_length, sealed_length, hk]
    rw [← hC] at h
    refine (open_long a (C.take k) (C.drop k) n k c w (by rw [List.length_take]; omega) (by rw [List.length_drop]; omega) hn hc hc2 (by rw [List.take_append_drop]; exact h) hm ht).mono ?_
    rintro e w' ⟨hfr, ⟨g, hs, _⟩ | ⟨v, _, he, hi⟩⟩
    · rw [List.take_append_drop, hC] at hs
      exact absurd hs (chg_told l at_ m hf _)
    · exact ⟨hfr, .inr ⟨v, rfl, he, hi⟩⟩

set_option maxRecDepth 100000 in
set_option maxHeartbeats 4000000 in
theorem octetTold_walk (a : Option Addr) (la : List UInt8) (ca : Nat) {w : World} (ha : BytesAt w a la) (h1 : la.length ≤ ca) (m1 : ca ≤ maxLen) (x : Int) (hx : (Lit.int .i64 x).wf = true) (y : Int) (hy : (Lit.int .u32 y).wf = true) (ht : Tbl w) (he : ErrT w) :
    Calls Tryd.prog 8 #[.slice a la.length ca, .int .i64 x, .int .u32 y] w fun e w' => e = .returned (.bool true) ∧ Fr [] w w' := by
  obtain ⟨n, hn⟩ : ∃ n, n = min la.length 600 := ⟨_, rfl⟩
  obtain ⟨l, hl⟩ : ∃ l, l = la.take n := ⟨_, rfl⟩
  have hnl : n = l.length := by rw [hl, List.length_take]; omega
  have hbl : BytesAt w a l := by rw [hl]; exact ha.take n
  have hn6 : n ≤ 600 := by omega
  have hnc : n ≤ ca := by omega
  obtain ⟨m, rfl⟩ : ∃ m : Nat, y = (m : Int) := ⟨y.toNat, by have := bounds_u32 hy; omega⟩
  have hm : m < 4294967296 := by have := bounds_u32 hy; omega
  have HN := Lib.hid hn; have HL := Lib.hid hnl
  have H1 := Lib.hid h1; have M1 := Lib.hid m1; have HBL := Lib.hid hbl; have HTT := Lib.hid ht; have HE := Lib.hid he
  clear hn hnl hl ha h1 m1 hbl ht he hy
  obtain ⟨n4, hn4⟩ : ∃ n4, n4 = n + 4 := ⟨_, rfl⟩
  have hn4i : (n : Int) + 4 = (n4 : Int) := by omega
  have hn604 : n4 ≤ 604 := by omega
  have tb0 : ((n4 : Int) != (n : Int) + 4) = false := by rw [bne_eq_false_iff_eq]; omega
  have HN4 := Lib.hid hn4
  clear hn4
  have hb := bounds_i64 hx
  clear hx
  go_enter Tryd.func8, Tryd.ntmps8
  go_wp2_with fail
  refine (cut_at _ _ _ _ _ HN.out H1.out M1.out).mono ?_
  rintro e w1 ⟨rfl, rfl⟩
  go_wp2_with fail
  refine (twin_at _ l n _ _ HL.out HBL.out (by have := HL.out; omega)).mono ?_
  rintro e w1 hr
  obtain ⟨g, rfl, hg, hr, hf⟩ := hr.open n HL.out
  have HF := Lib.hid hf
  have HR := Lib.hid (BytesAt.ofRow hr)
  clear hr hf hg
  go_wp2_with fail
  refine (seal_any _ l n n _ HL.out HR.out (by have := HL.out; omega) (HTT.out.fr HF.out (by simp))).mono ?_
  rintro e w3 hr
  obtain ⟨g3, rfl, hg3, hr3, hf3⟩ := hr.open n4 (by rw [sealed_length, ← HL.out]; exact HN4.out)
  have HF3 := Lib.hid (HF.out.trans0 hf3)
  have HR3 := Lib.hid hr3
  clear hr hf3 hr3 hg3
  go_wp2_with fail
  refine (twin_at _ (sealed l) n4 _ _ (by rw [sealed_length, ← HL.out]; exact HN4.out) (BytesAt.ofRow HR3.out) (by rw [sealed_length, ← HL.out, ← HN4.out]; omega)).mono ?_
  rintro e w4 hr
  obtain ⟨g4, rfl, hg4, hr4, hf4⟩ := hr.open n4 (by rw [sealed_length, ← HL.out]; exact HN4.out)
  have HF4 := Lib.hid (HF3.out.trans0 hf4)
  have HR4 := Lib.hid (BytesAt.ofRow hr4)
  have HR3b := Lib.hid (HR3.out.fr hf4 (by simp))
  clear hr hf4 hr4 hg4
  go_wp2_with fail
  refine (open_seal _ l n n4 n4 _ HL.out HN4.out (Nat.le_refl _) (by unfold maxLen; omega) HR4.out (by omega) (HTT.out.fr HF4.out (by simp))).mono ?_
  rintro e w5 ⟨g5, rfl, hr5, hf5⟩
  have HF5 := Lib.hid (HF4.out.trans0 hf5)
  have HR3c := Lib.hid (HR3b.out.fr hf5 (by simp))
  have HR5 := Lib.hid hr5
  clear hr5 hf5
  go_wp2_with fail
  refine (same_at _ a _ l n n n ca _ HL.out HL.out (BytesAt.ofRow HR5.out) (HBL.out.fr0 HF5.out) (by unfold maxLen; omega) (by unfold maxLen; omega) true (decide_eq_true rfl)).mono ?_
  rintro e w6 ⟨rfl, nd, rfl⟩
  have HF6 := Lib.hid (HF5.out.drewN nd)
  have HR6 := Lib.hid (HR3c.out.drewN nd)
  by_cases hx1 : -4 ≤ x
  · by_cases hx2 : x ≤ (n4 : Int)
    · go_wp2_with fail
      refine (change_any _ (sealed l) n4 n4 x m _ (by rw [sealed_length, ← HL.out]; exact HN4.out) (BytesAt.ofRow HR6.out) (by omega) hx1 hx2 hm).mono ?_
      rintro e w7 ⟨g7, rfl, hg7, hr7, hf7⟩
      have HF7 := Lib.hid (HF6.out.trans0 hf7)
      have HR7 := Lib.hid hr7
      clear hr7 hf7 hg7
      go_wp2_with fail
      refine (open_chg _ l x m n n4 n4 _ HL.out HN4.out (Nat.le_refl _) (by unfold maxLen; omega) (BytesAt.ofRow HR7.out) (by omega) (HTT.out.fr HF7.out (by simp))).mono ?_
      rintro e w8 ⟨hf8, ⟨g8, hF, rfl, hr8⟩ | ⟨v, hF, rfl, hi⟩⟩
      · rw [hF]
        have HF8 := Lib.hid (HF7.out.trans0 hf8)
        have HR8 := Lib.hid hr8
        clear hF hf8 hr8
        go_wp2_with fail
        refine (same_at _ a _ l n n n ca _ HL.out HL.out (BytesAt.ofRow HR8.out) (HBL.out.fr0 HF8.out) (by unfold maxLen; omega) (by unfold maxLen; omega) true (decide_eq_true rfl)).mono ?_
        rintro e w9 ⟨rfl, nd9, rfl⟩
        go_wp2
        go_ret
        exact ⟨rfl, HF8.out.drewN nd9⟩
      · rw [hF]
        have HF8 := Lib.hid (HF7.out.trans0 hf8)
        have HI := Lib.hid hi
        obtain ⟨gv, rfl, _⟩ := hi
        clear hF hf8
        go_wp2_with fail
        refine (told_fault _ n 11 _ (HE.out.fr HF8.out (by simp)) HI.out (by decide)).mono ?_
        rintro e w9 ⟨rfl, hf9⟩
        go_wp2
        go_ret
        exact ⟨rfl, HF8.out.trans0 hf9⟩
    · go_wp2_with fail
      go_ret
      exact ⟨rfl, HF6.out⟩
  · go_wp2_with fail
    go_ret
    exact ⟨rfl, HF6.out⟩
end Go.Proofs.YtoooflagkhpnkaaDoor
