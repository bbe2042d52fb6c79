/- Contracts: octet.with, Put8, Put16, Put32, Seal. -/
import Derived.Test.YtoooflagkhpnkaaDoorLeafA
namespace Go.Proofs.YtoooflagkhpnkaaDoor
open Go Go.RowKit
set_option linter.unusedVariables false

theorem splice_bs (l m : List UInt8) (z : Value) : splice (splice (List.replicate (l.length + m.length) z) 0 (bs l)) l.length (bs m) = bs (l ++ m) := by
  rw [bs_append]
  unfold splice
  simp only [bs_length, List.take_zero, List.nil_append, Nat.zero_add, List.drop_replicate]
  rw [show l.length + m.length - l.length = m.length from by omega]
  rw [List.take_append_of_le_length (by simp [bs_length]), List.take_of_length_le (by simp [bs_length])]
  simp [bs_length]

set_option maxHeartbeats 400000 in
set_option maxRecDepth 10000 in
theorem with_any (a : Option Addr) (l : List UInt8) (c : Nat) (a' : Option Addr) (m : List UInt8) (c' : Nat) (w : World) (h : BytesAt w a l) (h' : BytesAt w a' m)
    (hm : l.length + m.length ≤ 281474976710656) :
    Calls Tryd.prog 47 #[.slice a l.length c, .slice a' m.length c'] w (RetMade w (l ++ m)) := by
  obtain ⟨n, hn⟩ : ∃ n, n = l.length := ⟨_, rfl⟩
  obtain ⟨k, hk⟩ : ∃ n, n = m.length := ⟨_, rfl⟩
  have hmn : n + k ≤ 281474976710656 := by omega
  obtain ⟨L, hL⟩ : ∃ L, L = bs l := ⟨_, rfl⟩
  obtain ⟨M, hM⟩ : ∃ M, M = bs m := ⟨_, rfl⟩
  have hLl : L.length = n := by rw [hL, bs_length, hn]
  have hMl : M.length = k := by rw [hM, bs_length, hk]
  obtain ⟨W1, hW1⟩ : ∃ W1, W1 = w.alloc (.cells (List.replicate (n + k) (Value.int .u8 0)).toArray 5) := ⟨_, rfl⟩
  obtain ⟨g, hg⟩ : ∃ g, g = w.heap.size := ⟨_, rfl⟩
  have F1 : Fr [] w W1 := by rw [hW1]; exact (Fr.refl _ _).alloc _
  have R1 : W1.heap[g]? = some (.cells (List.replicate (n + k) (Value.int .u8 0)).toArray 5 (0, 0)) := by rw [hW1, hg]; exact Row.new _ _ _
  have P1 : 0 < L.length → ∃ ad, a = some ad ∧ ∀ j v, L[j]? = some v → W1.cell? (ad.add j) = some v := by
    rw [hL]; exact fun hp => (h.fr0 F1).src (by simpa [bs_length] using hp)
  have P2 : ∀ W2, Below g w W2 → 0 < M.length → ∃ ad, a' = some ad ∧ ∀ j v, M[j]? = some v → W2.cell? (ad.add j) = some v := by
    rw [hM, hg]; exact fun W2 hb hp => (h'.fr0 (Fr.ofBelow hb)).src (by simpa [bs_length] using hp)
  have o1 : ∀ v ∈ L, v.oneCell' = true := by rw [hL]; exact bs_one l
  have o2 : ∀ v ∈ M, v.oneCell' = true := by rw [hM]; exact bs_one m
  have B1 : Below g w W1 := by rw [hg]; exact F1.below
  have hfin : splice (splice (List.replicate (n + k) (Value.int .u8 0)) 0 L) n M = bs (l ++ m) := by
    rw [hn, hk, hL, hM]; exact splice_bs l m _
  rw [← hn, ← hk]
  have H1 := Lib.hid hn; have H2 := Lib.hid hk; have HL := Lib.hid hLl; have HM := Lib.hid hMl; have HW := Lib.hid hW1; have HG := Lib.hid hg
  have HF := Lib.hid hfin; have HR1 := Lib.hid R1; have HP1 := Lib.hid P1; have HP2 := Lib.hid P2; have HO1 := Lib.hid o1; have HO2 := Lib.hid o2; have HB1 := Lib.hid B1
  clear hn hk hLl hMl hW1 hg hfin R1 P1 P2 o1 o2 B1 F1 hm hL hM h h'
  have hsz : (Tryd.prog.info? 5).map (·.size) = some 1 := by kernel_rfl
  have HS := Lib.hid hsz; clear hsz
  by_cases hk0 : k = 0
  · have hM0 : M = [] := List.eq_nil_of_length_eq_zero (by rw [HM.out]; exact hk0)
    subst hk0
    rw [Nat.add_zero] at HW HF HR1
    have HM0 := Lib.hid hM0; clear hM0
    go_enter Tryd.func47, Tryd.ntmps47
    go_wp2_with (first
      | (refine wpList_make rfl (.tmp 10) (.tmp 10) _ 5 rfl Tryd.underlying22 (.int .u8 0) 1 infoU8 rfl n rfl rfl (by omega) (by unfold maxLen; omega) ?_; rw [← HG.out, ← HW.out])
      | (refine wpList_copy_splice rfl (.tmp 13) (.tmp 14) 22 22 rfl 5 Tryd.underlying22 HS.out (some ⟨g, 0, none⟩) a n n n c rfl rfl g 0 _ 5 HR1.out L (by rw [HL.out]; exact (Nat.min_self _).symm) (fun hp => ⟨rfl, HP1.out hp⟩) (by simp [HL.out]) HO1.out g w HB1.out (Nat.le_refl _) ?_; intro W2 HG2 hB2; have HB2 := Lib.hid hB2; clear hB2; rw [HL.out])
      | (refine wpList_copy_nothing rfl (.tmp 16) (.tmp 17) 22 22 rfl 5 Tryd.underlying22 HS.out _ _ _ _ _ _ rfl rfl (by simp) ?_))
    go_ret
    refine ⟨g, ?_, Nat.le_of_eq HG.out.symm, ?_, Fr.ofBelow (by rw [← HG.out]; exact HB2.out)⟩
    · have e : (l ++ m).length = n := by rw [List.length_append, ← H1.out, ← H2.out, Nat.add_zero]
      rw [e]; rfl
    · have e := HF.out
      rw [HM0.out] at e
      have e2 : splice (splice (List.replicate n (Value.int .u8 0)) 0 L) n [] = splice (List.replicate n (Value.int .u8 0)) 0 L := by simp [splice]
      rw [e2] at e
      have := HG2.out
      rw [e] at this
      exact this
  · go_enter Tryd.func47, Tryd.ntmps47
    go_wp2_with (first
      | (refine wpList_make rfl (.tmp 10) (.tmp 10) _ 5 rfl Tryd.underlying22 (.int .u8 0) 1 infoU8 rfl (n + k) rfl rfl (by omega) (by unfold maxLen; omega) ?_; rw [← HG.out, ← HW.out])
      | (refine wpList_copy_splice rfl (.tmp 13) (.tmp 14) 22 22 rfl 5 Tryd.underlying22 HS.out (some ⟨g, 0, none⟩) a (n + k) (n + k) n c rfl rfl g 0 _ 5 HR1.out L (by rw [HL.out]; exact (Nat.min_eq_left (by omega)).symm) (fun hp => ⟨rfl, HP1.out hp⟩) (by simp [HL.out]) HO1.out g w HB1.out (Nat.le_refl _) ?_; intro W2 HG2 hB2; have HB2 := Lib.hid hB2; clear hB2; rw [HL.out])
      | (refine wpList_copy_splice rfl (.tmp 16) (.tmp 17) 22 22 rfl 5 Tryd.underlying22 HS.out (some ⟨g, n, none⟩) a' k k k c' rfl rfl g n _ 5 HG2.out M (by rw [HM.out]; exact (Nat.min_self _).symm) (fun hp => ⟨rfl, HP2.out W2 HB2.out hp⟩) (by rw [length_splice _ _ _ (by simp [HL.out]), HM.out]; simp) HO2.out g w HB2.out (Nat.le_refl _) ?_; intro W3 HG3 hB3; have HB3 := Lib.hid hB3; clear hB3; rw [HM.out]))
    go_ret
    refine ⟨g, ?_, Nat.le_of_eq HG.out.symm, ?_, Fr.ofBelow (by rw [← HG.out]; exact HB3.out)⟩
    · have e : (l ++ m).length = n + k := by rw [List.length_append, ← H1.out, ← H2.out]
      rw [e]; rfl
    · have := HG3.out
      rw [HF.out] at this
      exact this
end Go.Proofs.YtoooflagkhpnkaaDoor
