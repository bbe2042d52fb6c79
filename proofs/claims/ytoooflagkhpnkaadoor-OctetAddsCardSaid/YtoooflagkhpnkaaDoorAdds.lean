/- The walk of jotterlaw01.OctetAdds: it returns true and writes nothing that was there. -/
import Derived.Test.YtoooflagkhpnkaaDoorLeafD
import Derived.Test.YtoooflagkhpnkaaDoorCrcLin
import Derived.RegionTactic
import Derived.Deep.RegionWith
namespace Go.Proofs.YtoooflagkhpnkaaDoor
open Go Go.RowKit
set_option linter.unusedVariables false

theorem cut_at (a : Option Addr) (len cap k : Nat) (w : World) (hk : k = min len 600) (h0 : len ≤ cap) (hm : cap ≤ maxLen) :
    Calls Tryd.prog 13 #[.slice a len cap] w fun e w' => e = .returned (.slice a k cap) ∧ w = w' := by
  subst hk
  exact cut_any a len cap w h0 hm

theorem sum_quiet (a : Option Addr) (l : List UInt8) (n c : Nat) (w : World) (hn : n = l.length) (h : BytesAt w a l) (hm : l.length ≤ maxLen) (ht : Tbl w) (s : Nat) (hs : crc l = s) :
    Calls Tryd.prog 15 #[.slice a n c] w fun e w' => e = .returned (.int .u32 (s : Int)) ∧ w' = w := by
  subst hs
  exact (sum_at a l n c w hn h hm ht).mono fun e w' ⟨h, h'⟩ => ⟨h, h'.symm⟩

theorem xor8 (x y : UInt8) : bits .xor .u8 (x.toNat : Int) (y.toNat : Int) = ((x ^^^ y).toNat : Int) := by
  rw [u8_xor_nat _ _ (u8lt x) (u8lt y), UInt8.toNat_xor]
theorem xor8_3 (x y z : UInt8) : ∃ (t : Nat) (v : UInt8), bits .xor .u8 (x.toNat : Int) (y.toNat : Int) = (t : Int) ∧ bits .xor .u8 (t : Int) (z.toNat : Int) = (v.toNat : Int) ∧ Hid (v = x ^^^ y ^^^ z) :=
  ⟨_, _, xor8 x y, xor8 (x ^^^ y) z, Lib.hid rfl⟩
theorem fill_step' (l : List UInt8) (k n : Nat) (c : UInt8) (hn : n = l.length) (hk : k < l.length) (hc : l[k] = c) :
    (bs (l.take k) ++ List.replicate (n - k) (Value.int .u8 0)).set k (.int .u8 (c.toNat : Int)) = bs (l.take (k + 1)) ++ List.replicate (n - (k + 1)) (Value.int .u8 0) := by
  subst hc
  exact fill_step l k n hn hk
theorem xor3_length (A B C : List UInt8) (n : Nat) (hA : n = A.length) (hB : n = B.length) (hC : n = C.length) : n = (xor3 A B C).length := by
  simp [xor3]; omega

set_option maxRecDepth 100000 in
set_option maxHeartbeats 1000000 in
theorem octetAdds_walk (a : Option Addr) (la : List UInt8) (ca : Nat) {w : World} (ha : BytesAt w a la) (h1 : la.length ≤ ca) (m1 : ca ≤ maxLen) (b : Option Addr) (lb : List UInt8) (cb : Nat) (hb : BytesAt w b lb) (h2 : lb.length ≤ cb) (m2 : cb ≤ maxLen) (c : Option Addr) (lc : List UInt8) (cc : Nat) (hc : BytesAt w c lc) (h3 : lc.length ≤ cc) (m3 : cc ≤ maxLen)
    (ht : Tbl w) :
    Calls Tryd.prog 4 #[.slice a la.length ca, .slice b lb.length cb, .slice c lc.length cc] w fun e w' => e = .returned (.bool true) ∧ Fr [] w w' := by
  unfold maxLen at m1 m2 m3
  obtain ⟨na, hna⟩ : ∃ n, n = la.length := ⟨_, rfl⟩
  obtain ⟨nb, hnb⟩ : ∃ n, n = lb.length := ⟨_, rfl⟩
  obtain ⟨nc, hnc⟩ : ∃ n, n = lc.length := ⟨_, rfl⟩
  obtain ⟨n1, hn1⟩ : ∃ n, n = min na 600 := ⟨_, rfl⟩
  have b1 : n1 ≤ 600 := by omega
  have b2 : n1 ≤ na := by omega
  rw [← hna] at h1 ⊢
  rw [← hnb] at h2 ⊢
  rw [← hnc] at h3 ⊢
  obtain ⟨n, hcase⟩ : ∃ n, (n = n1 ∧ ¬ nb < n1 ∧ ¬ nc < n1) ∨ (n = nb ∧ nb < n1 ∧ ¬ nc < nb) ∨ (n = nc ∧ ¬ nb < n1 ∧ nc < n1) ∨ (n = nc ∧ nb < n1 ∧ nc < nb) := by
    by_cases q1 : nb < n1
    · by_cases q2 : nc < nb
      · exact ⟨nc, by omega⟩
      · exact ⟨nb, by omega⟩
    · by_cases q2 : nc < n1
      · exact ⟨nc, by omega⟩
      · exact ⟨n1, by omega⟩
  have k0 : n ≤ 600 := by omega
  have k1 : n ≤ na := by omega
  have k2 : n ≤ nb := by omega
  have k3 : n ≤ nc := by omega
  obtain ⟨A, hA⟩ : ∃ A, A = la.take n := ⟨_, rfl⟩
  obtain ⟨B, hB⟩ : ∃ A, A = lb.take n := ⟨_, rfl⟩
  obtain ⟨C, hC⟩ : ∃ A, A = lc.take n := ⟨_, rfl⟩
  have HLA := Lib.hid (show n = A.length by rw [hA, List.length_take]; omega)
  have HLB := Lib.hid (show n = B.length by rw [hB, List.length_take]; omega)
  have HLC := Lib.hid (show n = C.length by rw [hC, List.length_take]; omega)
  have RA := Lib.hid (show BytesAt w a A by rw [hA]; exact ha.take n)
  have RB := Lib.hid (show BytesAt w b B by rw [hB]; exact hb.take n)
  have RC := Lib.hid (show BytesAt w c C by rw [hC]; exact hc.take n)
  have HN1 := Lib.hid hn1
  clear hA hB hC hn1 hna hnb hnc ha hb hc
  rcases hcase with ⟨rfl, q1, q2⟩ | ⟨rfl, q1, q2⟩ | ⟨rfl, q1, q2⟩ | ⟨rfl, q1, q2⟩
  all_goals
    go_enter Tryd.func4, Tryd.ntmps4
    go_wp2_with fail
    refine (sum_at _ [0] _ _ _ rfl (BytesAt.lit _ _ _ _ (by simp [bs])) (by simp [maxLen]) (ht.fr ((Fr.refl [] _).alloc _) (by simp))).mono ?_
    rw [crc_zero]
    rintro e w1 ⟨rfl, rfl⟩
    go_wp2_with fail
    refine (cut_at a na ca _ _ HN1.out h1 (by unfold maxLen; omega)).mono ?_
    rintro e w1 ⟨rfl, rfl⟩
    go_wp2_with (refine wpList_make' rfl (.tmp 30) (.tmp 30) _ 5 rfl Tryd.underlying22 (.int .u8 0) 1 infoU8 rfl n rfl rfl (by omega) (by unfold maxLen; omega) ?_; intro w2 g hr hg hf)
    have HF : Fr [] w w2 := ((Fr.refl [] w).alloc _).trans0 hf
    have hg' : w.heap.size ≤ g := by simp at hg; omega
    clear hf hg
    go_loopw [10] (fun i wr => ∃ k : Nat, i = .int .i64 k ∧ k ≤ n ∧ Row wr g (bs ((xor3 A B C).take k) ++ List.replicate (n - k) (Value.int .u8 0)) 5 ∧ Fr [] w wr) (fun i _ => n - (intOf i).toNat)
    case atStart => exact ⟨0, rfl, Nat.zero_le _, by simpa [bs] using hr, HF⟩
    case round =>
      clear hr HF
      obtain ⟨k, rfl, hk, hrow, hfr⟩ := hrel
      by_cases hlt : k < n
      · obtain ⟨ba, oa, rfl, hca⟩ := (RA.out.fr0 hfr).get k (by have := HLA.out; omega)
        obtain ⟨bb, ob, rfl, hcb⟩ := (RB.out.fr0 hfr).get k (by have := HLB.out; omega)
        obtain ⟨bc, oc, rfl, hcc⟩ := (RC.out.fr0 hfr).get k (by have := HLC.out; omega)
        have hx : (xor3 A B C)[k]'(by have := xor3_length A B C n HLA.out HLB.out HLC.out; omega) = A[k]'(by have := HLA.out; omega) ^^^ B[k]'(by have := HLB.out; omega) ^^^ C[k]'(by have := HLC.out; omega) := by simp [xor3]
        have HX := Lib.hid hx; clear hx
        obtain ⟨xa, hxa⟩ : ∃ x, x = A[k]'(by have := HLA.out; omega) := ⟨_, rfl⟩
        obtain ⟨xb, hxb⟩ : ∃ x, x = B[k]'(by have := HLB.out; omega) := ⟨_, rfl⟩
        obtain ⟨xc, hxc⟩ : ∃ x, x = C[k]'(by have := HLC.out; omega) := ⟨_, rfl⟩
        rw [← hxa] at hca HX; rw [← hxb] at hcb HX; rw [← hxc] at hcc HX
        clear hxa hxb hxc
        obtain ⟨t, y, e1, e2, HY⟩ := xor8_3 xa xb xc
        rw [← HY.out] at HX
        have hcd := hrow.cell' (j := k) (v := .int .u8 0) (fill_get (xor3 A B C) k n (xor3_length A B C n HLA.out HLB.out HLC.out) hlt)
        have hz := hrow.free k
        have HR := Lib.hid (hrow.set k (.int .u8 (y.toNat : Int)))
        have HF := Lib.hid (hfr.setCell (a := ⟨g, k, none⟩) (.int .u8 (y.toNat : Int)) (fun hx => absurd hx (by simp; omega)))
        have hk0 : (0 : Int) ≤ (k : Int) := by omega
        have hkn : (k : Int) < (n : Int) := by omega
        clear hrow hfr
        go_wp2_with fail
        go_region
        all_goals
          go_wp2
          go_roundw
          case rel => exact ⟨k + 1, by go_num, by omega, by rw [← fill_step' (xor3 A B C) k n _ (xor3_length A B C n HLA.out HLB.out HLC.out) (by have := xor3_length A B C n HLA.out HLB.out HLC.out; omega) HX.out]; exact HR.out.drew, HF.out.drew⟩
          case measure => simp [intOf]; omega
      · obtain ⟨D, hD⟩ : ∃ D, D = xor3 A B C := ⟨_, rfl⟩
        have hDl : n = D.length := by rw [hD]; exact xor3_length A B C n HLA.out HLB.out HLC.out
        have hkn : k = n := by omega
        rw [← hD, hkn, Nat.sub_self, List.replicate_zero, List.append_nil, hDl, List.take_length] at hrow
        have RD := Lib.hid (BytesAt.ofRow hrow)
        obtain ⟨sa, hsa⟩ : ∃ s, crc A = s := ⟨_, rfl⟩
        obtain ⟨sb, hsb⟩ : ∃ s, crc B = s := ⟨_, rfl⟩
        obtain ⟨sc, hsc⟩ : ∃ s, crc C = s := ⟨_, rfl⟩
        have hsd : crc D = sa ^^^ sb ^^^ sc := by rw [hD, crc_xor3 A B C (by have := HLA.out; have := HLB.out; omega) (by have := HLA.out; have := HLC.out; omega), hsa, hsb, hsc]
        have q1 : sa < 4294967296 := by rw [← hsa]; exact crc_lt A
        have q2 : sb < 4294967296 := by rw [← hsb]; exact crc_lt B
        have q3 : sc < 4294967296 := by rw [← hsc]; exact crc_lt C
        have e1 := u32_xor_nat sa sb q1 q2
        have e2 := u32_xor_nat (sa ^^^ sb) sc (Nat.xor_lt_two_pow (n := 32) q1 q2) q3
        have TB := Lib.hid (ht.fr hfr (by simp))
        have RA' := Lib.hid (RA.out.fr0 hfr); have RB' := Lib.hid (RB.out.fr0 hfr); have RC' := Lib.hid (RC.out.fr0 hfr)
        have SA := Lib.hid hsa; have SB := Lib.hid hsb; have SC := Lib.hid hsc; have SD := Lib.hid hsd; have HLD := Lib.hid hDl; have HK := Lib.hid hkn
        have HF := Lib.hid hfr
        clear hsa hsb hsc hsd hDl hkn hD hrow hfr ht RA RB RC
        go_wp2_with fail
        have r1 : n ≤ ca := by omega
        have r2 : n ≤ cb := by omega
        have r3 : n ≤ cc := by omega
        go_quiet (first
          | (go_at_call_of 15 (Value.slice (some ⟨g, 0, none⟩) n n); exact Calls.quiet_of_same (sum_quiet _ D _ _ _ HLD.out (RD.out.drewN _) (by have := HLD.out; unfold maxLen; omega) (TB.out.drewN _) _ SD.out))
          | (go_at_call_of 15 (Value.slice a n ca); exact Calls.quiet_of_same (sum_quiet _ A _ _ _ HLA.out (RA'.out.drewN _) (by have := HLA.out; unfold maxLen; omega) (TB.out.drewN _) _ SA.out))
          | (go_at_call_of 15 (Value.slice b n cb); exact Calls.quiet_of_same (sum_quiet _ B _ _ _ HLB.out (RB'.out.drewN _) (by have := HLB.out; unfold maxLen; omega) (TB.out.drewN _) _ SB.out))
          | (go_at_call_of 15 (Value.slice c n cc); exact Calls.quiet_of_same (sum_quiet _ C _ _ _ HLC.out (RC'.out.drewN _) (by have := HLC.out; unfold maxLen; omega) (TB.out.drewN _) _ SC.out)))
        go_wp2
        go_ret
        exact ⟨rfl, HF.out.drewN _⟩
end Go.Proofs.YtoooflagkhpnkaaDoor
