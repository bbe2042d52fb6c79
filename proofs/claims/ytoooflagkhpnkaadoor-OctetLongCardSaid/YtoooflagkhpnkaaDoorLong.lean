/- The walk of jotterlaw01.OctetLong. -/
import Derived.Test.YtoooflagkhpnkaaDoorLeafF
import Derived.Test.YtoooflagkhpnkaaDoorCrcStep
namespace Go.Proofs.YtoooflagkhpnkaaDoor
open Go Go.RowKit
set_option linter.unusedVariables false

set_option maxRecDepth 100000 in
set_option maxHeartbeats 1000000 in
theorem stepped_any (r : Nat) (c : UInt8) (w : World) (hr : r < 4294967296) :
    Calls Tryd.prog 17 #[.int .u32 r, .int .u8 (c.toNat : Int)] w fun e w' => e = .returned (.int .u32 (feed r c : Int)) ∧ w = w' := by
  obtain ⟨x, hx, hx1, e1⟩ := xor_walk r c hr
  have hf : feed r c = steps 8 x := by rw [feed_steps, hx.out]
  have HF := Lib.hid hf
  clear hf
  go_enter Tryd.func17, Tryd.ntmps17
  go_wp2
  go_loop [0, 5] (fun r i => ∃ k y : Nat, i = .int .i64 k ∧ k ≤ 8 ∧ r = .int .u32 y ∧ Hid (y = steps k x) ∧ y < 4294967296) (fun _ i => 8 - (intOf i).toNat)
  case atStart => exact ⟨0, x, rfl, Nat.zero_le _, rfl, Lib.hid rfl, hx1⟩
  case round =>
    obtain ⟨k, y, rfl, hk, rfl, HY, hy⟩ := hrel
    by_cases hlt : k < 8
    · have hd : ((y : Int) / 2) = ((y / 2 : Nat) : Int) := by omega
      by_cases h2 : y % 2 = 1
      · have t1 : ((y : Int) % 2 == 1) = true := by rw [beq_iff_eq]; omega
        have e2 : bits .xor .u32 ((y : Int) / 2) 3988292384 = ((s1 y : Nat) : Int) := by
          rw [hd, show s1 y = (y / 2) ^^^ 3988292384 by unfold s1; rw [if_pos h2]]
          exact u32_xor_nat _ 3988292384 (by omega) (by omega)
        have H1 := Lib.hid (s1_lt y hy)
        clear hd h2
        go_wp2
        go_round
        case rel => exact ⟨k + 1, s1 y, by go_num, by omega, rfl, Lib.hid (by rw [HY.out]; rfl), H1.out⟩
        case measure => simp [intOf]; omega
      · have t1 : ((y : Int) % 2 == 1) = false := by rw [beq_eq_false_iff_ne]; omega
        have e2 : s1 y = y / 2 := by unfold s1; rw [if_neg h2, Nat.xor_zero]
        have E2 := Lib.hid e2
        clear hd h2 e2
        go_wp2
        go_round
        case rel => exact ⟨k + 1, y / 2, by go_num, by omega, by go_num, Lib.hid (by rw [← E2.out, HY.out]; rfl), by omega⟩
        case measure => simp [intOf]; omega
    · have hk8 : k = 8 := by omega
      have HK := Lib.hid hk8
      clear hk8
      go_wp2
      go_ret
      exact ⟨ret_int (by rw [HF.out, HY.out, HK.out]), rfl⟩
def lenV : Value → Nat | .slice _ n _ => n | _ => 0
theorem BytesAt.srcOf {w : World} {b off : Nat} {l : List UInt8} (h : BytesAt w (some ⟨b, off, none⟩) l) : ∀ j v, (bs l)[j]? = some v → w.cell? ((⟨b, off, none⟩ : Addr).add j) = some v := by
  intro j v hv
  have hj : j < l.length := by
    have := List.getElem?_eq_some_iff.1 hv
    simpa [bs_length] using this.1
  obtain ⟨ad, had, h2⟩ := h.src (by omega)
  obtain rfl := Option.some.inj had
  exact h2 j v hv
theorem open_sealed (a : Option Addr) (m : List UInt8) (k n c : Nat) (w : World) (hk : k = m.length) (hn : n = k + 4) (hc : n ≤ c) (hc2 : c ≤ maxLen) (h : BytesAt w a (sealed m)) (hm : n ≤ 281474976710000) (ht : Tbl w) :
    Calls Tryd.prog 19 #[.slice a n c] w fun e w' => ∃ g, e = .returned (.tuple #[.slice (some ⟨g, 0, none⟩) k k, .nilIface]) ∧ Row w' g (bs m) 5 ∧ Fr [] w w' := by
  rw [sealed_sum] at h
  refine (open_long a m _ n k c w hk (by simp) hn hc hc2 h hm ht).mono ?_
  rintro e w' ⟨hf, ⟨g, _, he, _, hr⟩ | ⟨v, hne, _⟩⟩
  · exact ⟨g, he, hr, hf⟩
  · exact absurd (sealed_sum m).symm hne

set_option maxRecDepth 100000 in
set_option maxHeartbeats 4000000 in
theorem octetLong_walk (a : Option Addr) (la : List UInt8) (ca : Nat) {w : World} (ha : BytesAt w a la) (h1 : la.length ≤ ca) (m1 : ca ≤ maxLen) (x : Int) (hx : (Lit.int .i64 x).wf = true) (ht : Tbl w) :
    Calls Tryd.prog 5 #[.slice a la.length ca, .int .i64 x] w fun e w' => e = .returned (.bool true) ∧ Fr [] w w' := by
  obtain ⟨n, hn⟩ : ∃ n, n = min la.length 600 := ⟨_, rfl⟩
  obtain ⟨l, hl⟩ : ∃ l, l = la.take n := ⟨_, rfl⟩
  have hnl : n = l.length := by rw [hl, List.length_take]; omega
  have hbl : BytesAt w a l := by rw [hl]; exact ha.take n
  have hn6 : n ≤ 600 := by omega
  have HN := Lib.hid hn; have HL := Lib.hid hnl
  have HC := Lib.hid (show n ≤ ca ∧ ca ≤ maxLen by omega)
  have H1 := Lib.hid h1; have M1 := Lib.hid m1; have HBL := Lib.hid hbl; have HTT := Lib.hid ht
  clear hn hnl hl ha h1 m1 hbl ht hx
  by_cases hx0 : 0 ≤ x ∧ x ≤ 70000
  · obtain ⟨N, rfl⟩ : ∃ N : Nat, x = (N : Int) := ⟨x.toNat, by omega⟩
    have hN : N ≤ 70000 := by omega
    have hx1 : (0 : Int) ≤ (N : Int) := by omega
    clear hx0
    by_cases hn0 : 0 < n
    · obtain ⟨bL, oL, rfl, _⟩ := HBL.out.get 0 (by have := HL.out; omega)
      obtain ⟨L, hL⟩ : ∃ L, L = l := ⟨_, rfl⟩
      have HFL : Hid (Fr [] w w) := Lib.hid (Fr.refl _ _)
      have hSrc : n = L.length ∧ (∀ w2, Fr [] w w2 → BytesAt w2 (some ⟨bL, oL, none⟩) L) ∧ True := by rw [hL]; exact ⟨HL.out, fun w2 hf => HBL.out.fr0 hf, trivial⟩
      have HS := Lib.hid hSrc
      clear hL hSrc
      have tb1 : ((n : Int) == 0) = false := by rw [beq_eq_false_iff_ne]; omega
      have tb2 : decide ((N : Int) < 0) = false := by simp
      have tb3 : decide ((70000 : Int) < (N : Int)) = false := by simp; omega
      have tb4 : decide (70000 < N) = false := by simp; omega
      clear hx1
      go_enter Tryd.func5, Tryd.ntmps5
      go_wp2_with fail
      refine (cut_at _ _ _ _ _ HN.out H1.out M1.out).mono ?_
      rintro e w1 ⟨rfl, rfl⟩
      go_wp2_with fail
      go_loopw [5] (fun v wr => ∃ (ag : Option Addr) (m cg : Nat) (G : List UInt8), v = .slice ag m cg ∧ Hid (wr.ownsRow w.heap.size 5 1 (.slice ag m cg) m (bs G)) ∧ Hid (m = G.length) ∧ m ≤ 70600 ∧ m ≤ cg ∧ Hid (cg ≤ maxLen) ∧ Hid (Fr [] w wr)) (fun v _ => 70000 - lenV v)
      case atStart => exact ⟨none, 0, 0, [], rfl, Lib.hid (World.ownsRow_nil _ _ _ _), Lib.hid rfl, by omega, by omega, Lib.hid (Nat.zero_le _), Lib.hid (Fr.refl _ _)⟩
      case round =>
        obtain ⟨ag, m, cg, G, rfl, HO, HG, hm, hmc, HC, HF⟩ := hrel
        by_cases hlt : m < N
        · have hb2 := HS.out.2.2
          go_wp2_with (at_builtin; refine wpList_append_fr rfl (.tmp 27) (.tmp 28) 22 rfl w.heap.size 5 (.int .u8 0) 1 Tryd.underlying22 infoU8 rfl _ m (bs G) rfl HO.out ⟨bL, oL, none⟩ n ca (bs L) rfl (by rw [bs_length]; exact HS.out.1.symm) (BytesAt.srcOf (HS.out.2.1 _ HF.out)) (bs_one _) (by unfold maxLen; omega) (by omega) HF.out.size ?_; intro v' w2 ho2 hf2; have HO2 := Lib.hid ho2; have HF2 := Lib.hid (HF.out.own (Nat.le_refl _) HO.out hf2); clear ho2 hf2)
          obtain ⟨a2, c2, rfl, g1, g2, _, _⟩ := owns_slice HO2.out
          have G2 := Lib.hid g2
          clear g2
          go_wp2_with fail
          go_roundw
          case rel => exact ⟨a2, m + n, c2, G ++ L, rfl, Lib.hid (by rw [bs_append]; exact HO2.out), Lib.hid (by rw [List.length_append, ← HG.out, ← HS.out.1]), by omega, g1, G2, HF2⟩
          case measure => simp [lenV]; omega
        · obtain ⟨Z, hZ⟩ : ∃ Z, Z = G.take N := ⟨_, rfl⟩
          have hZl : N = Z.length := by rw [hZ, List.length_take]; have := HG.out; omega
          have hbz : BytesAt wr ag Z := by rw [hZ]; exact (owns_bytes HO.out).take _
          have hcut : N ≤ cg := by omega
          have HZL := Lib.hid hZl
          have HB := Lib.hid hbz
          clear hZ hZl hbz HO
          go_wp2_with fail
          go_loop [6, 7] (fun r i => ∃ k y : Nat, i = .int .i64 k ∧ k ≤ N ∧ r = .int .u32 y ∧ Hid (y = run 4294967295 (Z.take k)) ∧ y < 4294967296) (fun _ i => 70000 - (intOf i).toNat)
          case atStart => exact ⟨0, 4294967295, rfl, Nat.zero_le _, rfl, Lib.hid (by simp [run]), by omega⟩
          case round =>
            obtain ⟨k, y, rfl, hk, rfl, HY, hy⟩ := hrel
            by_cases hkN : k < N
            · obtain ⟨bz, oz, rfl, hcz⟩ := HB.out.get k (by have := HZL.out; omega)
              go_wp2_with fail
              refine (stepped_any y (Z[k]'(by have := HZL.out; omega)) _ hy).mono ?_
              rintro e w3 ⟨rfl, rfl⟩
              have hfl := Lib.hid (feed_lt y (Z[k]'(by have := HZL.out; omega)) hy)
              have HFD : Hid (feed y (Z[k]'(by have := HZL.out; omega)) = run 4294967295 (Z.take (k + 1))) := Lib.hid (by rw [run_take _ _ _ (by have := HZL.out; omega), HY.out])
              go_wp2_with fail
              go_round
              case rel => exact ⟨k + 1, _, by go_num, by omega, rfl, HFD, hfl.out⟩
              case measure => simp [intOf]; omega
            · have hkk : k = N := by omega
              have hsum : crc Z = 4294967295 - y := by
                unfold crc
                rw [ones_xor _ (run_lt Z _ (by omega)), HY.out, hkk, HZL.out, List.take_length]
              have hle : 4294967295 - y = (4294967295 - y : Nat) := rfl
              have hi : ((4294967295 - y : Nat) : Int) = 4294967295 - (y : Int) := by omega
              have HSU := Lib.hid hsum
              have HI := Lib.hid hi
              have T := Lib.hid (HTT.out.fr (HFL.out.trans0 HF.out) (by simp))
              clear hsum hle hi hkk
              go_wp2_with fail
              refine (sum_at ag Z N cg _ HZL.out HB.out (by have := HZL.out; unfold maxLen; omega) T.out).mono ?_
              rw [HSU.out, HI.out]
              rintro e w3 ⟨rfl, rfl⟩
              have tq : ((4294967295 - (y : Int)) != (4294967295 - (y : Int))) = false := by simp
              go_wp2_with fail
              refine (seal_any ag Z N cg _ HZL.out HB.out (by have := HZL.out; omega) T.out).mono ?_
              rintro e w4 hr
              obtain ⟨g4, rfl, hg4, hr4, hf4⟩ := hr.open (N + 4) (by rw [sealed_length, ← HZL.out])
              clear hr
              have HR4 := Lib.hid hr4; have HF4 := Lib.hid hf4
              clear hr4 hf4 hg4
              go_wp2_with fail
              refine (open_sealed _ Z N (N + 4) (N + 4) _ HZL.out rfl (Nat.le_refl _) (by unfold maxLen; omega) (BytesAt.ofRow HR4.out) (by omega) (T.out.fr HF4.out (by simp))).mono ?_
              rintro e w5 ⟨g5, rfl, hr5, hf5⟩
              have HR5 := Lib.hid hr5; have HF5 := Lib.hid hf5
              clear hr5 hf5
              go_wp2_with fail
              refine (same_at (some ⟨g5, 0, none⟩) ag Z Z N N N cg _ HZL.out HZL.out (BytesAt.ofRow HR5.out) ((HB.out.fr0 HF4.out).fr0 HF5.out) (by unfold maxLen; omega) (by unfold maxLen; omega) true (decide_eq_true rfl)).mono ?_
              rintro e w6 ⟨rfl, nd, rfl⟩
              go_wp2
              go_ret
              exact ⟨rfl, (((HFL.out.trans0 HF.out).trans0 HF4.out).trans0 HF5.out).drewN _⟩
    · have hn1 : n = 0 := by omega
      rw [hn1] at HN HC
      clear hn0 hn1 hn6
      have tb2 : decide ((N : Int) < 0) = false := by simp
      have tb3 : decide ((70000 : Int) < (N : Int)) = false := by simp; omega
      have tb4 : decide (70000 < N) = false := by simp; omega
      clear hx1
      go_enter Tryd.func5, Tryd.ntmps5
      go_wp2_with fail
      refine (cut_at _ _ _ _ _ HN.out H1.out M1.out).mono ?_
      rintro e w1 ⟨rfl, rfl⟩
      go_wp2_with fail
      obtain ⟨bL, hbL⟩ : ∃ b, b = w.heap.size := ⟨_, rfl⟩
      obtain ⟨wL, hwL⟩ : ∃ x, x = w.alloc (.cells #[.int .u8 0] 5) := ⟨_, rfl⟩
      have HFL : Hid (Fr [] w wL) := Lib.hid (by rw [hwL]; exact (Fr.refl _ _).alloc _)
      obtain ⟨oL, hoL⟩ : ∃ o : Nat, o = 0 := ⟨_, rfl⟩
      obtain ⟨L, hL⟩ : ∃ L : List UInt8, L = [0] := ⟨_, rfl⟩
      have hsrc0 : BytesAt wL (some ⟨bL, oL, none⟩) L := by rw [hwL, hbL, hoL, hL]; exact BytesAt.lit w _ [0] _ (by simp [bs])
      have hbs : w.heap.size ≤ bL := by omega
      have hL1 : 1 = L.length := by rw [hL]; rfl
      have hSrc : 1 = L.length ∧ (∀ w2, Fr [] wL w2 → BytesAt w2 (some ⟨bL, oL, none⟩) L) ∧ True := ⟨hL1, fun w2 hf => hsrc0.fr0 hf, trivial⟩
      rw [← hbL, ← hwL]
      have HS := Lib.hid hSrc
      clear hSrc hbs hsrc0 hL1 hL hwL hbL
      subst hoL
      go_wp2_with fail
      go_loopw [5] (fun v wr => ∃ (ag : Option Addr) (m cg : Nat) (G : List UInt8), v = .slice ag m cg ∧ Hid (wr.ownsRow wL.heap.size 5 1 (.slice ag m cg) m (bs G)) ∧ Hid (m = G.length) ∧ m ≤ 70600 ∧ m ≤ cg ∧ Hid (cg ≤ maxLen) ∧ Hid (Fr [] wL wr)) (fun v _ => 70000 - lenV v)
      case atStart => exact ⟨none, 0, 0, [], rfl, Lib.hid (World.ownsRow_nil _ _ _ _), Lib.hid rfl, by omega, by omega, Lib.hid (Nat.zero_le _), Lib.hid (Fr.refl _ _)⟩
      case round =>
        obtain ⟨ag, m, cg, G, rfl, HO, HG, hm, hmc, HC, HF⟩ := hrel
        by_cases hlt : m < N
        · have hb2 := HS.out.2.2
          go_wp2_with (at_builtin; refine wpList_append_fr rfl (.tmp 27) (.tmp 28) 22 rfl wL.heap.size 5 (.int .u8 0) 1 Tryd.underlying22 infoU8 rfl _ m (bs G) rfl HO.out ⟨bL, 0, none⟩ 1 1 (bs L) rfl (by rw [bs_length]; exact HS.out.1.symm) (BytesAt.srcOf (HS.out.2.1 _ HF.out)) (bs_one _) (by unfold maxLen; omega) (by omega) HF.out.size ?_; intro v' w2 ho2 hf2; have HO2 := Lib.hid ho2; have HF2 := Lib.hid (HF.out.own (Nat.le_refl _) HO.out hf2); clear ho2 hf2)
          obtain ⟨a2, c2, rfl, g1, g2, _, _⟩ := owns_slice HO2.out
          have G2 := Lib.hid g2
          clear g2
          go_wp2_with fail
          go_roundw
          case rel => exact ⟨a2, m + 1, c2, G ++ L, rfl, Lib.hid (by rw [bs_append]; exact HO2.out), Lib.hid (by rw [List.length_append, ← HG.out, ← HS.out.1]), by omega, g1, G2, HF2⟩
          case measure => simp [lenV]; omega
        · obtain ⟨Z, hZ⟩ : ∃ Z, Z = G.take N := ⟨_, rfl⟩
          have hZl : N = Z.length := by rw [hZ, List.length_take]; have := HG.out; omega
          have hbz : BytesAt wr ag Z := by rw [hZ]; exact (owns_bytes HO.out).take _
          have hcut : N ≤ cg := by omega
          have HZL := Lib.hid hZl
          have HB := Lib.hid hbz
          clear hZ hZl hbz HO
          go_wp2_with fail
          go_loop [6, 7] (fun r i => ∃ k y : Nat, i = .int .i64 k ∧ k ≤ N ∧ r = .int .u32 y ∧ Hid (y = run 4294967295 (Z.take k)) ∧ y < 4294967296) (fun _ i => 70000 - (intOf i).toNat)
          case atStart => exact ⟨0, 4294967295, rfl, Nat.zero_le _, rfl, Lib.hid (by simp [run]), by omega⟩
          case round =>
            obtain ⟨k, y, rfl, hk, rfl, HY, hy⟩ := hrel
            by_cases hkN : k < N
            · obtain ⟨bz, oz, rfl, hcz⟩ := HB.out.get k (by have := HZL.out; omega)
              go_wp2_with fail
              refine (stepped_any y (Z[k]'(by have := HZL.out; omega)) _ hy).mono ?_
              rintro e w3 ⟨rfl, rfl⟩
              have hfl := Lib.hid (feed_lt y (Z[k]'(by have := HZL.out; omega)) hy)
              have HFD : Hid (feed y (Z[k]'(by have := HZL.out; omega)) = run 4294967295 (Z.take (k + 1))) := Lib.hid (by rw [run_take _ _ _ (by have := HZL.out; omega), HY.out])
              go_wp2_with fail
              go_round
              case rel => exact ⟨k + 1, _, by go_num, by omega, rfl, HFD, hfl.out⟩
              case measure => simp [intOf]; omega
            · have hkk : k = N := by omega
              have hsum : crc Z = 4294967295 - y := by
                unfold crc
                rw [ones_xor _ (run_lt Z _ (by omega)), HY.out, hkk, HZL.out, List.take_length]
              have hle : 4294967295 - y = (4294967295 - y : Nat) := rfl
              have hi : ((4294967295 - y : Nat) : Int) = 4294967295 - (y : Int) := by omega
              have HSU := Lib.hid hsum
              have HI := Lib.hid hi
              have T := Lib.hid (HTT.out.fr (HFL.out.trans0 HF.out) (by simp))
              clear hsum hle hi hkk
              go_wp2_with fail
              refine (sum_at ag Z N cg _ HZL.out HB.out (by have := HZL.out; unfold maxLen; omega) T.out).mono ?_
              rw [HSU.out, HI.out]
              rintro e w3 ⟨rfl, rfl⟩
              have tq : ((4294967295 - (y : Int)) != (4294967295 - (y : Int))) = false := by simp
              go_wp2_with fail
              refine (seal_any ag Z N cg _ HZL.out HB.out (by have := HZL.out; omega) T.out).mono ?_
              rintro e w4 hr
              obtain ⟨g4, rfl, hg4, hr4, hf4⟩ := hr.open (N + 4) (by rw [sealed_length, ← HZL.out])
              clear hr
              have HR4 := Lib.hid hr4; have HF4 := Lib.hid hf4
              clear hr4 hf4 hg4
              go_wp2_with fail
              refine (open_sealed _ Z N (N + 4) (N + 4) _ HZL.out rfl (Nat.le_refl _) (by unfold maxLen; omega) (BytesAt.ofRow HR4.out) (by omega) (T.out.fr HF4.out (by simp))).mono ?_
              rintro e w5 ⟨g5, rfl, hr5, hf5⟩
              have HR5 := Lib.hid hr5; have HF5 := Lib.hid hf5
              clear hr5 hf5
              go_wp2_with fail
              refine (same_at (some ⟨g5, 0, none⟩) ag Z Z N N N cg _ HZL.out HZL.out (BytesAt.ofRow HR5.out) ((HB.out.fr0 HF4.out).fr0 HF5.out) (by unfold maxLen; omega) (by unfold maxLen; omega) true (decide_eq_true rfl)).mono ?_
              rintro e w6 ⟨rfl, nd, rfl⟩
              go_wp2
              go_ret
              exact ⟨rfl, (((HFL.out.trans0 HF.out).trans0 HF4.out).trans0 HF5.out).drewN _⟩
  · by_cases hx1 : x < 0
    · clear hx0
      by_cases hn0 : 0 < n
      · obtain ⟨bL, oL, rfl, _⟩ := HBL.out.get 0 (by have := HL.out; omega)
        obtain ⟨L, hL⟩ : ∃ L, L = l := ⟨_, rfl⟩
        have HFL : Hid (Fr [] w w) := Lib.hid (Fr.refl _ _)
        have hSrc : n = L.length ∧ (∀ w2, Fr [] w w2 → BytesAt w2 (some ⟨bL, oL, none⟩) L) ∧ True := by rw [hL]; exact ⟨HL.out, fun w2 hf => HBL.out.fr0 hf, trivial⟩
        have HS := Lib.hid hSrc
        clear hL hSrc
        have tb1 : ((n : Int) == 0) = false := by rw [beq_eq_false_iff_ne]; omega
        obtain ⟨N, hNe⟩ : ∃ N : Nat, N = 70000 := ⟨_, rfl⟩
        have hN : N ≤ 70000 := by omega
        have HNE := Lib.hid (show (70000 : Int) = (N : Int) by omega)
        clear hNe
        have tb2 : decide (x < 0) = true := by simp; omega
        go_enter Tryd.func5, Tryd.ntmps5
        go_wp2_with fail
        refine (cut_at _ _ _ _ _ HN.out H1.out M1.out).mono ?_
        rintro e w1 ⟨rfl, rfl⟩
        go_wp2_with fail
        rw [HNE.out]
        go_wp2_with fail
        go_loopw [5] (fun v wr => ∃ (ag : Option Addr) (m cg : Nat) (G : List UInt8), v = .slice ag m cg ∧ Hid (wr.ownsRow w.heap.size 5 1 (.slice ag m cg) m (bs G)) ∧ Hid (m = G.length) ∧ m ≤ 70600 ∧ m ≤ cg ∧ Hid (cg ≤ maxLen) ∧ Hid (Fr [] w wr)) (fun v _ => 70000 - lenV v)
        case atStart => exact ⟨none, 0, 0, [], rfl, Lib.hid (World.ownsRow_nil _ _ _ _), Lib.hid rfl, by omega, by omega, Lib.hid (Nat.zero_le _), Lib.hid (Fr.refl _ _)⟩
        case round =>
          obtain ⟨ag, m, cg, G, rfl, HO, HG, hm, hmc, HC, HF⟩ := hrel
          by_cases hlt : m < N
          · have hb2 := HS.out.2.2
            go_wp2_with (at_builtin; refine wpList_append_fr rfl (.tmp 27) (.tmp 28) 22 rfl w.heap.size 5 (.int .u8 0) 1 Tryd.underlying22 infoU8 rfl _ m (bs G) rfl HO.out ⟨bL, oL, none⟩ n ca (bs L) rfl (by rw [bs_length]; exact HS.out.1.symm) (BytesAt.srcOf (HS.out.2.1 _ HF.out)) (bs_one _) (by unfold maxLen; omega) (by omega) HF.out.size ?_; intro v' w2 ho2 hf2; have HO2 := Lib.hid ho2; have HF2 := Lib.hid (HF.out.own (Nat.le_refl _) HO.out hf2); clear ho2 hf2)
            obtain ⟨a2, c2, rfl, g1, g2, _, _⟩ := owns_slice HO2.out
            have G2 := Lib.hid g2
            clear g2
            go_wp2_with fail
            go_roundw
            case rel => exact ⟨a2, m + n, c2, G ++ L, rfl, Lib.hid (by rw [bs_append]; exact HO2.out), Lib.hid (by rw [List.length_append, ← HG.out, ← HS.out.1]), by omega, g1, G2, HF2⟩
            case measure => simp [lenV]; omega
          · obtain ⟨Z, hZ⟩ : ∃ Z, Z = G.take N := ⟨_, rfl⟩
            have hZl : N = Z.length := by rw [hZ, List.length_take]; have := HG.out; omega
            have hbz : BytesAt wr ag Z := by rw [hZ]; exact (owns_bytes HO.out).take _
            have hcut : N ≤ cg := by omega
            have HZL := Lib.hid hZl
            have HB := Lib.hid hbz
            clear hZ hZl hbz HO
            go_wp2_with fail
            go_loop [6, 7] (fun r i => ∃ k y : Nat, i = .int .i64 k ∧ k ≤ N ∧ r = .int .u32 y ∧ Hid (y = run 4294967295 (Z.take k)) ∧ y < 4294967296) (fun _ i => 70000 - (intOf i).toNat)
            case atStart => exact ⟨0, 4294967295, rfl, Nat.zero_le _, rfl, Lib.hid (by simp [run]), by omega⟩
            case round =>
              obtain ⟨k, y, rfl, hk, rfl, HY, hy⟩ := hrel
              by_cases hkN : k < N
              · obtain ⟨bz, oz, rfl, hcz⟩ := HB.out.get k (by have := HZL.out; omega)
                go_wp2_with fail
                refine (stepped_any y (Z[k]'(by have := HZL.out; omega)) _ hy).mono ?_
                rintro e w3 ⟨rfl, rfl⟩
                have hfl := Lib.hid (feed_lt y (Z[k]'(by have := HZL.out; omega)) hy)
                have HFD : Hid (feed y (Z[k]'(by have := HZL.out; omega)) = run 4294967295 (Z.take (k + 1))) := Lib.hid (by rw [run_take _ _ _ (by have := HZL.out; omega), HY.out])
                go_wp2_with fail
                go_round
                case rel => exact ⟨k + 1, _, by go_num, by omega, rfl, HFD, hfl.out⟩
                case measure => simp [intOf]; omega
              · have hkk : k = N := by omega
                have hsum : crc Z = 4294967295 - y := by
                  unfold crc
                  rw [ones_xor _ (run_lt Z _ (by omega)), HY.out, hkk, HZL.out, List.take_length]
                have hle : 4294967295 - y = (4294967295 - y : Nat) := rfl
                have hi : ((4294967295 - y : Nat) : Int) = 4294967295 - (y : Int) := by omega
                have HSU := Lib.hid hsum
                have HI := Lib.hid hi
                have T := Lib.hid (HTT.out.fr (HFL.out.trans0 HF.out) (by simp))
                clear hsum hle hi hkk
                go_wp2_with fail
                refine (sum_at ag Z N cg _ HZL.out HB.out (by have := HZL.out; unfold maxLen; omega) T.out).mono ?_
                rw [HSU.out, HI.out]
                rintro e w3 ⟨rfl, rfl⟩
                have tq : ((4294967295 - (y : Int)) != (4294967295 - (y : Int))) = false := by simp
                go_wp2_with fail
                refine (seal_any ag Z N cg _ HZL.out HB.out (by have := HZL.out; omega) T.out).mono ?_
                rintro e w4 hr
                obtain ⟨g4, rfl, hg4, hr4, hf4⟩ := hr.open (N + 4) (by rw [sealed_length, ← HZL.out])
                clear hr
                have HR4 := Lib.hid hr4; have HF4 := Lib.hid hf4
                clear hr4 hf4 hg4
                go_wp2_with fail
                refine (open_sealed _ Z N (N + 4) (N + 4) _ HZL.out rfl (Nat.le_refl _) (by unfold maxLen; omega) (BytesAt.ofRow HR4.out) (by omega) (T.out.fr HF4.out (by simp))).mono ?_
                rintro e w5 ⟨g5, rfl, hr5, hf5⟩
                have HR5 := Lib.hid hr5; have HF5 := Lib.hid hf5
                clear hr5 hf5
                go_wp2_with fail
                refine (same_at (some ⟨g5, 0, none⟩) ag Z Z N N N cg _ HZL.out HZL.out (BytesAt.ofRow HR5.out) ((HB.out.fr0 HF4.out).fr0 HF5.out) (by unfold maxLen; omega) (by unfold maxLen; omega) true (decide_eq_true rfl)).mono ?_
                rintro e w6 ⟨rfl, nd, rfl⟩
                go_wp2
                go_ret
                exact ⟨rfl, (((HFL.out.trans0 HF.out).trans0 HF4.out).trans0 HF5.out).drewN _⟩
      · have hn1 : n = 0 := by omega
        rw [hn1] at HN HC
        clear hn0 hn1 hn6
        obtain ⟨N, hNe⟩ : ∃ N : Nat, N = 70000 := ⟨_, rfl⟩
        have hN : N ≤ 70000 := by omega
        have HNE := Lib.hid (show (70000 : Int) = (N : Int) by omega)
        clear hNe
        have tb2 : decide (x < 0) = true := by simp; omega
        go_enter Tryd.func5, Tryd.ntmps5
        go_wp2_with fail
        refine (cut_at _ _ _ _ _ HN.out H1.out M1.out).mono ?_
        rintro e w1 ⟨rfl, rfl⟩
        go_wp2_with fail
        obtain ⟨bL, hbL⟩ : ∃ b, b = w.heap.size := ⟨_, rfl⟩
        obtain ⟨wL, hwL⟩ : ∃ x, x = w.alloc (.cells #[.int .u8 0] 5) := ⟨_, rfl⟩
        have HFL : Hid (Fr [] w wL) := Lib.hid (by rw [hwL]; exact (Fr.refl _ _).alloc _)
        obtain ⟨oL, hoL⟩ : ∃ o : Nat, o = 0 := ⟨_, rfl⟩
        obtain ⟨L, hL⟩ : ∃ L : List UInt8, L = [0] := ⟨_, rfl⟩
        have hsrc0 : BytesAt wL (some ⟨bL, oL, none⟩) L := by rw [hwL, hbL, hoL, hL]; exact BytesAt.lit w _ [0] _ (by simp [bs])
        have hbs : w.heap.size ≤ bL := by omega
        have hL1 : 1 = L.length := by rw [hL]; rfl
        have hSrc : 1 = L.length ∧ (∀ w2, Fr [] wL w2 → BytesAt w2 (some ⟨bL, oL, none⟩) L) ∧ True := ⟨hL1, fun w2 hf => hsrc0.fr0 hf, trivial⟩
        rw [← hbL, ← hwL]
        have HS := Lib.hid hSrc
        clear hSrc hbs hsrc0 hL1 hL hwL hbL
        subst hoL
        rw [HNE.out]
        go_wp2_with fail
        go_loopw [5] (fun v wr => ∃ (ag : Option Addr) (m cg : Nat) (G : List UInt8), v = .slice ag m cg ∧ Hid (wr.ownsRow wL.heap.size 5 1 (.slice ag m cg) m (bs G)) ∧ Hid (m = G.length) ∧ m ≤ 70600 ∧ m ≤ cg ∧ Hid (cg ≤ maxLen) ∧ Hid (Fr [] wL wr)) (fun v _ => 70000 - lenV v)
        case atStart => exact ⟨none, 0, 0, [], rfl, Lib.hid (World.ownsRow_nil _ _ _ _), Lib.hid rfl, by omega, by omega, Lib.hid (Nat.zero_le _), Lib.hid (Fr.refl _ _)⟩
        case round =>
          obtain ⟨ag, m, cg, G, rfl, HO, HG, hm, hmc, HC, HF⟩ := hrel
          by_cases hlt : m < N
          · have hb2 := HS.out.2.2
            go_wp2_with (at_builtin; refine wpList_append_fr rfl (.tmp 27) (.tmp 28) 22 rfl wL.heap.size 5 (.int .u8 0) 1 Tryd.underlying22 infoU8 rfl _ m (bs G) rfl HO.out ⟨bL, 0, none⟩ 1 1 (bs L) rfl (by rw [bs_length]; exact HS.out.1.symm) (BytesAt.srcOf (HS.out.2.1 _ HF.out)) (bs_one _) (by unfold maxLen; omega) (by omega) HF.out.size ?_; intro v' w2 ho2 hf2; have HO2 := Lib.hid ho2; have HF2 := Lib.hid (HF.out.own (Nat.le_refl _) HO.out hf2); clear ho2 hf2)
            obtain ⟨a2, c2, rfl, g1, g2, _, _⟩ := owns_slice HO2.out
            have G2 := Lib.hid g2
            clear g2
            go_wp2_with fail
            go_roundw
            case rel => exact ⟨a2, m + 1, c2, G ++ L, rfl, Lib.hid (by rw [bs_append]; exact HO2.out), Lib.hid (by rw [List.length_append, ← HG.out, ← HS.out.1]), by omega, g1, G2, HF2⟩
            case measure => simp [lenV]; omega
          · obtain ⟨Z, hZ⟩ : ∃ Z, Z = G.take N := ⟨_, rfl⟩
            have hZl : N = Z.length := by rw [hZ, List.length_take]; have := HG.out; omega
            have hbz : BytesAt wr ag Z := by rw [hZ]; exact (owns_bytes HO.out).take _
            have hcut : N ≤ cg := by omega
            have HZL := Lib.hid hZl
            have HB := Lib.hid hbz
            clear hZ hZl hbz HO
            go_wp2_with fail
            go_loop [6, 7] (fun r i => ∃ k y : Nat, i = .int .i64 k ∧ k ≤ N ∧ r = .int .u32 y ∧ Hid (y = run 4294967295 (Z.take k)) ∧ y < 4294967296) (fun _ i => 70000 - (intOf i).toNat)
            case atStart => exact ⟨0, 4294967295, rfl, Nat.zero_le _, rfl, Lib.hid (by simp [run]), by omega⟩
            case round =>
              obtain ⟨k, y, rfl, hk, rfl, HY, hy⟩ := hrel
              by_cases hkN : k < N
              · obtain ⟨bz, oz, rfl, hcz⟩ := HB.out.get k (by have := HZL.out; omega)
                go_wp2_with fail
                refine (stepped_any y (Z[k]'(by have := HZL.out; omega)) _ hy).mono ?_
                rintro e w3 ⟨rfl, rfl⟩
                have hfl := Lib.hid (feed_lt y (Z[k]'(by have := HZL.out; omega)) hy)
                have HFD : Hid (feed y (Z[k]'(by have := HZL.out; omega)) = run 4294967295 (Z.take (k + 1))) := Lib.hid (by rw [run_take _ _ _ (by have := HZL.out; omega), HY.out])
                go_wp2_with fail
                go_round
                case rel => exact ⟨k + 1, _, by go_num, by omega, rfl, HFD, hfl.out⟩
                case measure => simp [intOf]; omega
              · have hkk : k = N := by omega
                have hsum : crc Z = 4294967295 - y := by
                  unfold crc
                  rw [ones_xor _ (run_lt Z _ (by omega)), HY.out, hkk, HZL.out, List.take_length]
                have hle : 4294967295 - y = (4294967295 - y : Nat) := rfl
                have hi : ((4294967295 - y : Nat) : Int) = 4294967295 - (y : Int) := by omega
                have HSU := Lib.hid hsum
                have HI := Lib.hid hi
                have T := Lib.hid (HTT.out.fr (HFL.out.trans0 HF.out) (by simp))
                clear hsum hle hi hkk
                go_wp2_with fail
                refine (sum_at ag Z N cg _ HZL.out HB.out (by have := HZL.out; unfold maxLen; omega) T.out).mono ?_
                rw [HSU.out, HI.out]
                rintro e w3 ⟨rfl, rfl⟩
                have tq : ((4294967295 - (y : Int)) != (4294967295 - (y : Int))) = false := by simp
                go_wp2_with fail
                refine (seal_any ag Z N cg _ HZL.out HB.out (by have := HZL.out; omega) T.out).mono ?_
                rintro e w4 hr
                obtain ⟨g4, rfl, hg4, hr4, hf4⟩ := hr.open (N + 4) (by rw [sealed_length, ← HZL.out])
                clear hr
                have HR4 := Lib.hid hr4; have HF4 := Lib.hid hf4
                clear hr4 hf4 hg4
                go_wp2_with fail
                refine (open_sealed _ Z N (N + 4) (N + 4) _ HZL.out rfl (Nat.le_refl _) (by unfold maxLen; omega) (BytesAt.ofRow HR4.out) (by omega) (T.out.fr HF4.out (by simp))).mono ?_
                rintro e w5 ⟨g5, rfl, hr5, hf5⟩
                have HR5 := Lib.hid hr5; have HF5 := Lib.hid hf5
                clear hr5 hf5
                go_wp2_with fail
                refine (same_at (some ⟨g5, 0, none⟩) ag Z Z N N N cg _ HZL.out HZL.out (BytesAt.ofRow HR5.out) ((HB.out.fr0 HF4.out).fr0 HF5.out) (by unfold maxLen; omega) (by unfold maxLen; omega) true (decide_eq_true rfl)).mono ?_
                rintro e w6 ⟨rfl, nd, rfl⟩
                go_wp2
                go_ret
                exact ⟨rfl, (((HFL.out.trans0 HF.out).trans0 HF4.out).trans0 HF5.out).drewN _⟩
    · have hx2 : 70000 < x := by omega
      clear hx0
      by_cases hn0 : 0 < n
      · obtain ⟨bL, oL, rfl, _⟩ := HBL.out.get 0 (by have := HL.out; omega)
        obtain ⟨L, hL⟩ : ∃ L, L = l := ⟨_, rfl⟩
        have HFL : Hid (Fr [] w w) := Lib.hid (Fr.refl _ _)
        have hSrc : n = L.length ∧ (∀ w2, Fr [] w w2 → BytesAt w2 (some ⟨bL, oL, none⟩) L) ∧ True := by rw [hL]; exact ⟨HL.out, fun w2 hf => HBL.out.fr0 hf, trivial⟩
        have HS := Lib.hid hSrc
        clear hL hSrc
        have tb1 : ((n : Int) == 0) = false := by rw [beq_eq_false_iff_ne]; omega
        obtain ⟨N, hNe⟩ : ∃ N : Nat, N = 70000 := ⟨_, rfl⟩
        have hN : N ≤ 70000 := by omega
        have HNE := Lib.hid (show (70000 : Int) = (N : Int) by omega)
        clear hNe
        have tb2 : decide (x < 0) = false := by simp; omega
        have tb3 : decide (70000 < x) = true := by simp; omega
        go_enter Tryd.func5, Tryd.ntmps5
        go_wp2_with fail
        refine (cut_at _ _ _ _ _ HN.out H1.out M1.out).mono ?_
        rintro e w1 ⟨rfl, rfl⟩
        go_wp2_with fail
        rw [HNE.out]
        go_wp2_with fail
        go_loopw [5] (fun v wr => ∃ (ag : Option Addr) (m cg : Nat) (G : List UInt8), v = .slice ag m cg ∧ Hid (wr.ownsRow w.heap.size 5 1 (.slice ag m cg) m (bs G)) ∧ Hid (m = G.length) ∧ m ≤ 70600 ∧ m ≤ cg ∧ Hid (cg ≤ maxLen) ∧ Hid (Fr [] w wr)) (fun v _ => 70000 - lenV v)
        case atStart => exact ⟨none, 0, 0, [], rfl, Lib.hid (World.ownsRow_nil _ _ _ _), Lib.hid rfl, by omega, by omega, Lib.hid (Nat.zero_le _), Lib.hid (Fr.refl _ _)⟩
        case round =>
          obtain ⟨ag, m, cg, G, rfl, HO, HG, hm, hmc, HC, HF⟩ := hrel
          by_cases hlt : m < N
          · have hb2 := HS.out.2.2
            go_wp2_with (at_builtin; refine wpList_append_fr rfl (.tmp 27) (.tmp 28) 22 rfl w.heap.size 5 (.int .u8 0) 1 Tryd.underlying22 infoU8 rfl _ m (bs G) rfl HO.out ⟨bL, oL, none⟩ n ca (bs L) rfl (by rw [bs_length]; exact HS.out.1.symm) (BytesAt.srcOf (HS.out.2.1 _ HF.out)) (bs_one _) (by unfold maxLen; omega) (by omega) HF.out.size ?_; intro v' w2 ho2 hf2; have HO2 := Lib.hid ho2; have HF2 := Lib.hid (HF.out.own (Nat.le_refl _) HO.out hf2); clear ho2 hf2)
            obtain ⟨a2, c2, rfl, g1, g2, _, _⟩ := owns_slice HO2.out
            have G2 := Lib.hid g2
            clear g2
            go_wp2_with fail
            go_roundw
            case rel => exact ⟨a2, m + n, c2, G ++ L, rfl, Lib.hid (by rw [bs_append]; exact HO2.out), Lib.hid (by rw [List.length_append, ← HG.out, ← HS.out.1]), by omega, g1, G2, HF2⟩
            case measure => simp [lenV]; omega
          · obtain ⟨Z, hZ⟩ : ∃ Z, Z = G.take N := ⟨_, rfl⟩
            have hZl : N = Z.length := by rw [hZ, List.length_take]; have := HG.out; omega
            have hbz : BytesAt wr ag Z := by rw [hZ]; exact (owns_bytes HO.out).take _
            have hcut : N ≤ cg := by omega
            have HZL := Lib.hid hZl
            have HB := Lib.hid hbz
            clear hZ hZl hbz HO
            go_wp2_with fail
            go_loop [6, 7] (fun r i => ∃ k y : Nat, i = .int .i64 k ∧ k ≤ N ∧ r = .int .u32 y ∧ Hid (y = run 4294967295 (Z.take k)) ∧ y < 4294967296) (fun _ i => 70000 - (intOf i).toNat)
            case atStart => exact ⟨0, 4294967295, rfl, Nat.zero_le _, rfl, Lib.hid (by simp [run]), by omega⟩
            case round =>
              obtain ⟨k, y, rfl, hk, rfl, HY, hy⟩ := hrel
              by_cases hkN : k < N
              · obtain ⟨bz, oz, rfl, hcz⟩ := HB.out.get k (by have := HZL.out; omega)
                go_wp2_with fail
                refine (stepped_any y (Z[k]'(by have := HZL.out; omega)) _ hy).mono ?_
                rintro e w3 ⟨rfl, rfl⟩
                have hfl := Lib.hid (feed_lt y (Z[k]'(by have := HZL.out; omega)) hy)
                have HFD : Hid (feed y (Z[k]'(by have := HZL.out; omega)) = run 4294967295 (Z.take (k + 1))) := Lib.hid (by rw [run_take _ _ _ (by have := HZL.out; omega), HY.out])
                go_wp2_with fail
                go_round
                case rel => exact ⟨k + 1, _, by go_num, by omega, rfl, HFD, hfl.out⟩
                case measure => simp [intOf]; omega
              · have hkk : k = N := by omega
                have hsum : crc Z = 4294967295 - y := by
                  unfold crc
                  rw [ones_xor _ (run_lt Z _ (by omega)), HY.out, hkk, HZL.out, List.take_length]
                have hle : 4294967295 - y = (4294967295 - y : Nat) := rfl
                have hi : ((4294967295 - y : Nat) : Int) = 4294967295 - (y : Int) := by omega
                have HSU := Lib.hid hsum
                have HI := Lib.hid hi
                have T := Lib.hid (HTT.out.fr (HFL.out.trans0 HF.out) (by simp))
                clear hsum hle hi hkk
                go_wp2_with fail
                refine (sum_at ag Z N cg _ HZL.out HB.out (by have := HZL.out; unfold maxLen; omega) T.out).mono ?_
                rw [HSU.out, HI.out]
                rintro e w3 ⟨rfl, rfl⟩
                have tq : ((4294967295 - (y : Int)) != (4294967295 - (y : Int))) = false := by simp
                go_wp2_with fail
                refine (seal_any ag Z N cg _ HZL.out HB.out (by have := HZL.out; omega) T.out).mono ?_
                rintro e w4 hr
                obtain ⟨g4, rfl, hg4, hr4, hf4⟩ := hr.open (N + 4) (by rw [sealed_length, ← HZL.out])
                clear hr
                have HR4 := Lib.hid hr4; have HF4 := Lib.hid hf4
                clear hr4 hf4 hg4
                go_wp2_with fail
                refine (open_sealed _ Z N (N + 4) (N + 4) _ HZL.out rfl (Nat.le_refl _) (by unfold maxLen; omega) (BytesAt.ofRow HR4.out) (by omega) (T.out.fr HF4.out (by simp))).mono ?_
                rintro e w5 ⟨g5, rfl, hr5, hf5⟩
                have HR5 := Lib.hid hr5; have HF5 := Lib.hid hf5
                clear hr5 hf5
                go_wp2_with fail
                refine (same_at (some ⟨g5, 0, none⟩) ag Z Z N N N cg _ HZL.out HZL.out (BytesAt.ofRow HR5.out) ((HB.out.fr0 HF4.out).fr0 HF5.out) (by unfold maxLen; omega) (by unfold maxLen; omega) true (decide_eq_true rfl)).mono ?_
                rintro e w6 ⟨rfl, nd, rfl⟩
                go_wp2
                go_ret
                exact ⟨rfl, (((HFL.out.trans0 HF.out).trans0 HF4.out).trans0 HF5.out).drewN _⟩
      · have hn1 : n = 0 := by omega
        rw [hn1] at HN HC
        clear hn0 hn1 hn6
        obtain ⟨N, hNe⟩ : ∃ N : Nat, N = 70000 := ⟨_, rfl⟩
        have hN : N ≤ 70000 := by omega
        have HNE := Lib.hid (show (70000 : Int) = (N : Int) by omega)
        clear hNe
        have tb2 : decide (x < 0) = false := by simp; omega
        have tb3 : decide (70000 < x) = true := by simp; omega
        go_enter Tryd.func5, Tryd.ntmps5
        go_wp2_with fail
        refine (cut_at _ _ _ _ _ HN.out H1.out M1.out).mono ?_
        rintro e w1 ⟨rfl, rfl⟩
        go_wp2_with fail
        obtain ⟨bL, hbL⟩ : ∃ b, b = w.heap.size := ⟨_, rfl⟩
        obtain ⟨wL, hwL⟩ : ∃ x, x = w.alloc (.cells #[.int .u8 0] 5) := ⟨_, rfl⟩
        have HFL : Hid (Fr [] w wL) := Lib.hid (by rw [hwL]; exact (Fr.refl _ _).alloc _)
        obtain ⟨oL, hoL⟩ : ∃ o : Nat, o = 0 := ⟨_, rfl⟩
        obtain ⟨L, hL⟩ : ∃ L : List UInt8, L = [0] := ⟨_, rfl⟩
        have hsrc0 : BytesAt wL (some ⟨bL, oL, none⟩) L := by rw [hwL, hbL, hoL, hL]; exact BytesAt.lit w _ [0] _ (by simp [bs])
        have hbs : w.heap.size ≤ bL := by omega
        have hL1 : 1 = L.length := by rw [hL]; rfl
        have hSrc : 1 = L.length ∧ (∀ w2, Fr [] wL w2 → BytesAt w2 (some ⟨bL, oL, none⟩) L) ∧ True := ⟨hL1, fun w2 hf => hsrc0.fr0 hf, trivial⟩
        rw [← hbL, ← hwL]
        have HS := Lib.hid hSrc
        clear hSrc hbs hsrc0 hL1 hL hwL hbL
        subst hoL
        rw [HNE.out]
        go_wp2_with fail
        go_loopw [5] (fun v wr => ∃ (ag : Option Addr) (m cg : Nat) (G : List UInt8), v = .slice ag m cg ∧ Hid (wr.ownsRow wL.heap.size 5 1 (.slice ag m cg) m (bs G)) ∧ Hid (m = G.length) ∧ m ≤ 70600 ∧ m ≤ cg ∧ Hid (cg ≤ maxLen) ∧ Hid (Fr [] wL wr)) (fun v _ => 70000 - lenV v)
        case atStart => exact ⟨none, 0, 0, [], rfl, Lib.hid (World.ownsRow_nil _ _ _ _), Lib.hid rfl, by omega, by omega, Lib.hid (Nat.zero_le _), Lib.hid (Fr.refl _ _)⟩
        case round =>
          obtain ⟨ag, m, cg, G, rfl, HO, HG, hm, hmc, HC, HF⟩ := hrel
          by_cases hlt : m < N
          · have hb2 := HS.out.2.2
            go_wp2_with (at_builtin; refine wpList_append_fr rfl (.tmp 27) (.tmp 28) 22 rfl wL.heap.size 5 (.int .u8 0) 1 Tryd.underlying22 infoU8 rfl _ m (bs G) rfl HO.out ⟨bL, 0, none⟩ 1 1 (bs L) rfl (by rw [bs_length]; exact HS.out.1.symm) (BytesAt.srcOf (HS.out.2.1 _ HF.out)) (bs_one _) (by unfold maxLen; omega) (by omega) HF.out.size ?_; intro v' w2 ho2 hf2; have HO2 := Lib.hid ho2; have HF2 := Lib.hid (HF.out.own (Nat.le_refl _) HO.out hf2); clear ho2 hf2)
            obtain ⟨a2, c2, rfl, g1, g2, _, _⟩ := owns_slice HO2.out
            have G2 := Lib.hid g2
            clear g2
            go_wp2_with fail
            go_roundw
            case rel => exact ⟨a2, m + 1, c2, G ++ L, rfl, Lib.hid (by rw [bs_append]; exact HO2.out), Lib.hid (by rw [List.length_append, ← HG.out, ← HS.out.1]), by omega, g1, G2, HF2⟩
            case measure => simp [lenV]; omega
          · obtain ⟨Z, hZ⟩ : ∃ Z, Z = G.take N := ⟨_, rfl⟩
            have hZl : N = Z.length := by rw [hZ, List.length_take]; have := HG.out; omega
            have hbz : BytesAt wr ag Z := by rw [hZ]; exact (owns_bytes HO.out).take _
            have hcut : N ≤ cg := by omega
            have HZL := Lib.hid hZl
            have HB := Lib.hid hbz
            clear hZ hZl hbz HO
            go_wp2_with fail
            go_loop [6, 7] (fun r i => ∃ k y : Nat, i = .int .i64 k ∧ k ≤ N ∧ r = .int .u32 y ∧ Hid (y = run 4294967295 (Z.take k)) ∧ y < 4294967296) (fun _ i => 70000 - (intOf i).toNat)
            case atStart => exact ⟨0, 4294967295, rfl, Nat.zero_le _, rfl, Lib.hid (by simp [run]), by omega⟩
            case round =>
              obtain ⟨k, y, rfl, hk, rfl, HY, hy⟩ := hrel
              by_cases hkN : k < N
              · obtain ⟨bz, oz, rfl, hcz⟩ := HB.out.get k (by have := HZL.out; omega)
                go_wp2_with fail
                refine (stepped_any y (Z[k]'(by have := HZL.out; omega)) _ hy).mono ?_
                rintro e w3 ⟨rfl, rfl⟩
                have hfl := Lib.hid (feed_lt y (Z[k]'(by have := HZL.out; omega)) hy)
                have HFD : Hid (feed y (Z[k]'(by have := HZL.out; omega)) = run 4294967295 (Z.take (k + 1))) := Lib.hid (by rw [run_take _ _ _ (by have := HZL.out; omega), HY.out])
                go_wp2_with fail
                go_round
                case rel => exact ⟨k + 1, _, by go_num, by omega, rfl, HFD, hfl.out⟩
                case measure => simp [intOf]; omega
              · have hkk : k = N := by omega
                have hsum : crc Z = 4294967295 - y := by
                  unfold crc
                  rw [ones_xor _ (run_lt Z _ (by omega)), HY.out, hkk, HZL.out, List.take_length]
                have hle : 4294967295 - y = (4294967295 - y : Nat) := rfl
                have hi : ((4294967295 - y : Nat) : Int) = 4294967295 - (y : Int) := by omega
                have HSU := Lib.hid hsum
                have HI := Lib.hid hi
                have T := Lib.hid (HTT.out.fr (HFL.out.trans0 HF.out) (by simp))
                clear hsum hle hi hkk
                go_wp2_with fail
                refine (sum_at ag Z N cg _ HZL.out HB.out (by have := HZL.out; unfold maxLen; omega) T.out).mono ?_
                rw [HSU.out, HI.out]
                rintro e w3 ⟨rfl, rfl⟩
                have tq : ((4294967295 - (y : Int)) != (4294967295 - (y : Int))) = false := by simp
                go_wp2_with fail
                refine (seal_any ag Z N cg _ HZL.out HB.out (by have := HZL.out; omega) T.out).mono ?_
                rintro e w4 hr
                obtain ⟨g4, rfl, hg4, hr4, hf4⟩ := hr.open (N + 4) (by rw [sealed_length, ← HZL.out])
                clear hr
                have HR4 := Lib.hid hr4; have HF4 := Lib.hid hf4
                clear hr4 hf4 hg4
                go_wp2_with fail
                refine (open_sealed _ Z N (N + 4) (N + 4) _ HZL.out rfl (Nat.le_refl _) (by unfold maxLen; omega) (BytesAt.ofRow HR4.out) (by omega) (T.out.fr HF4.out (by simp))).mono ?_
                rintro e w5 ⟨g5, rfl, hr5, hf5⟩
                have HR5 := Lib.hid hr5; have HF5 := Lib.hid hf5
                clear hr5 hf5
                go_wp2_with fail
                refine (same_at (some ⟨g5, 0, none⟩) ag Z Z N N N cg _ HZL.out HZL.out (BytesAt.ofRow HR5.out) ((HB.out.fr0 HF4.out).fr0 HF5.out) (by unfold maxLen; omega) (by unfold maxLen; omega) true (decide_eq_true rfl)).mono ?_
                rintro e w6 ⟨rfl, nd, rfl⟩
                go_wp2
                go_ret
                exact ⟨rfl, (((HFL.out.trans0 HF.out).trans0 HF4.out).trans0 HF5.out).drewN _⟩
end Go.Proofs.YtoooflagkhpnkaaDoor
