/- Contracts: jotterref01's Seal and Open; the walk of jotterlaw01.OctetSeals. -/
import Derived.Test.YtoooflagkhpnkaaDoorTold
import Derived.Test.YtoooflagkhpnkaaDoorSums
import Derived.Test.YtoooflagkhpnkaaDoorRefC
import Derived.OwnWalk
namespace Go.Proofs.YtoooflagkhpnkaaDoor
open Go Go.RowKit
set_option linter.unusedVariables false

theorem lit1 (w : World) (v : Value) (T : TypeId) : ∀ j u, [v][j]? = some u → (w.alloc (.cells #[v] T)).cell? ((⟨w.heap.size, 0, none⟩ : Addr).add j) = some u := by
  intro j u hj
  match j, hj with
  | 0, hj => simp at hj; subst hj; simp [Addr.add]
theorem IsFault.drewN {w : World} {v : Value} {a c : Int} (h : IsFault w v a c) (n : Nat) : IsFault (w.drewN n) v a c := h
theorem sealed_get (l : List UInt8) (k : Nat) (hk : k < 4) : (sealed l)[l.length + k]? = some (sumByte (crc l) k) := by
  rw [sealed_sum, List.getElem?_append_right (by omega), Nat.add_sub_cancel_left]
  rcases (show k = 0 ∨ k = 1 ∨ k = 2 ∨ k = 3 by omega) with rfl | rfl | rfl | rfl <;> rfl
theorem sealed_step (l : List UInt8) (n k : Nat) (hn : n = l.length) (hk : k < 4) : (sealed l).take (n + (k + 1)) = (sealed l).take (n + k) ++ [sumByte (crc l) k] := by
  subst hn
  rw [← Nat.add_assoc, List.take_add_one, sealed_get l k hk]
  rfl

set_option maxRecDepth 100000 in
set_option maxHeartbeats 1000000 in
theorem refSeal_any (a : Option Addr) (l : List UInt8) (n c : Nat) (w : World) (hn : n = l.length) (h : BytesAt w a l) (hm : n ≤ 1000) :
    Calls Tryd.prog 30 #[.slice a n c] w (RetOwn w (sealed l)) := by
  have HN := Lib.hid hn; have HB := Lib.hid h
  clear hn h
  go_enter Tryd.func30, Tryd.ntmps30
  go_wp2_with fail
  rw [HN.out]
  refine (copied_any a l c _ HB.out (by have := HN.out; omega)).mono ?_
  rw [← HN.out]
  rintro e w1 hr
  obtain ⟨g, rfl, hg, hr, hf⟩ := hr.open n HN.out
  have ho := owns_row (base := w.heap.size) hr hg (by rw [bs_length, ← HN.out]; unfold maxLen; omega)
  rw [bs_length, ← HN.out] at ho
  have HO := Lib.hid ho
  have HF := Lib.hid hf
  clear hr ho hf hg
  go_wp2_with fail
  refine (refSum_at a l n c _ HN.out (HB.out.fr0 HF.out) hm).mono ?_
  rintro e w2 ⟨rfl, hf⟩
  have HO2 := Lib.hid (owns_fr0 HO.out hf)
  have HF2 := Lib.hid (HF.out.trans0 hf)
  clear hf HO HF
  obtain ⟨s, hs⟩ : ∃ s, s = crc l := ⟨_, rfl⟩
  have hs1 : s < 4294967296 := by rw [hs]; exact crc_lt l
  rw [← hs]
  have HS := Lib.hid hs
  clear hs
  go_wp2_with fail
  go_loopw [3, 4, 5] (fun v x i wr => ∃ (k y cg : Nat) (ag : Option Addr), v = .slice ag (n + k) cg ∧ x = .int .u32 y ∧ i = .int .i64 k ∧ k ≤ 4 ∧ y < 4294967296 ∧ Hid (y = s / 256 ^ k) ∧ Hid (wr.ownsRow w.heap.size 5 1 (.slice ag (n + k) cg) (n + k) (bs ((sealed l).take (n + k)))) ∧ Hid (Fr [] w wr)) (fun _ _ i _ => 4 - (intOf i).toNat)
  case atStart => exact ⟨0, s, n, _, rfl, rfl, rfl, by omega, hs1, Lib.hid (by simp), Lib.hid (by
    have e1 : (sealed l).take (n + 0) = l := by rw [HN.out, sealed_sum, Nat.add_zero, List.take_left]
    rw [e1]; exact HO2.out), HF2⟩
  case round =>
    obtain ⟨k, y, cg, ag, rfl, rfl, rfl, hk, hy, HY, HOW, HFR⟩ := hrel
    by_cases hk4 : k < 4
    · have hnext : y / 256 = s / 256 ^ (k + 1) := by rw [HY.out, Nat.div_div_eq_div_mul, Nat.pow_succ]
      have HNX := Lib.hid hnext
      have hdi : ((y : Int) / 256) = ((y / 256 : Nat) : Int) := by omega
      have hq1 : y / 256 < 4294967296 := by omega
      generalize y / 256 = q at *
      have hb : ((sumByte s k).toNat : Int) = (y : Int) % 256 := by rw [sumByte, b8_int, ← HY.out]
      have HBB := Lib.hid hb
      clear hnext hb
      go_wp2_with (at_builtin; refine wpList_append_fr rfl (.tmp 14) (.tmp 18) 22 rfl w.heap.size 5 (.int .u8 0) 1 Tryd.underlying22 infoU8 rfl _ (n + k) (bs ((sealed l).take (n + k))) rfl (owns_fr0 HOW.out ((Fr.refl _ _).alloc _)) ⟨wr.heap.size, 0, none⟩ 1 1 [.int .u8 ((y : Int) % 256)] rfl rfl (lit1 _ _ _) (by intro u hu; simp at hu; subst hu; rfl) (by unfold maxLen; omega) (by omega) (by have := HFR.out.size; simp; omega) ?_; intro v' w2 ho2 hf2; have HO2 := Lib.hid ho2; have HF2 := Lib.hid ((HFR.out.alloc _).own (Nat.le_refl _) (owns_fr0 HOW.out ((Fr.refl _ _).alloc _)) hf2); clear ho2 hf2)
      obtain ⟨a2, c2, rfl, _, _, _, _⟩ := owns_slice HO2.out
      go_wp2_with fail
      go_roundw
      case rel => exact ⟨k + 1, q, c2, a2, rfl, rfl, by go_num, by omega, hq1, HNX, Lib.hid (by
          rw [sealed_step l n k HN.out hk4, ← HS.out, bs_append]
          have e2 : bs [sumByte s k] = [.int .u8 ((y : Int) % 256)] := by simp [bs, HBB.out]
          rw [e2]; exact HO2.out), HF2⟩
      case measure => simp [intOf]; omega
    · have hk4' : k = 4 := by omega
      have HK4 := Lib.hid hk4'
      clear hk4'
      go_wp2_with fail
      go_ret
      have hl : (sealed l).length = n + k := by rw [sealed_length, ← HN.out, HK4.out]
      refine ⟨ag, cg, by rw [hl]; rfl, ?_, HFR.out⟩
      rw [hl]
      have := HOW.out
      rwa [← hl, List.take_length, hl] at this

theorem refOpen_short (a : Option Addr) (n c : Nat) (w : World) (hn : n < 4) :
    Calls Tryd.prog 31 #[.slice a n c] w fun e w' => e = .returned (.tuple #[.slice none 0 0, .int .i64 10, .int .i64 n]) ∧ w = w' := by
  go_enter Tryd.func31, Tryd.ntmps31
  go_wp2
  go_ret3
  exact ⟨rfl, rfl⟩

set_option maxRecDepth 100000 in
set_option maxHeartbeats 1000000 in
theorem refOpen_long (a : Option Addr) (m t : List UInt8) (n k c : Nat) (w : World) (hk : k = m.length) (ht4 : t.length = 4) (hn : n = k + 4) (hc : n ≤ c) (hc2 : c ≤ maxLen) (h : BytesAt w a (m ++ t)) (hm : n ≤ 1000) :
    Calls Tryd.prog 31 #[.slice a n c] w fun e w' => Fr [] w w' ∧
      ((∃ a2 c2, m ++ t = sealed m ∧ e = .returned (.tuple #[.slice a2 k c2, .int .i64 0, .int .i64 (-1)]) ∧ BytesAt w' a2 m) ∨
       (m ++ t ≠ sealed m ∧ e = .returned (.tuple #[.slice none 0 0, .int .i64 11, .int .i64 k]))) := by
  unfold maxLen at hc2
  have HK := Lib.hid hk; have HT4 := Lib.hid ht4; have HN := Lib.hid hn
  have hn4 : 4 ≤ n := by omega
  have hkn : k ≤ n := by omega
  have hbm : BytesAt w a m := by have := h.take k; rwa [List.take_append_of_le_length (by omega), List.take_of_length_le (by omega)] at this
  have e0 : ((n : Int) - 4) = (k : Int) := by omega
  have hcn : k ≤ c := by omega
  have hsl : (sealed m).length = n := by rw [sealed_length]; omega
  have HSL := Lib.hid hsl; have HB := Lib.hid h; have HBM := Lib.hid hbm
  clear hk ht4 hn hsl h hbm
  go_enter Tryd.func31, Tryd.ntmps31
  go_wp2_with fail
  refine (refSeal_any a m k c _ HK.out HBM.out (by omega)).mono ?_
  rintro e w1 hr
  obtain ⟨a2, c2, rfl, hc1, hc3, ho, hbs, hf⟩ := hr.open n HSL.out.symm
  have HBS := Lib.hid hbs; have HF := Lib.hid hf; have HB1 := Lib.hid (HB.out.fr0 hf)
  unfold maxLen at hc3
  clear hr ho hbs hf
  go_wp2_with fail
  go_loopw [7] (fun i wr => ∃ j : Nat, i = .int .i64 j ∧ j ≤ 4 ∧ Hid (∀ x, x < j → t[x]? = (sealed m)[k + x]?) ∧ Hid (∃ n, wr = w1.drewN n)) (fun i _ => 4 - (intOf i).toNat)
  case atStart => exact ⟨0, rfl, by omega, Lib.hid (fun x hx => by omega), Lib.hid ⟨0, rfl⟩⟩
  case round =>
    obtain ⟨j, rfl, hj, HM, nd, rfl⟩ := hrel
    by_cases hj4 : j < 4
    · obtain ⟨p, hp⟩ : ∃ p, p = k + j := ⟨_, rfl⟩
      have hpi : (k : Int) + (j : Int) = (p : Int) := by omega
      obtain ⟨b1, o1, rfl, hc1'⟩ := HB1.out.get p (by rw [List.length_append]; have := HK.out; have := HT4.out; omega)
      obtain ⟨b2, o2, rfl, hc2'⟩ := HBS.out.get p (by have := HSL.out; have := HN.out; omega)
      obtain ⟨x, hx⟩ : ∃ x, x = (m ++ t)[p]'(by rw [List.length_append]; have := HK.out; have := HT4.out; omega) := ⟨_, rfl⟩
      obtain ⟨y, hy⟩ : ∃ y, y = (sealed m)[p]'(by have := HSL.out; have := HN.out; omega) := ⟨_, rfl⟩
      rw [← hx] at hc1'
      rw [← hy] at hc2'
      have hx2 : t[j]? = some x := by
        have h0 : (m ++ t)[p]? = some x := by rw [hx]; exact List.getElem?_eq_getElem _
        rw [List.getElem?_append_right (by have := HK.out; omega), show p - m.length = j by have := HK.out; omega] at h0
        exact h0
      have hy2 : (sealed m)[k + j]? = some y := by
        have h0 : (sealed m)[p]? = some y := by rw [hy]; exact List.getElem?_eq_getElem _
        rwa [hp] at h0
      have HX := Lib.hid hx2; have HY := Lib.hid hy2
      have i0 : (0 : Int) ≤ (p : Int) := by omega
      have i1 : (p : Int) < (n : Int) := by have := HN.out; omega
      have q4 : ((p : Int)).toNat = p := by omega
      have q1 : IntKind.i64.wrap (p : Int) = (p : Int) := IntWalk.i64_in _ (by omega)
      clear hx hy hx2 hy2 hp
      by_cases hxy : x = y
      · have q7 : ((y.toNat : Int) != (x.toNat : Int)) = false := by rw [hxy]; simp
        have HXY := Lib.hid hxy
        clear hxy
        go_wp2_with fail
        go_quiet (fail)
        clear q1 q4
        go_wp2_with fail
        go_roundw
        case rel => exact ⟨j + 1, by go_num, by omega, Lib.hid (fun z hz => by
          by_cases hzj : z = j
          · subst hzj
            rw [HX.out, HY.out, HXY.out]
          · exact HM.out z (by omega)), Lib.hid ⟨nd + nq, rfl⟩⟩
        case measure => simp [intOf]; omega
      · have q7 : ((y.toNat : Int) != (x.toNat : Int)) = true := by
          simp only [bne_iff_ne, ne_eq, Int.natCast_inj]; exact fun h => hxy (UInt8.toNat_inj.1 h.symm)
        have HXY := Lib.hid hxy
        clear hxy
        go_wp2_with fail
        go_quiet (fail)
        clear q1 q4
        go_wp2_with fail
        go_ret3
        refine ⟨(HF.out.drewN _).drewN _, .inr ⟨fun hh => ?_, rfl⟩⟩
        have h1 := HX.out; have h2 := HY.out
        rw [← hh, List.getElem?_append_right (by have := HK.out; omega), show k + j - m.length = j by have := HK.out; omega, h1] at h2
        exact HXY.out (Option.some.inj h2)
    · have hj4' : j = 4 := by omega
      have HJ := Lib.hid hj4'
      clear hj4'
      have hkc2 : k ≤ c2 := by omega
      go_wp2_with fail
      go_ret3
      refine ⟨HF.out.drewN _, .inl ⟨a2, c2, ?_, rfl, ?_⟩⟩
      · have ht : t = (sealed m).drop k := by
          apply List.ext_getElem?
          intro i
          rw [List.getElem?_drop]
          by_cases hi : i < 4
          · exact HM.out i (by rw [HJ.out]; exact hi)
          · rw [List.getElem?_eq_none (by have := HT4.out; omega), List.getElem?_eq_none (by have := HSL.out; have := HN.out; omega)]
        rw [ht]
        have hm2 : m = (sealed m).take k := by rw [sealed_sum, HK.out, List.take_left]
        conv => lhs; lhs; rw [hm2]
        rw [List.take_append_drop]
      · have := (HBS.out.take k).drewN nd
        rwa [sealed_sum, HK.out, List.take_left] at this

theorem open_seal (a : Option Addr) (m : List UInt8) (k n c : Nat) (w : World) (hk : k = m.length) (hn : n = k + 4) (hc : n ≤ c) (hc2 : c ≤ maxLen) (h : BytesAt w a (sealed m)) (hm : n ≤ 281474976710000) (ht : Tbl w) :
    Calls Tryd.prog 19 #[.slice a n c] w fun e w' => ∃ g, e = .returned (.tuple #[.slice (some ⟨g, 0, none⟩) k k, .nilIface]) ∧ Row w' g (bs m) 5 ∧ Fr [] w w' := by
  rw [sealed_sum] at h
  refine (open_long a m _ n k c w hk (by simp) hn hc hc2 h hm ht).mono ?_
  rintro e w' ⟨hf, ⟨g, _, he, _, hr⟩ | ⟨v, hne, _⟩⟩
  · exact ⟨g, he, hr, hf⟩
  · exact absurd (sealed_sum m).symm hne

set_option maxRecDepth 100000 in
set_option maxHeartbeats 4000000 in
theorem octetSeals_walk (a : Option Addr) (la : List UInt8) (ca : Nat) {w : World} (ha : BytesAt w a la) (h1 : la.length ≤ ca) (m1 : ca ≤ maxLen) (ht : Tbl w) (he : ErrT w) :
    Calls Tryd.prog 7 #[.slice a la.length ca] w fun e w' => e = .returned (.bool true) ∧ Fr [] w w' := by
  obtain ⟨n, hn⟩ : ∃ n, n = min la.length 600 := ⟨_, rfl⟩
  obtain ⟨l, hl⟩ : ∃ l, l = la.take n := ⟨_, rfl⟩
  have hnl : n = l.length := by rw [hl, List.length_take]; omega
  have hbl : BytesAt w a l := by rw [hl]; exact ha.take n
  have hn6 : n ≤ 600 := by omega
  have hnc : n ≤ ca := by omega
  have HN := Lib.hid hn; have HL := Lib.hid hnl
  have H1 := Lib.hid h1; have M1 := Lib.hid m1; have HBL := Lib.hid hbl; have HTT := Lib.hid ht; have HE := Lib.hid he
  clear hn hnl hl ha h1 m1 hbl ht he
  obtain ⟨n4, hn4⟩ : ∃ n4, n4 = n + 4 := ⟨_, rfl⟩
  have hn604 : n4 ≤ 604 := by omega
  have HN4 := Lib.hid hn4
  clear hn4
  have hsl : Hid (n4 = (sealed l).length) := Lib.hid (by rw [sealed_length, ← HL.out]; exact HN4.out)
  go_enter Tryd.func7, Tryd.ntmps7
  go_wp2_with fail
  refine (cut_at _ _ _ _ _ HN.out H1.out M1.out).mono ?_
  rintro e w1 ⟨rfl, rfl⟩
  go_wp2_with fail
  refine (twin_at _ l n _ _ HL.out HBL.out (by have := HL.out; omega)).mono ?_
  rintro e w1 hr
  obtain ⟨g, rfl, hg, hr, hf⟩ := hr.open n HL.out
  have HF := Lib.hid hf
  have HR := Lib.hid (BytesAt.ofRow hr)
  clear hr hf hg
  go_wp2_with fail
  refine (seal_any _ l n ca _ HL.out (HBL.out.fr0 HF.out) (by have := HL.out; omega) (HTT.out.fr HF.out (by simp))).mono ?_
  rintro e w3 hr
  obtain ⟨g3, rfl, hg3, hr3, hf3⟩ := hr.open n4 hsl.out
  have HF3 := Lib.hid (HF.out.trans0 hf3)
  have HR3 := Lib.hid (BytesAt.ofRow hr3)
  have HC3 := Lib.hid (HR.out.fr0 hf3)
  clear hr hf3 hr3 hg3
  go_wp2_with fail
  refine (refSeal_any _ l n n _ HL.out HC3.out (by omega)).mono ?_
  rintro e w4 hr
  obtain ⟨a4, c4, rfl, h41, h42, _, hb4, hf4⟩ := hr.open n4 hsl.out
  have HF4 := Lib.hid (HF3.out.trans0 hf4)
  have HR4 := Lib.hid (HR3.out.fr0 hf4)
  have HC4 := Lib.hid (HC3.out.fr0 hf4)
  have HB4 := Lib.hid hb4
  clear hr hf4 hb4
  go_wp2_with fail
  refine (same_at _ _ _ _ n4 n4 n4 c4 _ hsl.out hsl.out HR4.out HB4.out (by unfold maxLen; omega) (by unfold maxLen; omega) true (decide_eq_true rfl)).mono ?_
  rintro e w5 ⟨rfl, nd, rfl⟩
  obtain ⟨w5, hw5⟩ : ∃ w5, w5 = w4.drewN nd := ⟨_, rfl⟩
  have HF5 : Hid (Fr [] w w5) := Lib.hid (by rw [hw5]; exact HF4.out.drewN nd)
  have HR5 : Hid (BytesAt w5 _ _) := Lib.hid (by rw [hw5]; exact HR4.out.drewN nd)
  have HC5 : Hid (BytesAt w5 _ _) := Lib.hid (by rw [hw5]; exact HC4.out.drewN nd)
  rw [← hw5]
  clear hw5
  by_cases h4 : n < 4
  · go_wp2_with fail
    refine (open_short _ n ca _ h4).mono ?_
    rintro e w6 ⟨v, rfl, hi, hf⟩
    have HI := Lib.hid hi
    have HF6 := Lib.hid (HF5.out.trans0 hf); have HR6 := Lib.hid (HR5.out.fr0 hf); have HC6 := Lib.hid (HC5.out.fr0 hf)
    obtain ⟨gv, rfl, _⟩ := hi
    clear hf
    go_wp2_with fail
    refine (refOpen_short _ n n _ h4).mono ?_
    rintro e w7 ⟨rfl, rfl⟩
    go_wp2_with fail
    refine (same_at _ _ [] [] 0 0 0 0 _ rfl rfl (BytesAt.nil _ _) (BytesAt.nil _ _) (by unfold maxLen; omega) (by unfold maxLen; omega) true (decide_eq_true rfl)).mono ?_
    rintro e w8 ⟨rfl, nd8, rfl⟩
    go_wp2_with fail
    refine (told_fault _ n 10 _ (HE.out.fr (HF6.out.drewN nd8) (by simp)) (HI.out.drewN nd8) (by decide)).mono ?_
    rintro e w9 ⟨rfl, hf⟩
    have HF9 := Lib.hid ((HF6.out.drewN nd8).trans0 hf); have HR9 := Lib.hid ((HR6.out.drewN nd8).fr0 hf); have HC9 := Lib.hid ((HC6.out.drewN nd8).fr0 hf)
    clear hf
    go_wp2_with fail
    refine (open_seal _ l n n4 n4 _ HL.out HN4.out (Nat.le_refl _) (by unfold maxLen; omega) HR9.out (by omega) (HTT.out.fr HF9.out (by simp))).mono ?_
    rintro e wa ⟨ga, rfl, hra, hfa⟩
    have HFA := Lib.hid (HF9.out.trans0 hfa); have HRA := Lib.hid (BytesAt.ofRow hra); have HCA := Lib.hid (HC9.out.fr0 hfa)
    clear hra hfa
    go_wp2_with fail
    refine (same_at _ _ _ _ n n n n _ HL.out HL.out HRA.out HCA.out (by unfold maxLen; omega) (by unfold maxLen; omega) true (decide_eq_true rfl)).mono ?_
    rintro e wb ⟨rfl, ndb, rfl⟩
    go_wp2
    go_ret
    exact ⟨rfl, HFA.out.drewN _⟩
  · obtain ⟨k, hk⟩ : ∃ k, k = n - 4 := ⟨_, rfl⟩
    obtain ⟨m, hm⟩ : ∃ m, m = l.take k := ⟨_, rfl⟩
    obtain ⟨t, htl⟩ : ∃ t, t = l.drop k := ⟨_, rfl⟩
    have hnk : n = k + 4 := by omega
    have hkm : k = m.length := by rw [hm, List.length_take]; have := HL.out; omega
    have ht4 : t.length = 4 := by rw [htl, List.length_drop]; have := HL.out; omega
    have hmt : l = m ++ t := by rw [hm, htl, List.take_append_drop]
    have hk6 : k ≤ 600 := by omega
    have HNK := Lib.hid hnk; have HKM := Lib.hid hkm; have HT4 := Lib.hid ht4; have HMT := Lib.hid hmt
    clear hk hm htl hnk hkm ht4 hmt
    go_wp2_with fail
    refine (open_long _ m t n k ca _ HKM.out HT4.out HNK.out hnc M1.out (by rw [← HMT.out]; exact HBL.out.fr0 HF5.out) (by omega) (HTT.out.fr HF5.out (by simp))).mono ?_
    rintro e w6 ⟨hf, ⟨g6, hs, rfl, _, hr6⟩ | ⟨v, hs, rfl, hi⟩⟩
    · have HF6 := Lib.hid (HF5.out.trans0 hf); have HR6 := Lib.hid (HR5.out.fr0 hf); have HC6 := Lib.hid (HC5.out.fr0 hf); have HM6 := Lib.hid (BytesAt.ofRow hr6)
      have HS := Lib.hid hs
      clear hf hr6 hs
      go_wp2_with fail
      refine (refOpen_long _ m t n k n _ HKM.out HT4.out HNK.out (Nat.le_refl _) (by unfold maxLen; omega) (by rw [← HMT.out]; exact HC6.out) (by omega)).mono ?_
      rintro e w7 ⟨hf, h7⟩
      obtain ⟨a7, c7, rfl, hr7⟩ : ∃ a7 c7, e = .returned (.tuple #[.slice a7 k c7, .int .i64 0, .int .i64 (-1)]) ∧ BytesAt w7 a7 m := by
        rcases h7 with ⟨a7, c7, _, he, hr⟩ | ⟨hs, _⟩
        · exact ⟨a7, c7, he, hr⟩
        · exact absurd HS.out hs
      clear h7
      have HF7 := Lib.hid (HF6.out.trans0 hf); have HR7 := Lib.hid (HR6.out.fr0 hf); have HC7 := Lib.hid (HC6.out.fr0 hf); have HM7 := Lib.hid (HM6.out.fr0 hf); have HQ7 := Lib.hid hr7
      clear hf hr7
      go_wp2_with fail
      refine (same_at _ _ _ _ k k k c7 _ HKM.out HKM.out HM7.out HQ7.out (by unfold maxLen; omega) (by unfold maxLen; omega) true (decide_eq_true rfl)).mono ?_
      rintro e w8 ⟨rfl, nd8, rfl⟩
      go_wp2_with fail
      refine (told_nil _ _).mono ?_
      rintro e w9 ⟨rfl, rfl⟩
      go_wp2_with fail
      refine (open_seal _ l n n4 n4 _ HL.out HN4.out (Nat.le_refl _) (by unfold maxLen; omega) (HR7.out.drewN nd8) (by omega) (HTT.out.fr (HF7.out.drewN nd8) (by simp))).mono ?_
      rintro e wa ⟨ga, rfl, hra, hfa⟩
      have HFA := Lib.hid ((HF7.out.drewN nd8).trans0 hfa); have HRA := Lib.hid (BytesAt.ofRow hra); have HCA := Lib.hid ((HC7.out.drewN nd8).fr0 hfa)
      clear hra hfa
      go_wp2_with fail
      refine (same_at _ _ _ _ n n n n _ HL.out HL.out HRA.out HCA.out (by unfold maxLen; omega) (by unfold maxLen; omega) true (decide_eq_true rfl)).mono ?_
      rintro e wb ⟨rfl, ndb, rfl⟩
      go_wp2
      go_ret
      exact ⟨rfl, HFA.out.drewN _⟩
    · have HI := Lib.hid hi
      obtain ⟨gv, rfl, _⟩ := hi
      have HF6 := Lib.hid (HF5.out.trans0 hf); have HR6 := Lib.hid (HR5.out.fr0 hf); have HC6 := Lib.hid (HC5.out.fr0 hf)
      have HS := Lib.hid hs
      clear hf hs
      go_wp2_with fail
      refine (refOpen_long _ m t n k n _ HKM.out HT4.out HNK.out (Nat.le_refl _) (by unfold maxLen; omega) (by rw [← HMT.out]; exact HC6.out) (by omega)).mono ?_
      rintro e w7 ⟨hf, h7⟩
      obtain rfl : e = .returned (.tuple #[.slice none 0 0, .int .i64 11, .int .i64 k]) := by
        rcases h7 with ⟨a7, c7, hs, _⟩ | ⟨_, he⟩
        · exact absurd hs HS.out
        · exact he
      clear h7
      have HF7 := Lib.hid (HF6.out.trans0 hf); have HR7 := Lib.hid (HR6.out.fr0 hf); have HC7 := Lib.hid (HC6.out.fr0 hf); have HI7 := Lib.hid (HI.out.fr0 hf)
      clear hf
      go_wp2_with fail
      refine (same_at _ _ [] [] 0 0 0 0 _ rfl rfl (BytesAt.nil _ _) (BytesAt.nil _ _) (by unfold maxLen; omega) (by unfold maxLen; omega) true (decide_eq_true rfl)).mono ?_
      rintro e w8 ⟨rfl, nd8, rfl⟩
      go_wp2_with fail
      refine (told_fault _ k 11 _ (HE.out.fr (HF7.out.drewN nd8) (by simp)) (HI7.out.drewN nd8) (by decide)).mono ?_
      rintro e w9 ⟨rfl, hf⟩
      have HF9 := Lib.hid ((HF7.out.drewN nd8).trans0 hf); have HR9 := Lib.hid ((HR7.out.drewN nd8).fr0 hf); have HC9 := Lib.hid ((HC7.out.drewN nd8).fr0 hf)
      clear hf
      go_wp2_with fail
      refine (open_seal _ l n n4 n4 _ HL.out HN4.out (Nat.le_refl _) (by unfold maxLen; omega) HR9.out (by omega) (HTT.out.fr HF9.out (by simp))).mono ?_
      rintro e wa ⟨ga, rfl, hra, hfa⟩
      have HFA := Lib.hid (HF9.out.trans0 hfa); have HRA := Lib.hid (BytesAt.ofRow hra); have HCA := Lib.hid (HC9.out.fr0 hfa)
      clear hra hfa
      go_wp2_with fail
      refine (same_at _ _ _ _ n n n n _ HL.out HL.out HRA.out HCA.out (by unfold maxLen; omega) (by unfold maxLen; omega) true (decide_eq_true rfl)).mono ?_
      rintro e wb ⟨rfl, ndb, rfl⟩
      go_wp2
      go_ret
      exact ⟨rfl, HFA.out.drewN _⟩
end Go.Proofs.YtoooflagkhpnkaaDoor
