/- The walk of jotterlaw01.OctetStays. (Written by gen_stays.py.) -/
import Derived.Test.YtoooflagkhpnkaaDoorReadB
import Derived.Test.YtoooflagkhpnkaaDoorTold
import Derived.Test.YtoooflagkhpnkaaDoorOps
namespace Go.Proofs.YtoooflagkhpnkaaDoor
open Go Go.RowKit
set_option linter.unusedVariables false

theorem Fr.transNew {w w1 w2 : World} {g : Nat} (h : Fr [] w w1) (k : Fr [g] w1 w2) (hg : w.heap.size ≤ g) : Fr [] w w2 :=
  h.trans k fun b hb hlt => by simp at hb; omega
theorem RdS.stuck {s : RdS} {e0 : Nat} (h : s.bad = some e0) (x : Int) : s.got x = [] ∧ s.after x = s ∧ ¬ s.can x := by
  have hc : ¬ s.can x := fun hc => by rw [hc.1] at h; cases h
  refine ⟨by rw [RdS.got, if_neg hc], ?_, hc⟩
  rw [RdS.after, if_neg hc, if_neg (by rw [h]; simp)]
theorem u8_stuck (g : Nat) (s : RdS) (e0 : Nat) (w : World) (h : Rdr w g s) (hb : s.bad = some e0) :
    Calls Tryd.prog 39 #[.pointer (some ⟨g, 0, none⟩)] w fun e w' => e = .returned (.int .i64 0) ∧ Rdr w' g s ∧ Fr [g] w w' := by
  have := u8_any g s w h
  rw [(RdS.stuck hb 1).1, (RdS.stuck hb 1).2.1] at this
  exact this
theorem u16_stuck (g : Nat) (s : RdS) (e0 : Nat) (w : World) (h : Rdr w g s) (hb : s.bad = some e0) :
    Calls Tryd.prog 40 #[.pointer (some ⟨g, 0, none⟩)] w fun e w' => e = .returned (.int .i64 0) ∧ Rdr w' g s ∧ Fr [g] w w' := by
  have := u16_any g s w h
  rw [(RdS.stuck hb 2).1, (RdS.stuck hb 2).2.1] at this
  exact this
theorem u32_stuck (g : Nat) (s : RdS) (e0 : Nat) (w : World) (h : Rdr w g s) (hb : s.bad = some e0) :
    Calls Tryd.prog 41 #[.pointer (some ⟨g, 0, none⟩)] w fun e w' => e = .returned (.int .u32 0) ∧ Rdr w' g s ∧ Fr [g] w w' := by
  have := u32_any g s w h
  rw [(RdS.stuck hb 4).1, (RdS.stuck hb 4).2.1] at this
  exact this
theorem take_stuck (g : Nat) (s : RdS) (e0 : Nat) (x : Int) (w : World) (h : Rdr w g s) (hb : s.bad = some e0) :
    Calls Tryd.prog 28 #[.pointer (some ⟨g, 0, none⟩), .int .i64 x] w fun e w' => e = .returned (.slice none 0 0) ∧ Rdr w' g s ∧ Fr [g] w w' := by
  refine (take_any g s x w h).mono ?_
  rw [(RdS.stuck hb x).1, (RdS.stuck hb x).2.1]
  rintro e w' ⟨a, n, c, rfl, ht, hr, hf⟩
  rcases ht with ⟨_, _, _, _, _, _, hc⟩ | ⟨rfl, rfl, rfl, _, _⟩
  · exact absurd hc (RdS.stuck hb x).2.2
  · exact ⟨rfl, hr, hf⟩
/-- a Take that fails -/
theorem take_fails (g : Nat) (l : List UInt8) (k : Nat) (x : Int) (w : World) (h : Rdr w g ⟨l, k, none⟩) (hx : (l.length : Int) - k < x) :
    Calls Tryd.prog 28 #[.pointer (some ⟨g, 0, none⟩), .int .i64 x] w fun e w' => e = .returned (.slice none 0 0) ∧ Rdr w' g ⟨l, k, some k⟩ ∧ Fr [g] w w' := by
  have hc : ¬ (⟨l, k, none⟩ : RdS).can x := fun hc => by have := hc.2.2; simp only at this; omega
  refine (take_any g _ x w h).mono ?_
  rintro e w' ⟨a, n, c, rfl, ht, hr, hf⟩
  rw [RdS.after, if_neg hc, if_pos rfl] at hr
  rcases ht with ⟨_, _, _, _, _, _, hc'⟩ | ⟨rfl, rfl, rfl, _, _⟩
  · exact absurd hc' hc
  · exact ⟨rfl, hr, hf⟩
/-- a Take that gets its bytes -/
theorem take_gets (g : Nat) (l : List UInt8) (p k q : Nat) (w : World) (h : Rdr w g ⟨l, p, none⟩) (hx : p + k ≤ l.length) (hq : q = p + k) :
    Calls Tryd.prog 28 #[.pointer (some ⟨g, 0, none⟩), .int .i64 k] w fun e w' => ∃ gx, e = .returned (.slice (some ⟨gx, 0, none⟩) k k) ∧ w.heap.size ≤ gx ∧ Row w' gx (bs ((l.drop p).take k)) 5 ∧ Rdr w' g ⟨l, q, none⟩ ∧ Fr [g] w w' := by
  subst hq
  have hc : (⟨l, p, none⟩ : RdS).can (k : Int) := ⟨rfl, by omega, by simp only; omega⟩
  have hgot : (⟨l, p, none⟩ : RdS).got (k : Int) = (l.drop p).take k := by rw [RdS.got, if_pos hc]; rfl
  have hlen : ((l.drop p).take k).length = k := by simp; omega
  refine (take_any g _ _ w h).mono ?_
  rintro e w' ⟨a, n, c, rfl, ht, hr, hf⟩
  rw [RdS.after, if_pos hc] at hr
  rw [hgot] at ht
  rcases ht with ⟨gx, rfl, hn, rfl, hg, hrow, _⟩ | ⟨_, _, _, _, hc'⟩
  · rw [hlen] at hn
    subst hn
    exact ⟨gx, rfl, hg, hrow, hr, hf⟩
  · exact absurd hc hc'

set_option maxRecDepth 100000 in
set_option maxHeartbeats 8000000 in
theorem octetStays_walk (a : Option Addr) (la : List UInt8) (ca : Nat) {w : World} (ha : BytesAt w a la) (h1 : la.length ≤ ca) (m1 : ca ≤ maxLen) (x : Int) (hx : (Lit.int .i64 x).wf = true)
    (b : Option Addr) (ol : List OpR) (cb : Nat) (hb : OpsAt w b ol) (h2 : ol.length ≤ cb) (m2 : cb ≤ maxLen) (he : ErrT w) :
    Calls Tryd.prog 11 #[.slice a la.length ca, .int .i64 x, .slice b ol.length cb] w fun e w' => e = .returned (.bool true) ∧ Fr [] w w' := by
  obtain ⟨n, hn⟩ : ∃ n, n = min la.length 600 := ⟨_, rfl⟩
  obtain ⟨l, hl⟩ : ∃ l, l = la.take n := ⟨_, rfl⟩
  have hnl : n = l.length := by rw [hl, List.length_take]; omega
  have hbl : BytesAt w a l := by rw [hl]; exact ha.take n
  have hn6 : n ≤ 600 := by omega
  obtain ⟨no, hno⟩ : ∃ n, n = ol.length := ⟨_, rfl⟩
  have hno2 : no ≤ 9223372036854775807 := by unfold maxLen at m2; omega
  rw [← hno]
  have hnc : n ≤ ca := by omega
  have hbx := bounds_i64 hx
  have HN := Lib.hid hn; have HL := Lib.hid hnl; have HNO := Lib.hid hno
  have H1 := Lib.hid h1; have M1 := Lib.hid m1; have HBL := Lib.hid hbl; have HE := Lib.hid he; have HOP := Lib.hid hb
  clear hn hnl hl ha hno h1 m1 h2 m2 hbl he hb hx
  go_enter Tryd.func11, Tryd.ntmps11
  go_wp2_with fail
  refine (cut_at _ _ _ _ _ HN.out H1.out M1.out).mono ?_
  rintro e w1 ⟨rfl, rfl⟩
  go_wp2_with fail
  refine (newReader_any _ l n ca _ HL.out HBL.out (by omega)).mono ?_
  rintro e w1 ⟨g, rfl, hg, hr, hf⟩
  have HR := Lib.hid hr; have HF := Lib.hid hf
  clear hr hf
  go_wp2_with fail
  refine (left_any g _ _ HR.out).mono ?_
  rintro e w2 ⟨rfl, nd, rfl⟩
  have hl0 : (l.length - 0 : Nat) = n := by rw [Nat.sub_zero]; exact HL.out.symm
  simp only [hl0]
  clear hl0
  have HR2 := Lib.hid (HR.out.drewN nd); have HF2 := Lib.hid (HF.out.drewN nd)
  clear HR HF
  go_wp2_with fail
  refine (err_any g _ _ HR2.out).mono ?_
  rintro e w3 ⟨v, rfl, hv, rfl⟩
  obtain rfl : v = .nilIface := hv
  by_cases hxr : 0 ≤ x ∧ x ≤ (n : Int)
  · obtain ⟨k, rfl⟩ : ∃ k : Nat, x = (k : Int) := ⟨x.toNat, by omega⟩
    have hkn : k ≤ n := by omega
    obtain ⟨d, hd⟩ : ∃ d, d = n - k := ⟨_, rfl⟩
    have hdi : (n : Int) - (k : Int) = (d : Int) := by omega
    have HD : Hid (l.length - k = d) := Lib.hid (by rw [← HL.out, hd])
    have HK : Hid (0 + k ≤ l.length) := Lib.hid (by rw [← HL.out]; omega)
    have hd6 : d ≤ 600 := by omega
    have t1 : ¬ ((k : Int) < 0) := by omega
    have t2 : ¬ ((n : Int) < (k : Int)) := by omega
    have hkc : k ≤ ca := by omega
    clear hd hxr hbx
    go_wp2_with fail
    refine (take_gets g l 0 k k _ HR2.out HK.out (by omega)).mono ?_
    rintro e w4 ⟨gx, rfl, hgx, hrow, hr, hf⟩
    have HF3 := Lib.hid (HF2.out.transNew hf hg); have HR3 := Lib.hid hr
    have hrow' : BytesAt w4 (some ⟨gx, 0, none⟩) (l.take k) := by have := BytesAt.ofRow hrow; rwa [List.drop_zero] at this
    have HROW := Lib.hid hrow'
    have HLK : Hid (k = (l.take k).length) := Lib.hid (by rw [List.length_take, ← HL.out]; omega)
    clear hr hf hrow hrow' HR2 HF2
    go_wp2_with fail
    refine (same_at (some ⟨gx, 0, none⟩) a (l.take k) (l.take k) k k k ca _ HLK.out HLK.out HROW.out ((HBL.out.fr0 HF3.out).take k) (by unfold maxLen; omega) (by unfold maxLen; omega) true (decide_eq_true rfl)).mono ?_
    rintro e w5 ⟨rfl, nd5, rfl⟩
    have HR4 := Lib.hid (HR3.out.drewN nd5); have HF4 := Lib.hid (HF3.out.drewN nd5)
    clear HR3 HF3 HROW
    go_wp2_with fail
    refine (take_fails g l k ((d : Int) + 1) _ HR4.out (by rw [← HL.out]; omega)).mono ?_
    rintro e w6 ⟨rfl, hr, hf⟩
    have HF5 := Lib.hid (HF4.out.transNew hf hg); have HR5 := Lib.hid hr
    clear hr hf HR4 HF4
    go_wp2_with fail
    refine (err_any g _ _ HR5.out).mono ?_
    rintro e w7 ⟨v, rfl, hv, rfl⟩
    have HI : Hid (IsFault w6 v k 10) := Lib.hid hv
    obtain ⟨gv, rfl, _⟩ := hv
    go_wp2_with fail
    refine (told_fault _ k 10 _ (HE.out.fr HF5.out (by simp)) HI.out (by decide)).mono ?_
    rintro e w8 ⟨rfl, hf⟩
    have HR6 := Lib.hid (HR5.out.fr0 hf); have HF6 := Lib.hid (HF5.out.trans0 hf)
    clear hf HR5 HF5 HI
    go_wp2_with fail
    go_loopw [9] (fun i wr => ∃ j : Nat, i = .int .i64 j ∧ j ≤ no ∧ Hid (Rdr wr g ⟨l, k, some k⟩) ∧ Hid (Fr [] w wr)) (fun i _ => no - (intOf i).toNat)
    case atStart => exact ⟨0, rfl, Nat.zero_le _, HR6, HF6⟩
    case round =>
      clear HR6 HF6
      obtain ⟨j, rfl, hj, HRJ, HFJ⟩ := hrel
      by_cases hlt : j < no
      · go_wp2_with fail
        refine (u8_stuck g _ k _ HRJ.out rfl).mono ?_
        rintro e wa ⟨rfl, hr, hf⟩
        have HRA := Lib.hid hr; have HFA := Lib.hid (HFJ.out.transNew hf hg)
        clear hr hf
        go_wp2_with fail
        refine (u16_stuck g _ k _ HRA.out rfl).mono ?_
        rintro e wb ⟨rfl, hr, hf⟩
        have HRB := Lib.hid hr; have HFB := Lib.hid (HFA.out.transNew hf hg)
        clear hr hf
        go_wp2_with fail
        refine (u32_stuck g _ k _ HRB.out rfl).mono ?_
        rintro e wc ⟨rfl, hr, hf⟩
        have HRC := Lib.hid hr; have HFC := Lib.hid (HFB.out.transNew hf hg)
        clear hr hf
        obtain ⟨bo, oo, rfl, _, _, q2, _⟩ := (HOP.out.fr0 HFC.out).get j (by have := HNO.out; omega)
        generalize (ol[j]'(by have := HNO.out; omega)).n = xn at q2
        go_wp2_with fail
        refine (take_stuck g _ k _ _ HRC.out rfl).mono ?_
        rintro e wd ⟨rfl, hr, hf⟩
        have HRD := Lib.hid hr; have HFD := Lib.hid (HFC.out.transNew hf hg)
        clear hr hf q2
        go_wp2_with fail
        refine (at_any g _ _ HRD.out).mono ?_
        rintro e we ⟨rfl, rfl⟩
        go_wp2_with fail
        refine (left_any g _ _ HRD.out).mono ?_
        rintro e wf ⟨rfl, ndf, rfl⟩
        simp only [HD.out]
        have HRF := Lib.hid (HRD.out.drewN ndf); have HFF := Lib.hid (HFD.out.drewN ndf)
        go_wp2_with fail
        refine (err_any g _ _ HRF.out).mono ?_
        rintro e wg ⟨v, rfl, hv, rfl⟩
        have HI : Hid (IsFault _ v k 10) := Lib.hid hv
        obtain ⟨gv, rfl, _⟩ := hv
        go_wp2_with fail
        refine (told_fault _ k 10 _ (HE.out.fr HFF.out (by simp)) HI.out (by decide)).mono ?_
        rintro e wh ⟨rfl, hf⟩
        have HRH := Lib.hid (HRF.out.fr0 hf); have HFH := Lib.hid (HFF.out.trans0 hf)
        clear hf
        go_wp2_with fail
        go_roundw
        case rel => exact ⟨j + 1, by go_num, by omega, HRH, HFH⟩
        case measure => simp [intOf]; omega
      · go_wp2_with fail
        go_ret
        exact ⟨rfl, HFJ.out⟩
  · have t1 : (decide (x < 0) || decide ((n : Int) < x)) = true := by
      rcases Decidable.em (x < 0) with h | h
      · simp [h]
      · have : (n : Int) < x := by omega
        simp [this]
    clear hxr
    have hkn : 0 ≤ n := by omega
    have hkc : 0 ≤ ca := by omega
    have HD : Hid (l.length - 0 = n) := Lib.hid (by rw [← HL.out, Nat.sub_zero])
    have HK : Hid (0 + 0 ≤ l.length) := Lib.hid (by omega)
    by_cases t3 : x < 0
    · clear t1
      go_wp2_with fail
      refine (take_gets g l 0 0 0 _ HR2.out HK.out (by omega)).mono ?_
      rintro e w4 ⟨gx, rfl, hgx, hrow, hr, hf⟩
      have HF3 := Lib.hid (HF2.out.transNew hf hg); have HR3 := Lib.hid hr
      have hrow' : BytesAt w4 (some ⟨gx, 0, none⟩) (l.take 0) := by have := BytesAt.ofRow hrow; rwa [List.drop_zero] at this
      have HROW := Lib.hid hrow'
      have HLK : Hid (0 = (l.take 0).length) := Lib.hid (by rw [List.length_take, ← HL.out]; omega)
      clear hr hf hrow hrow' HR2 HF2
      go_wp2_with fail
      refine (same_at (some ⟨gx, 0, none⟩) a (l.take 0) (l.take 0) 0 0 0 ca _ HLK.out HLK.out HROW.out ((HBL.out.fr0 HF3.out).take 0) (by unfold maxLen; omega) (by unfold maxLen; omega) true (decide_eq_true rfl)).mono ?_
      rintro e w5 ⟨rfl, nd5, rfl⟩
      have HR4 := Lib.hid (HR3.out.drewN nd5); have HF4 := Lib.hid (HF3.out.drewN nd5)
      clear HR3 HF3 HROW
      go_wp2_with fail
      refine (take_fails g l 0 ((n : Int) + 1) _ HR4.out (by rw [← HL.out]; omega)).mono ?_
      rintro e w6 ⟨rfl, hr, hf⟩
      have HF5 := Lib.hid (HF4.out.transNew hf hg); have HR5 := Lib.hid hr
      clear hr hf HR4 HF4
      go_wp2_with fail
      refine (err_any g _ _ HR5.out).mono ?_
      rintro e w7 ⟨v, rfl, hv, rfl⟩
      have HI : Hid (IsFault w6 v 0 10) := Lib.hid hv
      obtain ⟨gv, rfl, _⟩ := hv
      go_wp2_with fail
      refine (told_fault _ 0 10 _ (HE.out.fr HF5.out (by simp)) HI.out (by decide)).mono ?_
      rintro e w8 ⟨rfl, hf⟩
      have HR6 := Lib.hid (HR5.out.fr0 hf); have HF6 := Lib.hid (HF5.out.trans0 hf)
      clear hf HR5 HF5 HI
      go_wp2_with fail
      go_loopw [9] (fun i wr => ∃ j : Nat, i = .int .i64 j ∧ j ≤ no ∧ Hid (Rdr wr g ⟨l, 0, some 0⟩) ∧ Hid (Fr [] w wr)) (fun i _ => no - (intOf i).toNat)
      case atStart => exact ⟨0, rfl, Nat.zero_le _, HR6, HF6⟩
      case round =>
        clear HR6 HF6
        obtain ⟨j, rfl, hj, HRJ, HFJ⟩ := hrel
        by_cases hlt : j < no
        · go_wp2_with fail
          refine (u8_stuck g _ 0 _ HRJ.out rfl).mono ?_
          rintro e wa ⟨rfl, hr, hf⟩
          have HRA := Lib.hid hr; have HFA := Lib.hid (HFJ.out.transNew hf hg)
          clear hr hf
          go_wp2_with fail
          refine (u16_stuck g _ 0 _ HRA.out rfl).mono ?_
          rintro e wb ⟨rfl, hr, hf⟩
          have HRB := Lib.hid hr; have HFB := Lib.hid (HFA.out.transNew hf hg)
          clear hr hf
          go_wp2_with fail
          refine (u32_stuck g _ 0 _ HRB.out rfl).mono ?_
          rintro e wc ⟨rfl, hr, hf⟩
          have HRC := Lib.hid hr; have HFC := Lib.hid (HFB.out.transNew hf hg)
          clear hr hf
          obtain ⟨bo, oo, rfl, _, _, q2, _⟩ := (HOP.out.fr0 HFC.out).get j (by have := HNO.out; omega)
          generalize (ol[j]'(by have := HNO.out; omega)).n = xn at q2
          go_wp2_with fail
          refine (take_stuck g _ 0 _ _ HRC.out rfl).mono ?_
          rintro e wd ⟨rfl, hr, hf⟩
          have HRD := Lib.hid hr; have HFD := Lib.hid (HFC.out.transNew hf hg)
          clear hr hf q2
          go_wp2_with fail
          refine (at_any g _ _ HRD.out).mono ?_
          rintro e we ⟨rfl, rfl⟩
          go_wp2_with fail
          refine (left_any g _ _ HRD.out).mono ?_
          rintro e wf ⟨rfl, ndf, rfl⟩
          simp only [HD.out]
          have HRF := Lib.hid (HRD.out.drewN ndf); have HFF := Lib.hid (HFD.out.drewN ndf)
          go_wp2_with fail
          refine (err_any g _ _ HRF.out).mono ?_
          rintro e wg ⟨v, rfl, hv, rfl⟩
          have HI : Hid (IsFault _ v 0 10) := Lib.hid hv
          obtain ⟨gv, rfl, _⟩ := hv
          go_wp2_with fail
          refine (told_fault _ 0 10 _ (HE.out.fr HFF.out (by simp)) HI.out (by decide)).mono ?_
          rintro e wh ⟨rfl, hf⟩
          have HRH := Lib.hid (HRF.out.fr0 hf); have HFH := Lib.hid (HFF.out.trans0 hf)
          clear hf
          go_wp2_with fail
          go_roundw
          case rel => exact ⟨j + 1, by go_num, by omega, HRH, HFH⟩
          case measure => simp [intOf]; omega
        · go_wp2_with fail
          go_ret
          exact ⟨rfl, HFJ.out⟩
    · have t4 : (n : Int) < x := by
        rcases Decidable.em ((n : Int) < x) with h | h
        · exact h
        · exact absurd t1 (by simp [h, t3])
      clear t1
      go_wp2_with fail
      refine (take_gets g l 0 0 0 _ HR2.out HK.out (by omega)).mono ?_
      rintro e w4 ⟨gx, rfl, hgx, hrow, hr, hf⟩
      have HF3 := Lib.hid (HF2.out.transNew hf hg); have HR3 := Lib.hid hr
      have hrow' : BytesAt w4 (some ⟨gx, 0, none⟩) (l.take 0) := by have := BytesAt.ofRow hrow; rwa [List.drop_zero] at this
      have HROW := Lib.hid hrow'
      have HLK : Hid (0 = (l.take 0).length) := Lib.hid (by rw [List.length_take, ← HL.out]; omega)
      clear hr hf hrow hrow' HR2 HF2
      go_wp2_with fail
      refine (same_at (some ⟨gx, 0, none⟩) a (l.take 0) (l.take 0) 0 0 0 ca _ HLK.out HLK.out HROW.out ((HBL.out.fr0 HF3.out).take 0) (by unfold maxLen; omega) (by unfold maxLen; omega) true (decide_eq_true rfl)).mono ?_
      rintro e w5 ⟨rfl, nd5, rfl⟩
      have HR4 := Lib.hid (HR3.out.drewN nd5); have HF4 := Lib.hid (HF3.out.drewN nd5)
      clear HR3 HF3 HROW
      go_wp2_with fail
      refine (take_fails g l 0 ((n : Int) + 1) _ HR4.out (by rw [← HL.out]; omega)).mono ?_
      rintro e w6 ⟨rfl, hr, hf⟩
      have HF5 := Lib.hid (HF4.out.transNew hf hg); have HR5 := Lib.hid hr
      clear hr hf HR4 HF4
      go_wp2_with fail
      refine (err_any g _ _ HR5.out).mono ?_
      rintro e w7 ⟨v, rfl, hv, rfl⟩
      have HI : Hid (IsFault w6 v 0 10) := Lib.hid hv
      obtain ⟨gv, rfl, _⟩ := hv
      go_wp2_with fail
      refine (told_fault _ 0 10 _ (HE.out.fr HF5.out (by simp)) HI.out (by decide)).mono ?_
      rintro e w8 ⟨rfl, hf⟩
      have HR6 := Lib.hid (HR5.out.fr0 hf); have HF6 := Lib.hid (HF5.out.trans0 hf)
      clear hf HR5 HF5 HI
      go_wp2_with fail
      go_loopw [9] (fun i wr => ∃ j : Nat, i = .int .i64 j ∧ j ≤ no ∧ Hid (Rdr wr g ⟨l, 0, some 0⟩) ∧ Hid (Fr [] w wr)) (fun i _ => no - (intOf i).toNat)
      case atStart => exact ⟨0, rfl, Nat.zero_le _, HR6, HF6⟩
      case round =>
        clear HR6 HF6
        obtain ⟨j, rfl, hj, HRJ, HFJ⟩ := hrel
        by_cases hlt : j < no
        · go_wp2_with fail
          refine (u8_stuck g _ 0 _ HRJ.out rfl).mono ?_
          rintro e wa ⟨rfl, hr, hf⟩
          have HRA := Lib.hid hr; have HFA := Lib.hid (HFJ.out.transNew hf hg)
          clear hr hf
          go_wp2_with fail
          refine (u16_stuck g _ 0 _ HRA.out rfl).mono ?_
          rintro e wb ⟨rfl, hr, hf⟩
          have HRB := Lib.hid hr; have HFB := Lib.hid (HFA.out.transNew hf hg)
          clear hr hf
          go_wp2_with fail
          refine (u32_stuck g _ 0 _ HRB.out rfl).mono ?_
          rintro e wc ⟨rfl, hr, hf⟩
          have HRC := Lib.hid hr; have HFC := Lib.hid (HFB.out.transNew hf hg)
          clear hr hf
          obtain ⟨bo, oo, rfl, _, _, q2, _⟩ := (HOP.out.fr0 HFC.out).get j (by have := HNO.out; omega)
          generalize (ol[j]'(by have := HNO.out; omega)).n = xn at q2
          go_wp2_with fail
          refine (take_stuck g _ 0 _ _ HRC.out rfl).mono ?_
          rintro e wd ⟨rfl, hr, hf⟩
          have HRD := Lib.hid hr; have HFD := Lib.hid (HFC.out.transNew hf hg)
          clear hr hf q2
          go_wp2_with fail
          refine (at_any g _ _ HRD.out).mono ?_
          rintro e we ⟨rfl, rfl⟩
          go_wp2_with fail
          refine (left_any g _ _ HRD.out).mono ?_
          rintro e wf ⟨rfl, ndf, rfl⟩
          simp only [HD.out]
          have HRF := Lib.hid (HRD.out.drewN ndf); have HFF := Lib.hid (HFD.out.drewN ndf)
          go_wp2_with fail
          refine (err_any g _ _ HRF.out).mono ?_
          rintro e wg ⟨v, rfl, hv, rfl⟩
          have HI : Hid (IsFault _ v 0 10) := Lib.hid hv
          obtain ⟨gv, rfl, _⟩ := hv
          go_wp2_with fail
          refine (told_fault _ 0 10 _ (HE.out.fr HFF.out (by simp)) HI.out (by decide)).mono ?_
          rintro e wh ⟨rfl, hf⟩
          have HRH := Lib.hid (HRF.out.fr0 hf); have HFH := Lib.hid (HFF.out.trans0 hf)
          clear hf
          go_wp2_with fail
          go_roundw
          case rel => exact ⟨j + 1, by go_num, by omega, HRH, HFH⟩
          case measure => simp [intOf]; omega
        · go_wp2_with fail
          go_ret
          exact ⟨rfl, HFJ.out⟩
end Go.Proofs.YtoooflagkhpnkaaDoor
