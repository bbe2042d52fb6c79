/- The walk of jotterlaw01.OctetBack. (Written by gen_backw.py.) -/
import Derived.Test.YtoooflagkhpnkaaDoorBackA
import Derived.Test.YtoooflagkhpnkaaDoorTold
namespace Go.Proofs.YtoooflagkhpnkaaDoor
open Go Go.RowKit
set_option linter.unusedVariables false

theorem Fr.transNew {w w1 w2 : World} {g : Nat} (h : Fr [] w w1) (k : Fr [g] w1 w2) (hg : w.heap.size ≤ g) : Fr [] w w2 :=
  h.trans k fun b hb hlt => by simp at hb; omega
theorem b8_toNat (c : UInt8) : b8 c.toNat = c := by
  apply UInt8.toNat_inj.1
  have := b8_int c.toNat
  have := c.toNat_lt
  omega
theorem cat_le (ol : List OpR) (k : Nat) : (cat (ol.take k)).length ≤ 4 * k := by
  induction k with
  | zero => simp [cat]
  | succ k ih =>
    by_cases h : k < ol.length
    · rw [cat_step ol k h, List.length_append]
      have := putBytes_le ol[k]
      omega
    · rw [List.take_of_length_le (by omega)] at ih ⊢
      omega
theorem take_snoc8 (l : List UInt8) (j : Nat) (h : j < l.length) (C : List UInt8) : C ++ l.take (j + 1) = C ++ l.take j ++ [b8 (l[j]).toNat] := by
  rw [List.take_succ_eq_append_getElem h, b8_toNat, List.append_assoc]
/-- what lies ahead of the k-th number -/
theorem cat_ahead (ol : List OpR) (N k : Nat) (l : List UInt8) (hk : k < N) (hN : N ≤ ol.length) :
    ∃ t, (cat (ol.take N) ++ l).drop (cat (ol.take k)).length = putBytes (ol[k]'(by omega)) ++ t := by
  have h1 : ol.take N = ol.take (k + 1) ++ (ol.take N).drop (k + 1) := by
    conv => lhs; rw [← List.take_append_drop (k + 1) (ol.take N)]
    rw [List.take_take, Nat.min_eq_left (by omega)]
  have h2 : cat (ol.take N) = cat (ol.take (k + 1)) ++ cat ((ol.take N).drop (k + 1)) := by
    conv => lhs; rw [h1]
    simp [cat]
  refine ⟨cat ((ol.take N).drop (k + 1)) ++ l, ?_⟩
  rw [h2, cat_step ol k (by omega), List.append_assoc, List.append_assoc, List.drop_left]

/-- a Take that gets its bytes -/
theorem take_gets (g : Nat) (l : List UInt8) (p k q : Nat) (w : World) (h : Rdr w g ⟨l, p, none⟩) (hx : p + k ≤ l.length) (hq : q = p + k) :
    Calls Tryd.prog 28 #[.pointer (some ⟨g, 0, none⟩), .int .i64 k] w fun e w' => ∃ gx, e = .returned (.slice (some ⟨gx, 0, none⟩) k k) ∧ w.heap.size ≤ gx ∧ Row w' gx (bs ((l.drop p).take k)) 5 ∧ Rdr w' g ⟨l, q, none⟩ ∧ Fr [g] w w' := by
  subst hq
  have hc : (⟨l, p, none⟩ : RdS).can (k : Int) := ⟨rfl, by omega, by simp only; omega⟩
  have hgot : (⟨l, p, none⟩ : RdS).got (k : Int) = (l.drop p).take k := by rw [RdS.got, if_pos hc]; rfl
  have hlen : ((l.drop p).take k).length = k := by simp; omega
  refine (take_any g _ _ w h).mono ?_
  rintro e w' ⟨a, n, c, rfl, ht, hr, hf⟩
  rw [RdS.after, if_pos hc] at hr
  rw [hgot] at ht
  rcases ht with ⟨gx, rfl, hn, rfl, hg, hrow, _⟩ | ⟨_, _, _, _, hc'⟩
  · rw [hlen] at hn
    subst hn
    exact ⟨gx, rfl, hg, hrow, hr, hf⟩
  · exact absurd hc hc'

theorem u16_fails (g : Nat) (l : List UInt8) (k : Nat) (w : World) (h : Rdr w g ⟨l, k, none⟩) (hx : l.length < k + 2) :
    Calls Tryd.prog 40 #[.pointer (some ⟨g, 0, none⟩)] w fun e w' => e = .returned (.int .i64 0) ∧ Rdr w' g ⟨l, k, some k⟩ ∧ Fr [g] w w' := by
  have hc : ¬ (⟨l, k, none⟩ : RdS).can 2 := fun hc => by have := hc.2.2; simp only at this; omega
  have := u16_any g _ w h
  rw [RdS.got, if_neg hc, RdS.after, if_neg hc, if_pos rfl] at this
  exact this
set_option maxRecDepth 100000 in
set_option maxHeartbeats 8000000 in
theorem octetBack_walk (b : Option Addr) (ol : List OpR) (cb : Nat) {w : World} (hb : OpsAt w b ol) (h2 : ol.length ≤ cb) (m2 : cb ≤ maxLen)
    (a : Option Addr) (la : List UInt8) (ca : Nat) (ha : BytesAt w a la) (h1 : la.length ≤ ca) (m1 : ca ≤ maxLen) (he : ErrT w) :
    Calls Tryd.prog 12 #[.slice b ol.length cb, .slice a la.length ca] w fun e w' => e = .returned (.bool true) ∧ Fr [] w w' := by
  obtain ⟨n, hn⟩ : ∃ n, n = min la.length 600 := ⟨_, rfl⟩
  obtain ⟨l, hl⟩ : ∃ l, l = la.take n := ⟨_, rfl⟩
  have hnl : n = l.length := by rw [hl, List.length_take]; omega
  have hbl : BytesAt w a l := by rw [hl]; exact ha.take n
  have hn6 : n ≤ 600 := by omega
  obtain ⟨no, hno⟩ : ∃ n, n = ol.length := ⟨_, rfl⟩
  have hno2 : no ≤ 9223372036854775807 := by unfold maxLen at m2; omega
  rw [← hno]
  have HN := Lib.hid hn; have HL := Lib.hid hnl; have HNO := Lib.hid hno
  have H1 := Lib.hid h1; have M1 := Lib.hid m1; have HBL := Lib.hid hbl; have HE := Lib.hid he; have HOP := Lib.hid hb
  clear hn hnl hl ha hno h1 m1 h2 m2 hbl he hb
  by_cases hno6 : no ≤ 600
  · obtain ⟨N, hN⟩ : ∃ N, N = no := ⟨_, rfl⟩
    have hNa : N ≤ no := by omega
    have hNb : no ≤ N := by omega
    have hN6 : N ≤ 600 := by omega
    clear hN
    go_enter Tryd.func12, Tryd.ntmps12
    go_wp2_with fail
    refine (cut_at _ _ _ _ _ HN.out H1.out M1.out).mono ?_
    rintro e w1 ⟨rfl, rfl⟩
    go_wp2_with fail
    go_loopw [5, 6, 7] (fun p x i wr => ∃ (k m : Nat) (ap : Option Addr) (cp : Nat), p = .slice ap m cp ∧ x = .int .i64 m ∧ i = .int .i64 k ∧ k ≤ N ∧ m ≤ 4 * k ∧ Hid (m = (cat (ol.take k)).length) ∧ m ≤ cp ∧ Hid (cp ≤ maxLen) ∧ Hid (BytesAt wr ap (cat (ol.take k))) ∧ Hid (Fr [] w wr)) (fun _ _ i _ => 600 - (intOf i).toNat)
    case atStart => exact ⟨0, 0, none, 0, rfl, rfl, rfl, Nat.zero_le _, by omega, Lib.hid rfl, by omega, Lib.hid (Nat.zero_le _), Lib.hid (.inl rfl), Lib.hid (Fr.refl _ _)⟩
    case round =>
      obtain ⟨k, m, ap, cp, rfl, rfl, rfl, hk, hm4, HM, hmc, HCP, HB, HF⟩ := hrel
      by_cases hlt : k < N
      · obtain ⟨bo, oo, rfl, q0, q1, q2, q3, q4, _⟩ := (HOP.out.fr0 HF.out).get k (by have := HNO.out; omega)
        obtain ⟨r, hr⟩ : ∃ r, r = ol[k]'(by have := HNO.out; omega) := ⟨_, rfl⟩
        rw [← hr] at q0 q1 q2 q3 q4
        have Q4 := Lib.hid q4; have HRR := Lib.hid hr
        have hpl := putBytes_le r
        obtain ⟨wd, hwd⟩ : ∃ wd, wd = (putBytes r).length := ⟨_, rfl⟩
        rw [← hwd] at hpl
        obtain ⟨m', hm'⟩ : ∃ m', m' = m + wd := ⟨_, rfl⟩
        have hmi : (m : Int) + (wd : Int) = (m' : Int) := by omega
        have hmle : m' ≤ 4 * (k + 1) := by omega
        have HCS : Hid (cat (ol.take (k + 1)) = cat (ol.take k) ++ putBytes r) := Lib.hid (by rw [cat_step ol k (by have := HNO.out; omega), HRR.out])
        have HM' : Hid (m' = (cat (ol.take k) ++ putBytes r).length) := Lib.hid (by rw [List.length_append, ← HM.out, hm', hwd])
        have HWD := Lib.hid hwd
        have HC0 : Hid (∀ w5, Fr [] w w5 → w5.cell? ⟨bo, oo + k * 4, none⟩ = some (.int .i64 r.kind) ∧ w5.cell? ⟨bo, oo + k * 4 + 1, none⟩ = some (.bool r.which) ∧ w5.cell? ⟨bo, oo + k * 4 + 2, none⟩ = some (.int .i64 r.n) ∧ w5.cell? ⟨bo, oo + k * 4 + 3, none⟩ = some (.int .u64 (r.num : Int))) := Lib.hid fun w5 hf => by
          obtain ⟨b', o', hb', q0, q1, q2, q3, _⟩ := (HOP.out.fr0 hf).get k (by have := HNO.out; omega)
          simp only [Option.some.injEq, Addr.mk.injEq, and_true] at hb'
          obtain ⟨rfl, rfl⟩ := hb'
          rw [← HRR.out] at q0 q1 q2 q3
          exact ⟨q0, q1, q2, q3⟩
        clear hr q4 hm' hwd
        go_wp2_with fail
        refine (put_any ap _ m cp r _ HM.out HB.out (by omega) hmc HCP.out Q4.out).mono ?_
        rintro e w2 hr
        obtain ⟨a2, c2, rfl, g1, g2, b2, f2⟩ := hr.open m' HM'.out
        have HF2 := Lib.hid (HF.out.trans0 f2); have HB2 := Lib.hid b2; have G2 := Lib.hid g2
        clear hr f2 b2 g2 q0 q1 q2 q3
        obtain ⟨q0, q1, q2, q3⟩ := HC0.out _ HF2.out
        go_wp2_with fail
        refine (width_any r _).mono ?_
        rw [← HWD.out]
        rintro e w3 ⟨rfl, f3⟩
        have HF3 := Lib.hid (HF2.out.trans0 f3); have HB3 := Lib.hid (HB2.out.fr0 f3)
        clear f3 q0 q1 q2 q3
        go_wp2_with fail
        go_roundw
        case rel => exact ⟨k + 1, m', a2, c2, rfl, rfl, by go_num, by omega, hmle, Lib.hid (by rw [HCS.out]; exact HM'.out), g1, G2, Lib.hid (by rw [HCS.out]; exact HB3.out), HF3⟩
        case measure => simp [intOf]; omega
      · have HKN : Hid (k = N) := Lib.hid (by omega)
        obtain ⟨C, hC⟩ : ∃ C, C = cat (ol.take N) := ⟨_, rfl⟩
        have HC := Lib.hid hC
        have HMC : Hid (m = C.length) := Lib.hid (by rw [hC, ← HKN.out]; exact HM.out)
        have HB0 : Hid (BytesAt wr ap C) := Lib.hid (by rw [hC, ← HKN.out]; exact HB.out)
        have hm24 : m ≤ 2400 := by omega
        clear hC HB HM
        go_wp2_with fail
        go_loopw [5, 8] (fun p i wr => ∃ (j M : Nat) (ap : Option Addr) (cp : Nat), p = .slice ap M cp ∧ i = .int .i64 j ∧ j ≤ n ∧ M = m + j ∧ M ≤ cp ∧ Hid (cp ≤ maxLen) ∧ Hid (BytesAt wr ap (C ++ l.take j)) ∧ Hid (Fr [] w wr)) (fun _ i _ => 600 - (intOf i).toNat)
        case atStart => exact ⟨0, m, ap, cp, rfl, rfl, Nat.zero_le _, rfl, hmc, HCP, Lib.hid (by simpa using HB0.out), HF⟩
        case round =>
          clear HB0 HF HCP
          obtain ⟨j, M, ap, cp, rfl, rfl, hj, hM, hMc, HCP, HB, HF⟩ := hrel
          by_cases hlt2 : j < n
          · obtain ⟨bb, ob, rfl, hcs⟩ := (HBL.out.fr0 HF.out).get j (by have := HL.out; omega)
            obtain ⟨c8, hc8⟩ : ∃ c8, c8 = l[j]'(by have := HL.out; omega) := ⟨_, rfl⟩
            rw [← hc8] at hcs
            have hcl := c8.toNat_lt
            have hci : (c8.toNat : Int) % 18446744073709551616 = (c8.toNat : Int) := by omega
            have HCJ : Hid (C ++ l.take (j + 1) = C ++ l.take j ++ [b8 c8.toNat]) := Lib.hid (by rw [take_snoc8 l j (by have := HL.out; omega) C, hc8])
            have HML : Hid (M = (C ++ l.take j).length) := Lib.hid (by rw [List.length_append, List.length_take, ← HMC.out, hM]; have := HL.out; omega)
            have HM1 : Hid (M + 1 = (C ++ l.take j ++ [b8 c8.toNat]).length) := Lib.hid (by rw [List.length_append, ← HML.out]; rfl)
            have hM3 : M ≤ 3000 := by omega
            have HMM := Lib.hid hM
            clear hM hc8
            go_wp2_with fail
            refine (put8_any ap _ M cp c8.toNat _ HML.out HB.out (by have := HML.out; omega) (by omega)).mono ?_
            rintro e w2 hr
            obtain ⟨g2, rfl, _, hr2, f2⟩ := hr.open (M + 1) HM1.out
            have HF2 := Lib.hid (HF.out.trans0 f2); have HB2 := Lib.hid (BytesAt.ofRow hr2)
            clear hr f2 hr2
            go_wp2_with fail
            go_roundw
            case rel => exact ⟨j + 1, M + 1, _, M + 1, rfl, by go_num, by omega, by have := HMM.out; omega, Nat.le_refl _, Lib.hid (by unfold maxLen; omega), Lib.hid (by rw [HCJ.out]; exact HB2.out), HF2⟩
            case measure => simp [intOf]; omega
          · have hjn : j = n := by omega
            obtain ⟨P, hP⟩ : ∃ P, P = C ++ l := ⟨_, rfl⟩
            have HPB : Hid (BytesAt wr ap P) := Lib.hid (by
              have := HB.out
              rwa [hjn, HL.out, List.take_length, ← hP] at this)
            have HPL : Hid (M = P.length) := Lib.hid (by rw [hP, List.length_append, ← HMC.out, ← HL.out]; omega)
            have HPP := Lib.hid hP
            have hMi : (m : Int) + (n : Int) = (M : Int) := by omega
            have hM3 : M ≤ 3000 := by omega
            have HMN : Hid (M = m + n) := Lib.hid (by omega)
            clear hP hjn hM HB
            go_wp2_with fail
            refine (newReader_any ap P M cp _ HPL.out HPB.out (by omega)).mono ?_
            rintro e w2 ⟨g, rfl, hg, hr, hf⟩
            have HR := Lib.hid hr; have HF2 := Lib.hid (HF.out.trans0 hf)
            have HG : Hid (w.heap.size ≤ g) := Lib.hid (Nat.le_trans HF.out.size hg)
            clear hr hf hg HPB HF
            go_wp2_with fail
            go_loopw [10, 11] (fun x i wr => ∃ (k q : Nat), x = .int .i64 q ∧ i = .int .i64 k ∧ k ≤ N ∧ q ≤ M ∧ q ≤ 4 * k ∧ Hid (q = (cat (ol.take k)).length) ∧ Hid (Rdr wr g ⟨P, q, none⟩) ∧ Hid (Fr [] w wr)) (fun _ i _ => 600 - (intOf i).toNat)
            case atStart => exact ⟨0, 0, rfl, rfl, Nat.zero_le _, Nat.zero_le _, by omega, Lib.hid rfl, HR, HF2⟩
            case round =>
              clear HR HF2
              obtain ⟨k3, q, rfl, rfl, hk3, hqM, hq4, HQ, HR, HF⟩ := hrel
              by_cases hlt3 : k3 < N
              · obtain ⟨r, hr⟩ : ∃ r, r = ol[k3]'(by have := HNO.out; omega) := ⟨_, rfl⟩
                have HRR := Lib.hid hr
                clear hr
                have HC0 : Hid (∀ w5, Fr [] w w5 → ∃ bo oo, b = some ⟨bo, oo, none⟩ ∧ w5.cell? ⟨bo, oo + k3 * 4, none⟩ = some (.int .i64 r.kind) ∧ w5.cell? ⟨bo, oo + k3 * 4 + 1, none⟩ = some (.bool r.which) ∧ w5.cell? ⟨bo, oo + k3 * 4 + 2, none⟩ = some (.int .i64 r.n) ∧ w5.cell? ⟨bo, oo + k3 * 4 + 3, none⟩ = some (.int .u64 (r.num : Int)) ∧ r.num < 18446744073709551616) := Lib.hid fun w5 hf => by
                  obtain ⟨b', o', hb', q0, q1, q2, q3, q4, _⟩ := (HOP.out.fr0 hf).get k3 (by have := HNO.out; omega)
                  rw [← HRR.out] at q0 q1 q2 q3 q4
                  exact ⟨b', o', hb', q0, q1, q2, q3, q4⟩
                obtain ⟨t, ht⟩ := cat_ahead ol N k3 l hlt3 (by have := HNO.out; omega)
                have HT : Hid (P.drop q = putBytes r ++ t) := Lib.hid (by rw [HPP.out, HC.out, HQ.out, ht, HRR.out])
                clear ht
                obtain ⟨wd, hwd⟩ : ∃ wd, wd = (putBytes r).length := ⟨_, rfl⟩
                have hpl : wd ≤ 4 := by rw [hwd]; exact putBytes_le r
                obtain ⟨q', hq'⟩ : ∃ q', q' = q + wd := ⟨_, rfl⟩
                have hqi : (q : Int) + (wd : Int) = (q' : Int) := by omega
                have hq'M : q' ≤ M := by
                  have h := congrArg List.length HT.out
                  rw [List.length_drop, List.length_append, ← hwd, ← HPL.out] at h
                  omega
                have hq'4 : q' ≤ 4 * (k3 + 1) := by omega
                have HQ' : Hid (q' = (cat (ol.take (k3 + 1))).length) := Lib.hid (by rw [cat_step ol k3 (by have := HNO.out; omega), List.length_append, ← HRR.out, ← HQ.out, hq', hwd])
                obtain ⟨d, hd⟩ : ∃ d, d = M - q := ⟨_, rfl⟩
                have hdi : (M : Int) - (q : Int) = (d : Int) := by omega
                have HD : Hid (P.length - q = d) := Lib.hid (by rw [← HPL.out, hd])
                have HWD := Lib.hid hwd; have HQE := Lib.hid hq'
                clear hwd hq' hd
                go_wp2_with fail
                refine (at_any g _ _ HR.out).mono ?_
                rintro e w5 ⟨rfl, rfl⟩
                go_wp2_with fail
                refine (left_any g _ _ HR.out).mono ?_
                simp only [HD.out]
                rintro e w5 ⟨rfl, nd, rfl⟩
                have HR5 := Lib.hid (HR.out.drewN nd); have HF5 := Lib.hid (HF.out.drewN nd)
                obtain ⟨bo, oo, rfl, q0, q1, q2, q3, q4⟩ := HC0.out _ HF5.out
                have Q4 := Lib.hid q4
                clear q4
                go_wp2_with fail
                refine (back_any g P t q r _ HR5.out HT.out Q4.out).mono ?_
                rw [← HWD.out, ← HQE.out]
                rintro e w6 ⟨rfl, hr6, hf6⟩
                have HR6 := Lib.hid hr6; have HF6 := Lib.hid (HF5.out.transNew hf6 HG.out)
                clear hr6 hf6 q0 q1 q2 q3
                obtain ⟨bo', oo', hbo, q0, q1, q2, q3, q4⟩ := HC0.out _ HF6.out
                simp only [Option.some.injEq, Addr.mk.injEq, and_true] at hbo
                obtain ⟨rfl, rfl⟩ := hbo
                clear q4
                go_wp2_with fail
                refine (width_any r _).mono ?_
                rw [← HWD.out]
                rintro e w7 ⟨rfl, f7⟩
                have HR7 := Lib.hid (HR6.out.fr0 f7); have HF7 := Lib.hid (HF6.out.trans0 f7)
                clear f7 q0 q1 q2 q3
                go_wp2_with fail
                go_roundw
                case rel => exact ⟨k3 + 1, q', rfl, by go_num, by omega, hq'M, hq'4, HQ', HR7, HF7⟩
                case measure => simp [intOf]; omega
              · have HQM : Hid (q = m) := Lib.hid (by
                  have : k3 = N := by omega
                  have h := HQ.out
                  rw [this, ← HC.out, ← HMC.out] at h
                  exact h)
                have HTK : Hid ((P.drop q).take n = l) := Lib.hid (by rw [HPP.out, HQM.out, HMC.out, List.drop_left, HL.out, List.take_length])
                have HQN : Hid (M = q + n) := Lib.hid (by rw [HQM.out]; exact HMN.out)
                clear hqM hq4
                go_wp2_with fail
                refine (take_gets g P q n M _ HR.out (by rw [← HPL.out, ← HQN.out]; exact Nat.le_refl _) HQN.out).mono ?_
                rw [HTK.out]
                rintro e w5 ⟨gx, rfl, hgx, hrow, hr5, hf5⟩
                have HR5 := Lib.hid hr5; have HF5 := Lib.hid (HF.out.transNew hf5 HG.out); have HX := Lib.hid (BytesAt.ofRow hrow)
                clear hrow hr5 hf5
                go_wp2_with fail
                refine (same_at _ a l l n n n ca _ HL.out HL.out HX.out (HBL.out.fr0 HF5.out) (by unfold maxLen; omega) (by unfold maxLen; omega) true (decide_eq_true rfl)).mono ?_
                rintro e w6 ⟨rfl, nd6, rfl⟩
                have HR6 := Lib.hid (HR5.out.drewN nd6); have HF6 := Lib.hid (HF5.out.drewN nd6)
                have HZ : Hid (P.length - M = 0) := Lib.hid (by rw [← HPL.out, Nat.sub_self])
                go_wp2_with fail
                refine (left_any g _ _ HR6.out).mono ?_
                simp only [HZ.out]
                rintro e w7 ⟨rfl, nd7, rfl⟩
                have HR7 := Lib.hid (HR5.out.drewN (nd6 + nd7)); have HF7 := Lib.hid (HF5.out.drewN (nd6 + nd7))
                go_wp2_with fail
                refine (at_any g _ _ HR7.out).mono ?_
                rintro e w8 ⟨rfl, rfl⟩
                go_wp2_with fail
                refine (err_any g _ _ HR7.out).mono ?_
                rintro e w9 ⟨v, rfl, hv, rfl⟩
                obtain rfl : v = .nilIface := hv
                go_wp2_with fail
                refine (u16_fails g P M _ HR7.out (by rw [← HPL.out]; omega)).mono ?_
                rintro e wa ⟨rfl, hra, hfa⟩
                have HRA := Lib.hid hra; have HFA := Lib.hid (HF7.out.transNew hfa HG.out)
                clear hra hfa
                go_wp2_with fail
                refine (err_any g _ _ HRA.out).mono ?_
                rintro e wb ⟨v, rfl, hv, rfl⟩
                have HI : Hid (IsFault _ v M 10) := Lib.hid hv
                obtain ⟨gv, rfl, _⟩ := hv
                go_wp2_with fail
                refine (told_fault _ M 10 _ (HE.out.fr HFA.out (by simp)) HI.out (by decide)).mono ?_
                rintro e wc ⟨rfl, hfc⟩
                have HRC := Lib.hid (HRA.out.fr0 hfc); have HFC := Lib.hid (HFA.out.trans0 hfc)
                clear hfc
                go_wp2_with fail
                refine (at_any g _ _ HRC.out).mono ?_
                rintro e wd ⟨rfl, rfl⟩
                go_wp2_with fail
                go_ret
                exact ⟨rfl, HFC.out⟩
  · obtain ⟨N, hN⟩ : ∃ N, N = 600 := ⟨_, rfl⟩
    have hNa : N < no := by omega
    have hNb : 600 ≤ N := by omega
    have hN6 : N ≤ 600 := by omega
    clear hN
    go_enter Tryd.func12, Tryd.ntmps12
    go_wp2_with fail
    refine (cut_at _ _ _ _ _ HN.out H1.out M1.out).mono ?_
    rintro e w1 ⟨rfl, rfl⟩
    go_wp2_with fail
    go_loopw [5, 6, 7] (fun p x i wr => ∃ (k m : Nat) (ap : Option Addr) (cp : Nat), p = .slice ap m cp ∧ x = .int .i64 m ∧ i = .int .i64 k ∧ k ≤ N ∧ m ≤ 4 * k ∧ Hid (m = (cat (ol.take k)).length) ∧ m ≤ cp ∧ Hid (cp ≤ maxLen) ∧ Hid (BytesAt wr ap (cat (ol.take k))) ∧ Hid (Fr [] w wr)) (fun _ _ i _ => 600 - (intOf i).toNat)
    case atStart => exact ⟨0, 0, none, 0, rfl, rfl, rfl, Nat.zero_le _, by omega, Lib.hid rfl, by omega, Lib.hid (Nat.zero_le _), Lib.hid (.inl rfl), Lib.hid (Fr.refl _ _)⟩
    case round =>
      obtain ⟨k, m, ap, cp, rfl, rfl, rfl, hk, hm4, HM, hmc, HCP, HB, HF⟩ := hrel
      by_cases hlt : k < N
      · obtain ⟨bo, oo, rfl, q0, q1, q2, q3, q4, _⟩ := (HOP.out.fr0 HF.out).get k (by have := HNO.out; omega)
        obtain ⟨r, hr⟩ : ∃ r, r = ol[k]'(by have := HNO.out; omega) := ⟨_, rfl⟩
        rw [← hr] at q0 q1 q2 q3 q4
        have Q4 := Lib.hid q4; have HRR := Lib.hid hr
        have hpl := putBytes_le r
        obtain ⟨wd, hwd⟩ : ∃ wd, wd = (putBytes r).length := ⟨_, rfl⟩
        rw [← hwd] at hpl
        obtain ⟨m', hm'⟩ : ∃ m', m' = m + wd := ⟨_, rfl⟩
        have hmi : (m : Int) + (wd : Int) = (m' : Int) := by omega
        have hmle : m' ≤ 4 * (k + 1) := by omega
        have HCS : Hid (cat (ol.take (k + 1)) = cat (ol.take k) ++ putBytes r) := Lib.hid (by rw [cat_step ol k (by have := HNO.out; omega), HRR.out])
        have HM' : Hid (m' = (cat (ol.take k) ++ putBytes r).length) := Lib.hid (by rw [List.length_append, ← HM.out, hm', hwd])
        have HWD := Lib.hid hwd
        have HC0 : Hid (∀ w5, Fr [] w w5 → w5.cell? ⟨bo, oo + k * 4, none⟩ = some (.int .i64 r.kind) ∧ w5.cell? ⟨bo, oo + k * 4 + 1, none⟩ = some (.bool r.which) ∧ w5.cell? ⟨bo, oo + k * 4 + 2, none⟩ = some (.int .i64 r.n) ∧ w5.cell? ⟨bo, oo + k * 4 + 3, none⟩ = some (.int .u64 (r.num : Int))) := Lib.hid fun w5 hf => by
          obtain ⟨b', o', hb', q0, q1, q2, q3, _⟩ := (HOP.out.fr0 hf).get k (by have := HNO.out; omega)
          simp only [Option.some.injEq, Addr.mk.injEq, and_true] at hb'
          obtain ⟨rfl, rfl⟩ := hb'
          rw [← HRR.out] at q0 q1 q2 q3
          exact ⟨q0, q1, q2, q3⟩
        clear hr q4 hm' hwd
        go_wp2_with fail
        refine (put_any ap _ m cp r _ HM.out HB.out (by omega) hmc HCP.out Q4.out).mono ?_
        rintro e w2 hr
        obtain ⟨a2, c2, rfl, g1, g2, b2, f2⟩ := hr.open m' HM'.out
        have HF2 := Lib.hid (HF.out.trans0 f2); have HB2 := Lib.hid b2; have G2 := Lib.hid g2
        clear hr f2 b2 g2 q0 q1 q2 q3
        obtain ⟨q0, q1, q2, q3⟩ := HC0.out _ HF2.out
        go_wp2_with fail
        refine (width_any r _).mono ?_
        rw [← HWD.out]
        rintro e w3 ⟨rfl, f3⟩
        have HF3 := Lib.hid (HF2.out.trans0 f3); have HB3 := Lib.hid (HB2.out.fr0 f3)
        clear f3 q0 q1 q2 q3
        go_wp2_with fail
        go_roundw
        case rel => exact ⟨k + 1, m', a2, c2, rfl, rfl, by go_num, by omega, hmle, Lib.hid (by rw [HCS.out]; exact HM'.out), g1, G2, Lib.hid (by rw [HCS.out]; exact HB3.out), HF3⟩
        case measure => simp [intOf]; omega
      · have HKN : Hid (k = N) := Lib.hid (by omega)
        obtain ⟨C, hC⟩ : ∃ C, C = cat (ol.take N) := ⟨_, rfl⟩
        have HC := Lib.hid hC
        have HMC : Hid (m = C.length) := Lib.hid (by rw [hC, ← HKN.out]; exact HM.out)
        have HB0 : Hid (BytesAt wr ap C) := Lib.hid (by rw [hC, ← HKN.out]; exact HB.out)
        have hm24 : m ≤ 2400 := by omega
        clear hC HB HM
        go_wp2_with fail
        go_loopw [5, 8] (fun p i wr => ∃ (j M : Nat) (ap : Option Addr) (cp : Nat), p = .slice ap M cp ∧ i = .int .i64 j ∧ j ≤ n ∧ M = m + j ∧ M ≤ cp ∧ Hid (cp ≤ maxLen) ∧ Hid (BytesAt wr ap (C ++ l.take j)) ∧ Hid (Fr [] w wr)) (fun _ i _ => 600 - (intOf i).toNat)
        case atStart => exact ⟨0, m, ap, cp, rfl, rfl, Nat.zero_le _, rfl, hmc, HCP, Lib.hid (by simpa using HB0.out), HF⟩
        case round =>
          clear HB0 HF HCP
          obtain ⟨j, M, ap, cp, rfl, rfl, hj, hM, hMc, HCP, HB, HF⟩ := hrel
          by_cases hlt2 : j < n
          · obtain ⟨bb, ob, rfl, hcs⟩ := (HBL.out.fr0 HF.out).get j (by have := HL.out; omega)
            obtain ⟨c8, hc8⟩ : ∃ c8, c8 = l[j]'(by have := HL.out; omega) := ⟨_, rfl⟩
            rw [← hc8] at hcs
            have hcl := c8.toNat_lt
            have hci : (c8.toNat : Int) % 18446744073709551616 = (c8.toNat : Int) := by omega
            have HCJ : Hid (C ++ l.take (j + 1) = C ++ l.take j ++ [b8 c8.toNat]) := Lib.hid (by rw [take_snoc8 l j (by have := HL.out; omega) C, hc8])
            have HML : Hid (M = (C ++ l.take j).length) := Lib.hid (by rw [List.length_append, List.length_take, ← HMC.out, hM]; have := HL.out; omega)
            have HM1 : Hid (M + 1 = (C ++ l.take j ++ [b8 c8.toNat]).length) := Lib.hid (by rw [List.length_append, ← HML.out]; rfl)
            have hM3 : M ≤ 3000 := by omega
            have HMM := Lib.hid hM
            clear hM hc8
            go_wp2_with fail
            refine (put8_any ap _ M cp c8.toNat _ HML.out HB.out (by have := HML.out; omega) (by omega)).mono ?_
            rintro e w2 hr
            obtain ⟨g2, rfl, _, hr2, f2⟩ := hr.open (M + 1) HM1.out
            have HF2 := Lib.hid (HF.out.trans0 f2); have HB2 := Lib.hid (BytesAt.ofRow hr2)
            clear hr f2 hr2
            go_wp2_with fail
            go_roundw
            case rel => exact ⟨j + 1, M + 1, _, M + 1, rfl, by go_num, by omega, by have := HMM.out; omega, Nat.le_refl _, Lib.hid (by unfold maxLen; omega), Lib.hid (by rw [HCJ.out]; exact HB2.out), HF2⟩
            case measure => simp [intOf]; omega
          · have hjn : j = n := by omega
            obtain ⟨P, hP⟩ : ∃ P, P = C ++ l := ⟨_, rfl⟩
            have HPB : Hid (BytesAt wr ap P) := Lib.hid (by
              have := HB.out
              rwa [hjn, HL.out, List.take_length, ← hP] at this)
            have HPL : Hid (M = P.length) := Lib.hid (by rw [hP, List.length_append, ← HMC.out, ← HL.out]; omega)
            have HPP := Lib.hid hP
            have hMi : (m : Int) + (n : Int) = (M : Int) := by omega
            have hM3 : M ≤ 3000 := by omega
            have HMN : Hid (M = m + n) := Lib.hid (by omega)
            clear hP hjn hM HB
            go_wp2_with fail
            refine (newReader_any ap P M cp _ HPL.out HPB.out (by omega)).mono ?_
            rintro e w2 ⟨g, rfl, hg, hr, hf⟩
            have HR := Lib.hid hr; have HF2 := Lib.hid (HF.out.trans0 hf)
            have HG : Hid (w.heap.size ≤ g) := Lib.hid (Nat.le_trans HF.out.size hg)
            clear hr hf hg HPB HF
            go_wp2_with fail
            go_loopw [10, 11] (fun x i wr => ∃ (k q : Nat), x = .int .i64 q ∧ i = .int .i64 k ∧ k ≤ N ∧ q ≤ M ∧ q ≤ 4 * k ∧ Hid (q = (cat (ol.take k)).length) ∧ Hid (Rdr wr g ⟨P, q, none⟩) ∧ Hid (Fr [] w wr)) (fun _ i _ => 600 - (intOf i).toNat)
            case atStart => exact ⟨0, 0, rfl, rfl, Nat.zero_le _, Nat.zero_le _, by omega, Lib.hid rfl, HR, HF2⟩
            case round =>
              clear HR HF2
              obtain ⟨k3, q, rfl, rfl, hk3, hqM, hq4, HQ, HR, HF⟩ := hrel
              by_cases hlt3 : k3 < N
              · obtain ⟨r, hr⟩ : ∃ r, r = ol[k3]'(by have := HNO.out; omega) := ⟨_, rfl⟩
                have HRR := Lib.hid hr
                clear hr
                have HC0 : Hid (∀ w5, Fr [] w w5 → ∃ bo oo, b = some ⟨bo, oo, none⟩ ∧ w5.cell? ⟨bo, oo + k3 * 4, none⟩ = some (.int .i64 r.kind) ∧ w5.cell? ⟨bo, oo + k3 * 4 + 1, none⟩ = some (.bool r.which) ∧ w5.cell? ⟨bo, oo + k3 * 4 + 2, none⟩ = some (.int .i64 r.n) ∧ w5.cell? ⟨bo, oo + k3 * 4 + 3, none⟩ = some (.int .u64 (r.num : Int)) ∧ r.num < 18446744073709551616) := Lib.hid fun w5 hf => by
                  obtain ⟨b', o', hb', q0, q1, q2, q3, q4, _⟩ := (HOP.out.fr0 hf).get k3 (by have := HNO.out; omega)
                  rw [← HRR.out] at q0 q1 q2 q3 q4
                  exact ⟨b', o', hb', q0, q1, q2, q3, q4⟩
                obtain ⟨t, ht⟩ := cat_ahead ol N k3 l hlt3 (by have := HNO.out; omega)
                have HT : Hid (P.drop q = putBytes r ++ t) := Lib.hid (by rw [HPP.out, HC.out, HQ.out, ht, HRR.out])
                clear ht
                obtain ⟨wd, hwd⟩ : ∃ wd, wd = (putBytes r).length := ⟨_, rfl⟩
                have hpl : wd ≤ 4 := by rw [hwd]; exact putBytes_le r
                obtain ⟨q', hq'⟩ : ∃ q', q' = q + wd := ⟨_, rfl⟩
                have hqi : (q : Int) + (wd : Int) = (q' : Int) := by omega
                have hq'M : q' ≤ M := by
                  have h := congrArg List.length HT.out
                  rw [List.length_drop, List.length_append, ← hwd, ← HPL.out] at h
                  omega
                have hq'4 : q' ≤ 4 * (k3 + 1) := by omega
                have HQ' : Hid (q' = (cat (ol.take (k3 + 1))).length) := Lib.hid (by rw [cat_step ol k3 (by have := HNO.out; omega), List.length_append, ← HRR.out, ← HQ.out, hq', hwd])
                obtain ⟨d, hd⟩ : ∃ d, d = M - q := ⟨_, rfl⟩
                have hdi : (M : Int) - (q : Int) = (d : Int) := by omega
                have HD : Hid (P.length - q = d) := Lib.hid (by rw [← HPL.out, hd])
                have HWD := Lib.hid hwd; have HQE := Lib.hid hq'
                clear hwd hq' hd
                go_wp2_with fail
                refine (at_any g _ _ HR.out).mono ?_
                rintro e w5 ⟨rfl, rfl⟩
                go_wp2_with fail
                refine (left_any g _ _ HR.out).mono ?_
                simp only [HD.out]
                rintro e w5 ⟨rfl, nd, rfl⟩
                have HR5 := Lib.hid (HR.out.drewN nd); have HF5 := Lib.hid (HF.out.drewN nd)
                obtain ⟨bo, oo, rfl, q0, q1, q2, q3, q4⟩ := HC0.out _ HF5.out
                have Q4 := Lib.hid q4
                clear q4
                go_wp2_with fail
                refine (back_any g P t q r _ HR5.out HT.out Q4.out).mono ?_
                rw [← HWD.out, ← HQE.out]
                rintro e w6 ⟨rfl, hr6, hf6⟩
                have HR6 := Lib.hid hr6; have HF6 := Lib.hid (HF5.out.transNew hf6 HG.out)
                clear hr6 hf6 q0 q1 q2 q3
                obtain ⟨bo', oo', hbo, q0, q1, q2, q3, q4⟩ := HC0.out _ HF6.out
                simp only [Option.some.injEq, Addr.mk.injEq, and_true] at hbo
                obtain ⟨rfl, rfl⟩ := hbo
                clear q4
                go_wp2_with fail
                refine (width_any r _).mono ?_
                rw [← HWD.out]
                rintro e w7 ⟨rfl, f7⟩
                have HR7 := Lib.hid (HR6.out.fr0 f7); have HF7 := Lib.hid (HF6.out.trans0 f7)
                clear f7 q0 q1 q2 q3
                go_wp2_with fail
                go_roundw
                case rel => exact ⟨k3 + 1, q', rfl, by go_num, by omega, hq'M, hq'4, HQ', HR7, HF7⟩
                case measure => simp [intOf]; omega
              · have HQM : Hid (q = m) := Lib.hid (by
                  have : k3 = N := by omega
                  have h := HQ.out
                  rw [this, ← HC.out, ← HMC.out] at h
                  exact h)
                have HTK : Hid ((P.drop q).take n = l) := Lib.hid (by rw [HPP.out, HQM.out, HMC.out, List.drop_left, HL.out, List.take_length])
                have HQN : Hid (M = q + n) := Lib.hid (by rw [HQM.out]; exact HMN.out)
                clear hqM hq4
                go_wp2_with fail
                refine (take_gets g P q n M _ HR.out (by rw [← HPL.out, ← HQN.out]; exact Nat.le_refl _) HQN.out).mono ?_
                rw [HTK.out]
                rintro e w5 ⟨gx, rfl, hgx, hrow, hr5, hf5⟩
                have HR5 := Lib.hid hr5; have HF5 := Lib.hid (HF.out.transNew hf5 HG.out); have HX := Lib.hid (BytesAt.ofRow hrow)
                clear hrow hr5 hf5
                go_wp2_with fail
                refine (same_at _ a l l n n n ca _ HL.out HL.out HX.out (HBL.out.fr0 HF5.out) (by unfold maxLen; omega) (by unfold maxLen; omega) true (decide_eq_true rfl)).mono ?_
                rintro e w6 ⟨rfl, nd6, rfl⟩
                have HR6 := Lib.hid (HR5.out.drewN nd6); have HF6 := Lib.hid (HF5.out.drewN nd6)
                have HZ : Hid (P.length - M = 0) := Lib.hid (by rw [← HPL.out, Nat.sub_self])
                go_wp2_with fail
                refine (left_any g _ _ HR6.out).mono ?_
                simp only [HZ.out]
                rintro e w7 ⟨rfl, nd7, rfl⟩
                have HR7 := Lib.hid (HR5.out.drewN (nd6 + nd7)); have HF7 := Lib.hid (HF5.out.drewN (nd6 + nd7))
                go_wp2_with fail
                refine (at_any g _ _ HR7.out).mono ?_
                rintro e w8 ⟨rfl, rfl⟩
                go_wp2_with fail
                refine (err_any g _ _ HR7.out).mono ?_
                rintro e w9 ⟨v, rfl, hv, rfl⟩
                obtain rfl : v = .nilIface := hv
                go_wp2_with fail
                refine (u16_fails g P M _ HR7.out (by rw [← HPL.out]; omega)).mono ?_
                rintro e wa ⟨rfl, hra, hfa⟩
                have HRA := Lib.hid hra; have HFA := Lib.hid (HF7.out.transNew hfa HG.out)
                clear hra hfa
                go_wp2_with fail
                refine (err_any g _ _ HRA.out).mono ?_
                rintro e wb ⟨v, rfl, hv, rfl⟩
                have HI : Hid (IsFault _ v M 10) := Lib.hid hv
                obtain ⟨gv, rfl, _⟩ := hv
                go_wp2_with fail
                refine (told_fault _ M 10 _ (HE.out.fr HFA.out (by simp)) HI.out (by decide)).mono ?_
                rintro e wc ⟨rfl, hfc⟩
                have HRC := Lib.hid (HRA.out.fr0 hfc); have HFC := Lib.hid (HFA.out.trans0 hfc)
                clear hfc
                go_wp2_with fail
                refine (at_any g _ _ HRC.out).mono ?_
                rintro e wd ⟨rfl, rfl⟩
                go_wp2_with fail
                go_ret
                exact ⟨rfl, HFC.out⟩
end Go.Proofs.YtoooflagkhpnkaaDoor
