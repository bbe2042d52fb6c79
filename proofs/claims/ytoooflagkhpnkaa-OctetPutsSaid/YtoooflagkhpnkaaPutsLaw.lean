/- The walk of jotterlaw01.OctetPuts. -/
import Derived.Test.YtoooflagkhpnkaaPuts
import Derived.Test.YtoooflagkhpnkaaSmall
namespace Go.Proofs.Ytoooflagkhpnkaa
open Go Go.RowKit
set_option linter.unusedVariables false

theorem same_at (a b : Option Addr) (la lb : List UInt8) (n m ca cb : Nat) (w : World) (hn : n = la.length) (hm : m = lb.length) (ha : BytesAt w a la) (hb : BytesAt w b lb) (h1 : n ≤ maxLen) (h2 : m ≤ maxLen) (r : Bool) (hr : decide (la = lb) = r) :
    Calls Try.prog 8 #[.slice a n ca, .slice b m cb] w fun e w' => e = .returned (.bool r) ∧ ∃ n, w' = w.drewN n := by
  subst hn; subst hm; subst hr
  exact same_any a b la lb ca cb w ha hb h1 h2

set_option maxHeartbeats 1000000 in
set_option maxRecDepth 100000 in
theorem octetPuts_walk (a : Option Addr) (la : List UInt8) (ca : Nat) {w : World} (ha : BytesAt w a la) (h1 : la.length ≤ ca) (m1 : ca ≤ maxLen)
    (b : Option Addr) (ol : List OpR) (cb : Nat) (hb : OpsAt w b ol) (h2 : ol.length ≤ cb) (m2 : cb ≤ maxLen) :
    Calls Try.prog 3 #[.slice a la.length ca, .slice b ol.length cb] w fun e w' => e = .returned (.bool true) ∧ Fr [] w w' := by
  obtain ⟨n, hn⟩ : ∃ n, n = min la.length 600 := ⟨_, rfl⟩
  obtain ⟨l, hl⟩ : ∃ l, l = la.take n := ⟨_, rfl⟩
  have hnl : n = l.length := by rw [hl, List.length_take]; omega
  have hbl : BytesAt w a l := by rw [hl]; exact ha.take n
  have hn6 : n ≤ 600 := by omega
  obtain ⟨no, hno⟩ : ∃ n, n = ol.length := ⟨_, rfl⟩
  have hno2 : no ≤ 9223372036854775807 := by unfold maxLen at m2; omega
  rw [← hno]
  have HN := Lib.hid hn; have HL := Lib.hid hnl; have HNO := Lib.hid hno
  have HC := Lib.hid (show n ≤ ca ∧ ca ≤ maxLen by omega)
  have H1 := Lib.hid h1; have M1 := Lib.hid m1
  clear hn hnl hl ha hno h1 m1 h2 m2
  go_enter Try.func3, Try.ntmps3
  go_wp2_with fail
  refine (cut_at _ _ _ _ _ HN.out H1.out M1.out).mono ?_
  rintro e w1 ⟨rfl, rfl⟩
  go_wp2_with fail
  refine (twin_at _ l n _ _ HL.out hbl (by have := HL.out; omega)).mono ?_
  rintro e w1 hr
  obtain ⟨g, rfl, hg, hr, hf⟩ := hr.open n HL.out
  go_wp2_with fail
  go_loopw [5, 6, 7] (fun q p i wr => ∃ (k m aq cq : _) (ap : _) (cp : Nat) (X : List UInt8), q = .slice aq m cq ∧ p = .slice ap m cp ∧ i = .int .i64 (k : Nat) ∧ k ≤ no ∧ k ≤ 600 ∧ Hid (m = X.length) ∧ m ≤ 600 + 4 * k ∧ m ≤ cq ∧ m ≤ cp ∧ Hid (cq ≤ maxLen ∧ cp ≤ maxLen) ∧ BytesAt wr aq X ∧ BytesAt wr ap X ∧ Fr [] w wr) (fun _ _ i _ => 600 - (intOf i).toNat)
  case atStart => exact ⟨0, n, _, _, _, _, l, rfl, rfl, rfl, Nat.zero_le _, Nat.zero_le _, HL, by omega, Nat.le_refl _, HC.out.1, Lib.hid ⟨by unfold maxLen; omega, HC.out.2⟩, BytesAt.ofRow hr, hbl.fr0 hf, hf⟩
  case round =>
    clear hr hf
    obtain ⟨k, m, aq, cq, ap, cp, X, rfl, rfl, rfl, hk, hk6, HM, hmk, hc1, hc2, HCC, hq, hp, hfr⟩ := hrel
    have hmm := Lib.hid (show m ≤ maxLen by unfold maxLen; omega)
    by_cases hlt : k < no
    · by_cases hlt6 : k < 600
      · obtain ⟨bo, oo, rfl, q0, q1, q2, q3, q4, _⟩ := (hb.fr0 hfr).get k (by have := HNO.out; omega)
        obtain ⟨r, hr⟩ : ∃ r, r = ol[k]'(by have := HNO.out; omega) := ⟨_, rfl⟩
        rw [← hr] at q0 q1 q2 q3 q4
        have Q4 := Lib.hid q4
        have HB := Lib.hid hb
        have hpl := putBytes_le r
        have HX1 : Hid (m + (putBytes r).length = (X ++ putBytes r).length) := Lib.hid (by rw [List.length_append, ← HM.out])
        obtain ⟨m', hm'⟩ : ∃ m', m' = m + (putBytes r).length := ⟨_, rfl⟩
        have hmle : m' ≤ m + 4 := by omega
        have HM' := Lib.hid hm'
        clear hr q4 hb hpl hm'
        go_wp2_with fail
        refine (put_any ap X m cp r _ HM.out hp (by omega) hc2 HCC.out.2 Q4.out).mono ?_
        rintro e w2 hr
        obtain ⟨a2, c2, rfl, g1, g2, b2, f2⟩ := hr.open m' (by rw [HM'.out]; exact HX1.out)
        clear hr
        have G2 := Lib.hid g2
        have F2 := Lib.hid (hfr.trans0 f2)
        have hq2 := hq.fr0 f2
        have P0 := Lib.hid (show w2.cell? ⟨bo, oo + k * 4, none⟩ = some (.int .i64 r.kind) from f2.cell q0 (by simp))
        have q0 := f2.cell q0 (by simp)
        have q1 := f2.cell q1 (by simp)
        have q2 := f2.cell q2 (by simp)
        have q3 := f2.cell q3 (by simp)
        clear g2 f2 hq hp hfr P0
        go_wp2_with fail
        refine (putRef_any aq X m cq r _ HM.out hq2 (by omega) hc1 HCC.out.1 Q4.out).mono ?_
        rintro e w3 hr
        obtain ⟨a3, c3, rfl, g3, g4, b3, f3⟩ := hr.open m' (by rw [HM'.out]; exact HX1.out)
        clear hr
        have G4 := Lib.hid g4
        have b2' := b2.fr0 f3
        have F3 := Lib.hid (F2.out.trans0 f3)
        clear g4 f3 b2 hq2 q0 q1 q2 q3
        go_wp2_with fail
        refine (same_at a2 a3 _ _ m' m' c2 c3 _ (by rw [HM'.out]; exact HX1.out) (by rw [HM'.out]; exact HX1.out) b2' b3 (by unfold maxLen; omega) (by unfold maxLen; omega) true (decide_eq_true rfl)).mono ?_
        rintro e w4 ⟨rfl, nd, rfl⟩
        go_wp2
        go_roundw
        case rel => exact ⟨k + 1, m', a3, c3, a2, c2, _, rfl, rfl, by go_num, by omega, by omega, Lib.hid (by rw [HM'.out]; exact HX1.out), by omega, g3, g1, Lib.hid ⟨G4.out, G2.out⟩, b3.drewN _, b2'.drewN _, F3.out.drewN _⟩
        case measure => simp [intOf]; omega
      · go_wp2
        go_ret
        exact ⟨rfl, hfr⟩
    · go_wp2
      go_ret
      exact ⟨rfl, hfr⟩
end Go.Proofs.Ytoooflagkhpnkaa
