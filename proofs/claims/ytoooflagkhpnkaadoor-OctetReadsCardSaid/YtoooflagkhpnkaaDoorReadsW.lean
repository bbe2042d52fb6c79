/- The walk of jotterlaw01.OctetReads. -/
import Derived.Test.YtoooflagkhpnkaaDoorReadsA
namespace Go.Proofs.YtoooflagkhpnkaaDoor
open Go Go.RowKit
set_option linter.unusedVariables false

/-- the other pair stays where it is -/
theorem Rdr.other {w w' : World} {g1 gs1 g : Nat} {s s1 s2 : RdS} (h : Rdr w g s) (a : Rdr w g1 s1) (b : RefR w gs1 s2) (hg : g ≠ g1) (f : Fr [g1, gs1] w w') : Rdr w' g s := by
  obtain ⟨c, hc⟩ := h.row
  obtain ⟨d, hd⟩ := b.row
  obtain ⟨c1, hc1⟩ := a.row
  refine h.frS f ?_ ?_
  · simp only [List.mem_cons, List.not_mem_nil, or_false, not_or]
    exact ⟨hg, hc.ne hd (by decide)⟩
  · intro x hx
    simp only [List.mem_cons, List.not_mem_nil, or_false] at hx
    rcases hx with rfl | rfl
    · exact ⟨c1, _, hc1, by decide, by decide⟩
    · exact ⟨d, _, hd, by decide, by decide⟩
theorem RefR.other {w w' : World} {g1 gs1 g : Nat} {s s1 s2 : RdS} (h : RefR w g s) (a : Rdr w g1 s1) (b : RefR w gs1 s2) (hg : g ≠ gs1) (f : Fr [g1, gs1] w w') : RefR w' g s := by
  obtain ⟨c, hc⟩ := h.row
  obtain ⟨d, hd⟩ := b.row
  obtain ⟨c1, hc1⟩ := a.row
  refine h.frS f ?_ ?_
  · simp only [List.mem_cons, List.not_mem_nil, or_false, not_or]
    exact ⟨hc.ne hc1 (by decide), hg⟩
  · intro x hx
    simp only [List.mem_cons, List.not_mem_nil, or_false] at hx
    rcases hx with rfl | rfl
    · exact ⟨c1, _, hc1, by decide, by decide⟩
    · exact ⟨d, _, hd, by decide, by decide⟩
theorem Fr.transTwo {w w1 w2 : World} {g gs : Nat} (h : Fr [] w w1) (k : Fr [g, gs] w1 w2) (hg : w.heap.size ≤ g) (hgs : w.heap.size ≤ gs) : Fr [] w w2 :=
  h.trans k fun b hb hlt => by
    simp only [List.mem_cons, List.not_mem_nil, or_false] at hb
    rcases hb with rfl | rfl <;> omega

/-- both pairs -/
def Pairs (w : World) (g gs q qs : Nat) (s t : RdS) : Prop := Rdr w g s ∧ RefR w gs s ∧ Rdr w q t ∧ RefR w qs t

set_option maxRecDepth 100000 in
set_option maxHeartbeats 8000000 in
theorem octetReads_walk (a : Option Addr) (la : List UInt8) (ca : Nat) {w : World} (ha : BytesAt w a la) (h1 : la.length ≤ ca) (m1 : ca ≤ maxLen)
    (a' : Option Addr) (la' : List UInt8) (ca' : Nat) (ha' : BytesAt w a' la') (h1' : la'.length ≤ ca') (m1' : ca' ≤ maxLen)
    (b : Option Addr) (ol : List OpR) (cb : Nat) (hb : OpsAt w b ol) (h2 : ol.length ≤ cb) (m2 : cb ≤ maxLen) (he : ErrT w) :
    Calls Tryd.prog 10 #[.slice a la.length ca, .slice a' la'.length ca', .slice b ol.length cb] w fun e w' => e = .returned (.bool true) ∧ Fr [] w w' := by
  obtain ⟨n, hn⟩ : ∃ n, n = min la.length 600 := ⟨_, rfl⟩
  obtain ⟨l, hl⟩ : ∃ l, l = la.take n := ⟨_, rfl⟩
  have hnl : n = l.length := by rw [hl, List.length_take]; omega
  have hbl : BytesAt w a l := by rw [hl]; exact ha.take n
  have hn6 : n ≤ 600 := by omega
  obtain ⟨n', hn'⟩ : ∃ n, n = min la'.length 600 := ⟨_, rfl⟩
  obtain ⟨l', hl'⟩ : ∃ l, l = la'.take n' := ⟨_, rfl⟩
  have hnl' : n' = l'.length := by rw [hl', List.length_take]; omega
  have hbl' : BytesAt w a' l' := by rw [hl']; exact ha'.take n'
  have hn6' : n' ≤ 600 := by omega
  obtain ⟨no, hno⟩ : ∃ n, n = ol.length := ⟨_, rfl⟩
  have hno2 : no ≤ 9223372036854775807 := by unfold maxLen at m2; omega
  rw [← hno]
  have HN := Lib.hid hn; have HL := Lib.hid hnl; have HNO := Lib.hid hno; have HN' := Lib.hid hn'; have HL' := Lib.hid hnl'
  have H1 := Lib.hid h1; have M1 := Lib.hid m1; have HBL := Lib.hid hbl; have HE := Lib.hid he; have HOP := Lib.hid hb
  have H1' := Lib.hid h1'; have M1' := Lib.hid m1'; have HBL' := Lib.hid hbl'
  have HEL : Hid (1 < w.heap.size) := Lib.hid (World.block_lt_of_cell? w _ he)
  clear hn hnl hl ha hno h1 m1 h2 m2 hbl he hb hn' hnl' hl' ha' h1' m1' hbl'
  go_enter Tryd.func10, Tryd.ntmps10
  go_wp2_with fail
  refine (cut_at _ _ _ _ _ HN.out H1.out M1.out).mono ?_
  rintro e w1 ⟨rfl, rfl⟩
  go_wp2_with fail
  refine (cut_at _ _ _ _ _ HN'.out H1'.out M1'.out).mono ?_
  rintro e w1 ⟨rfl, rfl⟩
  go_wp2_with fail
  refine (newRef_any _ l n ca _ HL.out HBL.out (by omega)).mono ?_
  rintro e w1 ⟨gs, rfl, hgs, hr1, hf⟩
  have HK1 := Lib.hid hr1; have HF1 := Lib.hid hf; have HGS := Lib.hid hgs
  clear hr1 hf hgs
  go_wp2_with fail
  refine (newRef_any _ l' n' ca' _ HL'.out (HBL'.out.fr0 HF1.out) (by omega)).mono ?_
  rintro e w2 ⟨qs, rfl, hqs, hr2, hf⟩
  have HQ2 := Lib.hid hr2; have HF2 := Lib.hid (HF1.out.trans0 hf); have HK2 := Lib.hid (HK1.out.fr0 hf)
  have HQS : Hid (w.heap.size ≤ qs) := Lib.hid (Nat.le_trans HF1.out.size hqs)
  have HNS : Hid (qs ≠ gs) := Lib.hid (by obtain ⟨c, hc⟩ := HK1.out.row; have := hc.lt; omega)
  clear hr2 hf hqs HK1
  go_wp2_with fail
  refine (newReader_any _ l n ca _ HL.out (HBL.out.fr0 HF2.out) (by omega)).mono ?_
  rintro e w3 ⟨g, rfl, hg, hr3, hf⟩
  have HR3 := Lib.hid hr3; have HF3 := Lib.hid (HF2.out.trans0 hf); have HK3 := Lib.hid (HK2.out.fr0 hf); have HQ3 := Lib.hid (HQ2.out.fr0 hf)
  have HG : Hid (w.heap.size ≤ g) := Lib.hid (Nat.le_trans HF2.out.size hg)
  clear hr3 hf hg HK2 HQ2
  go_wp2_with fail
  refine (newReader_any _ l' n' ca' _ HL'.out (HBL'.out.fr0 HF3.out) (by omega)).mono ?_
  rintro e w4 ⟨q, rfl, hq, hr4, hf⟩
  have HF4 := Lib.hid (HF3.out.trans0 hf)
  have HP4 : Hid (Pairs w4 g gs q qs _ _) := Lib.hid ⟨HR3.out.fr0 hf, HK3.out.fr0 hf, hr4, HQ3.out.fr0 hf⟩
  have HQ : Hid (w.heap.size ≤ q) := Lib.hid (Nat.le_trans HF3.out.size hq)
  have HNG : Hid (q ≠ g) := Lib.hid (by obtain ⟨c, hc⟩ := HR3.out.row; have := hc.lt; omega)
  clear hr4 hf hq HR3 HK3 HQ3
  have E1 : Hid (g ≠ 1) := Lib.hid (by have := HEL.out; have := HG.out; omega)
  have E2 : Hid (gs ≠ 1) := Lib.hid (by have := HEL.out; have := HGS.out; omega)
  have E3 : Hid (q ≠ 1) := Lib.hid (by have := HEL.out; have := HQ.out; omega)
  have E4 : Hid (qs ≠ 1) := Lib.hid (by have := HEL.out; have := HQS.out; omega)
  go_wp2_with fail
  go_loopw [11] (fun i wr => ∃ (j : Nat) (s t : RdS), i = .int .i64 j ∧ j ≤ no ∧ Hid (Pairs wr g gs q qs s t) ∧ Hid (Fr [] w wr)) (fun i _ => no - (intOf i).toNat)
  case atStart => exact ⟨0, _, _, rfl, Nat.zero_le _, HP4, HF4⟩
  case round =>
    clear HP4 HF4
    obtain ⟨j, s, t, rfl, hj, HP, HF⟩ := hrel
    by_cases hlt : j < no
    · obtain ⟨bo, oo, rfl, q0, q1, q2, q3, _⟩ := (HOP.out.fr0 HF.out).get j (by have := HNO.out; omega)
      have HC0 : Hid (∀ w5, Fr [] w w5 → w5.cell? ⟨bo, oo + j * 4 + 1, none⟩ = some (.bool (ol[j]'(by have := HNO.out; omega)).which)) := Lib.hid fun w5 hf => by
        obtain ⟨b', o', hb', _, q1, _⟩ := (HOP.out.fr0 hf).get j (by have := HNO.out; omega)
        simp only [Option.some.injEq, Addr.mk.injEq, and_true] at hb'
        obtain ⟨rfl, rfl⟩ := hb'
        exact q1
      generalize (ol[j]'(by have := HNO.out; omega)) = r at q0 q1 q2 q3 HC0
      obtain ⟨kind, which, nn, num0⟩ := r
      dsimp only at q0 q1 q2 q3
      cases which with
      | false =>
        go_wp2_with fail
        refine (read_any g gs s ⟨kind, false, nn, num0⟩ _ HP.out.1 HP.out.2.1 (HE.out.fr HF.out (by simp)) E1.out E2.out).mono ?_
        rintro e w5 ⟨rfl, s', hr, hk, hf⟩
        have HF5 := Lib.hid (HF.out.transTwo hf HG.out HGS.out)
        have HP5 : Hid (Pairs w5 g gs q qs s' t) := Lib.hid ⟨hr, hk, HP.out.2.2.1.other HP.out.1 HP.out.2.1 HNG.out hf, HP.out.2.2.2.other HP.out.1 HP.out.2.1 HNS.out hf⟩
        have HC5 : Hid (w5.cell? ⟨bo, oo + j * 4 + 1, none⟩ = some (.bool false)) := Lib.hid (HC0.out w5 HF5.out)
        clear q0 q1 q2 q3 hr hk hf
        have q1 : w5.cell? ⟨bo, oo + j * 4 + 1, none⟩ = some (.bool false) := HC5.out
        go_wp2_with fail
        go_roundw
        case rel => exact ⟨j + 1, s', t, by go_num, by omega, HP5, HF5⟩
        case measure => simp [intOf]; omega
      | true =>
        go_wp2_with fail
        refine (read_any q qs t ⟨kind, true, nn, num0⟩ _ HP.out.2.2.1 HP.out.2.2.2 (HE.out.fr HF.out (by simp)) E3.out E4.out).mono ?_
        rintro e w5 ⟨rfl, t', hr, hk, hf⟩
        have HF5 := Lib.hid (HF.out.transTwo hf HQ.out HQS.out)
        have HP5 : Hid (Pairs w5 g gs q qs s t') := Lib.hid ⟨HP.out.1.other HP.out.2.2.1 HP.out.2.2.2 (fun h => HNG.out h.symm) hf, HP.out.2.1.other HP.out.2.2.1 HP.out.2.2.2 (fun h => HNS.out h.symm) hf, hr, hk⟩
        clear q0 q1 q2 q3 hr hk hf
        go_wp2_with fail
        go_roundw
        case rel => exact ⟨j + 1, s, t', by go_num, by omega, HP5, HF5⟩
        case measure => simp [intOf]; omega
    · go_wp2_with fail
      refine (stands_any g gs s _ HP.out.1 HP.out.2.1 (HE.out.fr HF.out (by simp))).mono ?_
      rintro e w5 ⟨rfl, hf⟩
      have HF5 := Lib.hid (HF.out.trans0 hf)
      have HP5 : Hid (Pairs w5 g gs q qs s t) := Lib.hid ⟨HP.out.1.fr0 hf, HP.out.2.1.fr0 hf, HP.out.2.2.1.fr0 hf, HP.out.2.2.2.fr0 hf⟩
      clear hf
      go_wp2_with fail
      refine (stands_any q qs t _ HP5.out.2.2.1 HP5.out.2.2.2 (HE.out.fr HF5.out (by simp))).mono ?_
      rintro e w6 ⟨rfl, hf⟩
      go_wp2_with fail
      go_ret
      exact ⟨rfl, HF5.out.trans0 hf⟩
end Go.Proofs.YtoooflagkhpnkaaDoor
