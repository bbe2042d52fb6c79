/- The walk of jotterlaw09.InboxOnce. -/
import Derived.Test.YtjhemoekmlhlpaaOncW
import Derived.Test.YtjhemoekmlhlpaaOpsI
import Derived.Deep.LoopGhost
import Derived.Deep.CutBlock
import Derived.Laws.Tables
namespace Go.Proofs.Ytjhemoekmlhlpaa
open Go Go.RowKit
set_option linter.unusedVariables false

set_option maxRecDepth 1000000 in
theorem zeroOnce : Try.zeroCells51 = (Value.pointer none :: Value.int .i64 0 :: (List.replicate 4097 (Value.int .i64 0) ++ (List.replicate 4097 (Value.bool false) ++ [Value.int .i64 0]))).toArray := by kernel_rfl
theorem builtOnce (p : Value) (r : Nat) : (Try.zeroCells51.setIfInBounds 0 p).setIfInBounds 1 (.int .i64 r) = (OncL p r (fun _ => 0) (fun _ => false) 0).toArray := by
  rw [zeroOnce, List.setIfInBounds_toArray, List.setIfInBounds_toArray]
  simp only [List.set_cons_zero, List.set_cons_succ, OncL, List.map_const', List.length_range]
  rfl
theorem rising_bound {L : List Int} {c r : Nat} (h : L.Pairwise (· < ·)) (hb : ∀ x ∈ L, (c : Int) < x ∧ x ≤ (c : Int) + r) : L.length ≤ r := by
  have h1 : ∀ j (hj : j < L.length), (c : Int) + 1 + j ≤ L[j] := by
    intro j
    induction j with
    | zero => intro hj; have := (hb _ (List.getElem_mem hj)).1; omega
    | succ j ih =>
      intro hj
      have h2 := ih (by omega)
      have h3 := List.pairwise_iff_getElem.1 h j (j + 1) (by omega) hj (by omega)
      omega
  rcases Nat.lt_or_ge r L.length with hlt | hge
  · have h2 := h1 (L.length - 1) (by omega)
    have h3 := (hb _ (List.getElem_mem (show L.length - 1 < L.length by omega))).2
    omega
  · exact hge
theorem fr_in {w wr w' : World} {go gi bi : Nat} (h : Fr [] w wr) (k : Fr [go, gi, bi] wr w') (hg : w.heap.size ≤ go ∧ w.heap.size ≤ gi ∧ w.heap.size ≤ bi) : Fr [] w w' :=
  h.trans k (fun b hb hlt => by simp only [List.mem_cons, List.not_mem_nil, or_false] at hb; rcases hb with rfl | rfl | rfl <;> omega)

set_option maxRecDepth 100000 in
set_option maxHeartbeats 16000000 in
theorem inboxOnce_walk (x0 : Int) (wx0 : (Lit.int .i64 x0).wf = true) (a : Option Addr) (S : List Op9) (ca : Nat) (h1 : S.length ≤ ca) (m1 : ca ≤ maxLen) {w : World} (ha : Ops9 w a S) :
    Calls Try.prog 5 #[.int .i64 x0, .slice a S.length ca] w fun e w' => e = .returned (.bool true) ∧ Fr [] w w' := by
  obtain ⟨N, hN⟩ : ∃ n, n = S.length := ⟨_, rfl⟩
  rw [← hN] at h1 ⊢
  have HN := Lib.hid hN; have HA := Lib.hid ha
  have WX0 := Lib.hid wx0
  have M1 := Lib.hid m1
  have hNm : N ≤ 9223372036854775807 := by unfold maxLen at m1; omega
  clear hN ha wx0 m1
  go_enter Try.func5, Try.ntmps5
  go_wp2_with fail
  refine (within_any x0 1 4096 _ (by omega) (by omega) (by omega) WX0.out).mono ?_
  rintro e w1 ⟨r, rfl, hr1, hr2, _, rfl⟩
  go_wp2_with fail
  refine (new_ok r _ hr1 hr2).mono ?_
  rintro e w1 ⟨gi, bi, rfl, hgi, hbi, hi, hf⟩
  have HI := Lib.hid hi; have HF := Lib.hid hf; have HG : Hid (w.heap.size ≤ gi ∧ w.heap.size ≤ bi) := Lib.hid ⟨hgi, hbi⟩
  obtain ⟨go, hgo⟩ : ∃ go, go = w1.heap.size := ⟨_, rfl⟩
  obtain ⟨w2, hw2⟩ : ∃ w2, w2 = w1.alloc (.cells ((Try.zeroCells51.setIfInBounds 0 (.pointer (some ⟨gi, 0, none⟩))).setIfInBounds 1 (.int .i64 r)) 51) := ⟨_, rfl⟩
  have HO : Hid (Onc w2 go gi bi r (fun _ => 0) (fun _ => false) 0 (fun _ => none)) := Lib.hid (by
    have hr : Row w2 go (OncL (.pointer (some ⟨gi, 0, none⟩)) r (fun _ => 0) (fun _ => false) 0) 51 := by
      rw [hw2, hgo, builtOnce]
      exact Row.new w1 _ _
    refine ⟨hr, HI.out.fr0 (by rw [hw2]; exact (Fr.refl [] w1).alloc _), fun q _ _ => rfl, (fun j hj => by cases hj), (fun q _ _ hq => by cases hq), fun q => (show (Lit.int .i64 0).wf = true from wfI (by omega) (by omega))⟩)
  have HF2 : Hid (Fr [] w w2) := Lib.hid (by rw [hw2]; exact HF.out.alloc _)
  have HG3 : Hid (w.heap.size ≤ go ∧ w.heap.size ≤ gi ∧ w.heap.size ≤ bi) := Lib.hid ⟨by rw [hgo]; exact HF.out.size, HG.out⟩
  have HW2 := Lib.hid hw2; have HGO := Lib.hid hgo
  clear hi hf hgi hbi hw2 hgo HI HG HF
  go_upto_region 6 with fail
  rw [← HW2.out, ← HGO.out]
  go_wp2_with fail
  refine (once_put go gi bi r 0 _ _ _ 1 5 _ HO.out (wfI (by omega) (by omega))).mono ?_
  rintro e w3 ⟨rfl, ⟨V1, T1, f1, ho, ht⟩, hf⟩
  have HT1 : Hid (T1 1 = true) := Lib.hid (ht 1 rfl (by omega) (by omega) (by omega))
  have HF3 := Lib.hid (fr_in HF2.out hf HG3.out)
  have HO3 := Lib.hid ho
  clear ho ht hf HO HF2
  have HO := HO3; have HF2 := HF3
  clear HO3 HF3
  go_wp2_with fail
  refine (once_put go gi bi r 0 _ _ _ 1 6 _ HO.out (wfI (by omega) (by omega))).mono ?_
  rintro e w3 ⟨rfl, ⟨V1, T1, f1, ho, ht⟩, hf⟩
  have HT1 : Hid (T1 1 = true) := Lib.hid (ht 1 rfl (by omega) (by omega) (by omega))
  have HF3 := Lib.hid (fr_in HF2.out hf HG3.out)
  have HO3 := Lib.hid ho
  clear ho ht hf HO HF2
  have HO := HO3; have HF2 := HF3
  clear HO3 HF3
  go_wp2_with fail
  refine (once_out go gi bi r 0 _ _ _ false _ HO.out).mono ?_
  rintro e w3 ⟨rfl, ⟨V1, T1', C1, f1, ho, ht⟩, hf⟩
  have hC := ht (by omega) HT1.out
  simp only [Bool.false_eq_true, if_false] at hC
  subst hC
  have HF3 := Lib.hid (fr_in HF2.out hf HG3.out)
  have HO3 := Lib.hid ho
  clear ho ht hf HO HF2
  have HO := HO3; have HF2 := HF3
  clear HO3 HF3
  go_wp2_with fail
  refine (once_put go gi bi r 0 _ _ _ 1 7 _ HO.out (wfI (by omega) (by omega))).mono ?_
  rintro e w3 ⟨rfl, ⟨V1, T1, f1, ho, ht⟩, hf⟩
  have HT1 : Hid (T1 1 = true) := Lib.hid (ht 1 rfl (by omega) (by omega) (by omega))
  have HF3 := Lib.hid (fr_in HF2.out hf HG3.out)
  have HO3 := Lib.hid ho
  clear ho ht hf HO HF2
  have HO := HO3; have HF2 := HF3
  clear HO3 HF3
  go_wp2_with fail
  refine (once_out go gi bi r 0 _ _ _ true _ HO.out).mono ?_
  rintro e w3 ⟨rfl, ⟨V1, T1', C1, f1, ho, ht⟩, hf⟩
  have hC := ht (by omega) HT1.out
  simp only [if_true] at hC
  subst hC
  have HF3 := Lib.hid (fr_in HF2.out hf HG3.out)
  have HO3 := Lib.hid ho
  clear ho ht hf HO HF2
  have c0 := HO3.out.1.cell' (OncL_getC _ _ _ _ _)
  go_wp2_with fail
  clear c0
  go_loopw [9] (fun iv wr => ∃ (i : Nat) (V : Nat → Int) (T : Nat → Bool) (C : Nat) (f : Int → Option Int), iv = .int .i64 i ∧ i ≤ N ∧ Hid (Onc wr go gi bi r V T C f) ∧ Hid (Fr [] w wr)) (fun iv _ => N - (intOf iv).toNat)
  case atStart => exact ⟨0, _, _, _, _, rfl, Nat.zero_le _, HO3, HF3⟩
  case round =>
    clear HO3 HF3
    obtain ⟨i, V, T, C, f, rfl, hiN, HO, HF⟩ := hrel
    by_cases hi : i < N
    · have hil : i < S.length := by have := HN.out; omega
      obtain ⟨bs, os, hbs, s0, s1, s2, s3, s4, sf⟩ := (HA.out.fr0 HF.out).get i hil
      subst hbs
      generalize S[i] = sp at s0 s1 s2 s3 s4 sf
      obtain ⟨kind, slot, nn, vv, ina, inl, inc⟩ := sp
      have HSF := Lib.hid sf
      clear sf
      by_cases k1 : kind = 1
      · subst k1
        go_wp2_with fail
        refine (once_put go gi bi r C V T f nn vv _ (HO.out.fr0 ((Fr.refl _ _).alloc _)) HSF.out.2.2.2).mono ?_
        rintro e w3 ⟨rfl, ⟨V1, T1, f1, ho, _⟩, hf⟩
        have HO3 := Lib.hid ho
        have HF3 := Lib.hid (fr_in (HF.out.alloc _) hf HG3.out)
        clear ho hf s0 s1 s2 s3 s4
        go_wp2_with fail
        go_roundw
        case rel => exact ⟨i + 1, _, _, _, _, by go_num, by omega, HO3, HF3⟩
        case measure => simp [intOf]; omega
      by_cases k3 : kind = 3
      · subst k3
        go_wp2_with fail
        refine (once_out go gi bi r C V T f true _ (HO.out.fr0 ((Fr.refl _ _).alloc _))).mono ?_
        rintro e w3 ⟨rfl, ⟨V1, T1, C1, f1, ho, _⟩, hf⟩
        have HO3 := Lib.hid ho
        have HF3 := Lib.hid (fr_in (HF.out.alloc _) hf HG3.out)
        clear ho hf s0 s1 s2 s3 s4
        go_wp2_with fail
        go_roundw
        case rel => exact ⟨i + 1, _, _, _, _, by go_num, by omega, HO3, HF3⟩
        case measure => simp [intOf]; omega
      by_cases k4 : kind = 4
      · subst k4
        go_wp2_with fail
        refine (once_out go gi bi r C V T f false _ (HO.out.fr0 ((Fr.refl _ _).alloc _))).mono ?_
        rintro e w3 ⟨rfl, ⟨V1, T1, C1, f1, ho, _⟩, hf⟩
        have HO3 := Lib.hid ho
        have HF3 := Lib.hid (fr_in (HF.out.alloc _) hf HG3.out)
        clear ho hf s0 s1 s2 s3 s4
        go_wp2_with fail
        go_roundw
        case rel => exact ⟨i + 1, _, _, _, _, by go_num, by omega, HO3, HF3⟩
        case measure => simp [intOf]; omega
      by_cases k6 : kind = 6
      · subst k6
        go_wp2_with fail
        refine (held_any gi bi r C f _ (HO.out.2.1.fr0 ((Fr.refl _ _).alloc _))).mono ?_
        rintro e w3 ⟨aL, cL, L, rfl, hoL, hpL, hmL, hfL⟩
        have hel : ∀ x ∈ L, ∃ q : Nat, x = (q : Int) ∧ C < q ∧ q ≤ 4096 ∧ T q = true ∧ q ≤ C + r := fun x hx => by
          have h5 := (hmL x).1 hx
          obtain ⟨q, rfl, h6, h7⟩ := HO.out.2.2.2.1 x h5
          rw [HO.out.2.2.1 q h6 h7] at h5
          have h8 : T q = true := by
            cases hh : T q with
            | true => rfl
            | false => rw [hh] at h5; cases h5
          exact ⟨q, rfl, h6, h7, h8, HO.out.2.2.2.2.1 q h6 h7 h8⟩
        have hlr : L.length ≤ r := rising_bound (c := C) hpL (fun x hx => by obtain ⟨q, rfl, h6, _, _, h7⟩ := hel x hx; omega)
        obtain ⟨m, hm⟩ : ∃ m, m = L.length := ⟨_, rfl⟩
        rw [← hm] at hlr hoL
        rw [← hm]
        have HM := Lib.hid hm
        have HEL := Lib.hid hel
        have HPL := Lib.hid hpL
        have HR3 : Hid (w3.ownsRow w.heap.size 3 1 (.slice aL m cL) m (is L)) := Lib.hid (by
          obtain ⟨h5, h6⟩ := hoL
          refine ⟨h5, ?_⟩
          rcases h6 with h6 | ⟨g, cap, cur, h7, h8, h9⟩
          · exact .inl h6
          · exact .inr ⟨g, cap, cur, h7, by have := HF.out.size; simp at h8; omega, h9⟩)
        have HO3 := Lib.hid (HO.out.fr0 (((Fr.refl [] wr).alloc (.cells #[.int .i64 6, .int .i64 slot, .int .i64 nn, .int .i64 vv, .slice ina inl inc] 55)).trans0 hfL))
        have HF3 := Lib.hid ((HF.out.alloc (.cells #[.int .i64 6, .int .i64 slot, .int .i64 nn, .int .i64 vv, .slice ina inl inc] 55)).trans0 hfL)
        have hle : decide (m ≤ r) = true := decide_eq_true hlr
        clear hm hel hpL hoL hmL hfL s0 s1 s2 s3 s4 HO HF
        go_wp2_with fail
        go_loopw [11, 13] (fun ov kv wr => ∃ (k : Nat), ov = .bool true ∧ kv = .int .i64 k ∧ k ≤ m ∧ Hid (Onc wr go gi bi r V T C f) ∧ Hid (Fr [] w wr) ∧ Hid (wr.ownsRow w.heap.size 3 1 (.slice aL m cL) m (is L))) (fun _ kv _ => m - (intOf kv).toNat)
        case atStart => exact ⟨0, rfl, rfl, Nat.zero_le _, HO3, HF3, HR3⟩
        case round =>
          clear HO3 HF3 HR3
          obtain ⟨k, rfl, rfl, hkm, HO3, HF3, HR3⟩ := hrel
          by_cases hk : k < m
          · have hkL : k < L.length := by have := HM.out; omega
            obtain ⟨q, hq, hq1, hq2, hq3, hq4⟩ := HEL.out _ (List.getElem_mem hkL)
            have hown : wr.ownsRow w.heap.size 3 1 (.slice aL m cL) L.length (is L) := by rw [← HM.out]; exact HR3.out
            obtain ⟨bl, hal, c1⟩ := owns_get hown k hkL
            subst hal
            have ct := HO3.out.1.cell' (OncL_getT (.pointer (some ⟨gi, 0, none⟩)) r V T C q (by omega))
            rw [hq3] at ct
            have c0 := HO3.out.1.cell' (OncL_getC (.pointer (some ⟨gi, 0, none⟩)) r V T C)
            have hq6 : (q : Int) < 4097 := by omega
            have g1 : decide ((1 : Int) ≤ (q : Int)) = true := decide_eq_true (by omega)
            have g2 : decide ((q : Int) ≤ 4096) = true := decide_eq_true (by omega)
            have g3 : decide ((C : Int) < (q : Int)) = true := decide_eq_true (by omega)
            by_cases hk0 : k = 0
            · subst hk0
              rw [hq] at c1
              clear hown hq hq3 hkL
              go_wp2_with fail
              go_quiet (fail)
              go_wp2_with fail
              go_roundw
              case rel => exact ⟨1, rfl, rfl, by omega, Lib.hid (HO3.out.fr0 ((Fr.refl _ _).drewN nq)), Lib.hid (HF3.out.drewN nq), Lib.hid (owns_fr0 HR3.out ((Fr.refl _ _).drewN nq))⟩
              case measure => simp [intOf]; omega
            · obtain ⟨k1, hk1⟩ : ∃ k1, k1 = k - 1 := ⟨_, rfl⟩
              have hk1L : k1 < L.length := by omega
              obtain ⟨p, hp, hp1, hp2, _, _⟩ := HEL.out _ (List.getElem_mem hk1L)
              obtain ⟨bl', hal, c2⟩ := owns_get hown k1 hk1L
              cases hal
              have hlt := List.pairwise_iff_getElem.1 HPL.out k1 k hk1L hkL (by omega)
              rw [hp, hq] at hlt
              rw [hq] at c1
              rw [hp] at c2
              have hk1i : (k : Int) - 1 = (k1 : Int) := by omega
              have hw : IntKind.i64.wrap (k1 : Int) = (k1 : Int) := IntWalk.i64_in _ (by omega)
              have hz : (k1 : Int) < (m : Int) := by omega
              have g4 : decide ((k : Int) = 0) = false := decide_eq_false (by omega)
              have g5 : decide ((p : Int) < (q : Int)) = true := decide_eq_true hlt
              have HK1 := Lib.hid hk1
              have HPQ : Hid (p < q) := Lib.hid (by omega)
              clear hown hq hp hq3 hkL hk1L hlt hk1
              go_wp2_with fail
              go_quiet (fail)
              go_wp2_with fail
              go_roundw
              case rel => exact ⟨k + 1, by have := HPQ.out; simp; omega, by go_num, by omega, Lib.hid (HO3.out.fr0 ((Fr.refl _ _).drewN nq)), Lib.hid (HF3.out.drewN nq), Lib.hid (owns_fr0 HR3.out ((Fr.refl _ _).drewN nq))⟩
              case measure => simp [intOf]; omega
          · go_wp2_with fail
            go_roundw
            case rel => exact ⟨i + 1, _, _, _, _, by go_num, by omega, HO3, HF3⟩
            case measure => simp [intOf]; omega
      · have HO3 := Lib.hid (HO.out.fr0 ((Fr.refl [] wr).alloc (.cells #[.int .i64 kind, .int .i64 slot, .int .i64 nn, .int .i64 vv, .slice ina inl inc] 55)))
        have HF3 := Lib.hid (HF.out.alloc (.cells #[.int .i64 kind, .int .i64 slot, .int .i64 nn, .int .i64 vv, .slice ina inl inc] 55))
        go_wp2_with fail
        go_roundw
        case rel => exact ⟨i + 1, _, _, _, _, by go_num, by omega, HO3, HF3⟩
        case measure => simp [intOf]; omega
    · have c0 := HO.out.1.cell' (OncL_getC (.pointer (some ⟨gi, 0, none⟩)) r V T C)
      go_wp2_with fail
      go_quiet (first | (go_at_call 18; exact Calls.quiet_of_same ((cum_any gi bi r C _ _ (HO.out.2.1.drewN _)).mono (fun e w' h => ⟨h.1, h.2.symm⟩))))
      go_wp2_with fail
      go_ret
      exact ⟨rfl, HF.out.drewN nq⟩
end Go.Proofs.Ytjhemoekmlhlpaa
