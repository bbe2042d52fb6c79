/- The walk of InboxPlays. -/
import Derived.Test.YtjhemoekmlhlpaaBoxT
import Derived.Test.YtjhemoekmlhlpaaOpsI
namespace Go.Proofs.Ytjhemoekmlhlpaa
open Go Go.RowKit
set_option linter.unusedVariables false

theorem built_op9 (k s : Int) (w : World) : (Instr.build 55 #[(0, .int .i64 k), (1, .int .i64 s)]).run Try.prog w = .ok (.agg #[.int .i64 k, .int .i64 s, .int .i64 0, .int .i64 0, .slice none 0 0]) w := run_build w _ _ _ (by kernel_rfl)
set_option maxRecDepth 100000 in
set_option maxHeartbeats 8000000 in
theorem inboxPlays_walk (x0 : Int) (wx0 : (Lit.int .i64 x0).wf = true) (x1 : Int) (wx1 : (Lit.int .i64 x1).wf = true) (a : Option Addr) (S : List Op9) (ca : Nat) (h1 : S.length ≤ ca) (m1 : ca ≤ maxLen) {w : World} (ha : Ops9 w a S) :
    Calls Try.prog 8 #[.int .i64 x0, .int .i64 x1, .slice a S.length ca] w fun e w' => e = .returned (.bool true) ∧ Fr [] w w' := by
  obtain ⟨n, hn⟩ : ∃ n, n = S.length := ⟨_, rfl⟩
  rw [← hn] at h1 ⊢
  have hn63 : n ≤ 9223372036854775807 := by unfold maxLen at m1; omega
  have HA := Lib.hid ha; have HN := Lib.hid hn
  have hbo := built_op9 5
  have PB := Lib.hid (boxed_ok x0 x1 w wx0 wx1)
  clear ha hn m1 wx0 wx1
  go_enter Try.func8, Try.ntmps8
  go_wp2_with fail
  refine PB.out.mono ?_
  rintro e w1 ⟨X, rfl, hi1, hf1⟩
  have HI1 := Lib.hid hi1; have HF1 := Lib.hid hf1
  clear hi1 hf1 PB
  go_wp2_with fail
  refine (fixed_ok w1).mono ?_
  rintro e w2 ⟨rfl, hf2⟩
  have HI2 := Lib.hid (HI1.out.fr0 hf2); have HF2 := Lib.hid (HF1.out.trans0 hf2)
  clear hf2 HI1 HF1
  go_wp2_with fail
  go_loopw [9] (fun i wr => ∃ j : Nat, i = .int .i64 j ∧ j ≤ n ∧ Hid (BxI wr w.heap.size X) ∧ Hid (Fr [] w wr)) (fun i _ => n - (intOf i).toNat)
  case atStart => exact ⟨0, rfl, Nat.zero_le _, HI2, HF2⟩
  case round =>
    obtain ⟨j, rfl, hj, HI, HF⟩ := hrel
    by_cases hlt : j < n
    · have hj2 : j < S.length := by have := HN.out; omega
      obtain ⟨b, off, rfl, p0, p1, p2, p3, p4, hfit⟩ := (HA.out.fr0 HF.out).get j hj2
      obtain ⟨o, ho⟩ : ∃ o, o = S[j] := ⟨_, rfl⟩
      rw [← ho] at p0 p1 p2 p3 p4 hfit
      obtain ⟨kind, slot, num, x, ina, inl, inc⟩ := o
      have hjn : (j : Int) < (n : Int) := by omega
      have HFIT := Lib.hid hfit
      clear ho hfit
      go_wp2_with fail
      refine (step_ok w.heap.size X (.slice ina inl inc) kind slot num x wr HI.out HFIT.out.2.2.1 HFIT.out.2.2.2).mono ?_
      rintro e w3 ⟨rfl, hi3, hf3⟩
      have HI3 := Lib.hid hi3; have HF3 := Lib.hid (FrB.fr0 HF.out hf3)
      clear hi3 hf3 p0 p1 p2 p3 p4
      go_wp2_with fail
      refine (calm_ok w.heap.size X w3 HI3.out).mono ?_
      rintro e w4 ⟨rfl, nd, hw4⟩
      have hf4 : Fr [] w3 w4 := by rw [hw4]; exact (Fr.refl _ _).drewN _
      have HI4 := Lib.hid (HI3.out.fr0 hf4); have HF4 := Lib.hid (HF3.out.trans0 hf4)
      clear hw4 hf4
      go_wp2_with fail
      go_roundw
      case rel => exact ⟨j + 1, by go_num, by omega, HI4, HF4⟩
      case measure => simp [intOf]; omega
    · go_wp2_with fail
      go_loopw [10] (fun i wr => ∃ j : Nat, i = .int .i64 j ∧ j ≤ 2 ∧ Hid (BxI wr w.heap.size X) ∧ Hid (Fr [] w wr)) (fun i _ => 2 - (intOf i).toNat)
      case atStart => exact ⟨0, rfl, Nat.zero_le _, HI, HF⟩
      case round =>
        clear HI HF hlt
        obtain ⟨j2, rfl, hj2, HI, HF⟩ := hrel
        by_cases hlt : j2 < 2
        · have hz : (j2 : Int) = 0 ∨ (j2 : Int) = 1 := by omega
          have HZ := Lib.hid hz
          clear hz
          go_wp2_with fail
          refine (head_ok w.heap.size X j2 wr HI.out HZ.out).mono ?_
          rintro e w3 ⟨rfl, hi3, hf3⟩
          have HI3 := Lib.hid hi3; have HF3 := Lib.hid (FrB.fr0 HF.out hf3)
          clear hi3 hf3
          go_wp2_with fail
          refine (held_ok w.heap.size X j2 w3 HI3.out HZ.out).mono ?_
          rintro e w4 ⟨rfl, hi4, hf4⟩
          have HI4 := Lib.hid hi4; have HF4 := Lib.hid (FrB.fr0 HF3.out hf4)
          clear hi4 hf4
          go_wp2_with fail
          refine (step_ok w.heap.size X (.slice none 0 0) 5 j2 0 0 w4 HI4.out (by decide) (by decide)).mono ?_
          rintro e w5 ⟨rfl, hi5, hf5⟩
          have HI5 := Lib.hid hi5; have HF5 := Lib.hid (FrB.fr0 HF4.out hf5)
          clear hi5 hf5
          go_wp2_with fail
          go_roundw
          case rel => exact ⟨j2 + 1, by go_num, by omega, HI5, HF5⟩
          case measure => simp [intOf]; omega
        · go_wp2_with fail
          refine (calm_ok w.heap.size X wr HI.out).mono ?_
          rintro e w4 ⟨rfl, nd, hw4⟩
          have HF4 := Lib.hid (show Fr [] w w4 by rw [hw4]; exact HF.out.drewN _)
          clear hw4
          go_wp2_with fail
          go_ret
          exact ⟨rfl, HF4.out⟩
end Go.Proofs.Ytjhemoekmlhlpaa
