/- Contracts: Box.calm, op, Box.head. -/
import Derived.Test.YtjhemoekmlhlpaaBoxC
import Derived.Test.YtjhemoekmlhlpaaOncA
namespace Go.Proofs.Ytjhemoekmlhlpaa
open Go Go.RowKit
set_option linter.unusedVariables false

set_option maxRecDepth 100000 in
set_option maxHeartbeats 4000000 in
theorem calm_any (base X : Nat) (h0 h1 h2 h3 vL vW : Value) (xs ys : List Value) (ls : List (List Int)) (w : World) (h : BoxL w base X h0 h1 h2 h3 vL vW xs ys ls) (hls : ls.length ≤ 100) :
    Calls Try.prog 28 #[.pointer (some ⟨X, 0, none⟩)] w fun e w' => e = .returned (.bool true) ∧ ∃ n, w' = w.drewN n := by
  have H := Lib.hid h
  obtain ⟨aL, cL, rfl⟩ := h.2.1.slice
  obtain ⟨aW, cW, rfl⟩ := h.2.2.1.slice
  obtain ⟨k, hk⟩ : ∃ k, k = ls.length := ⟨_, rfl⟩
  have c4 := h.1.cell' (j := 4) rfl
  have c5 := h.1.cell' (j := 5) rfl
  rw [← hk] at c4 c5 hls
  have HK := Lib.hid hk
  clear h hk
  go_enter Try.func28, Try.ntmps28
  go_wp2_with fail
  go_loopw [3] (fun i wr => ∃ j : Nat, i = .int .i64 j ∧ j ≤ k ∧ Hid (∃ n, wr = w.drewN n)) (fun i _ => k - (intOf i).toNat)
  case atStart => exact ⟨0, rfl, Nat.zero_le _, Lib.hid ⟨0, rfl⟩⟩
  case round =>
    obtain ⟨j, rfl, hj, HD⟩ := hrel
    have HW : Hid (BoxL wr base X h0 h1 h2 h3 (.slice aL ls.length cL) (.slice aW ls.length cW) xs ys ls) := Lib.hid (by obtain ⟨n, e⟩ := HD.out; rw [e]; exact H.out)
    have c4 := HW.out.1.cell' (j := 4) rfl
    have c5 := HW.out.1.cell' (j := 5) rfl
    rw [← HK.out] at c4 c5
    by_cases hlt : j < k
    · obtain ⟨x, hx, hsx⟩ := HW.out.2.1.2 j (by have := HK.out; omega)
      obtain ⟨y, hy, hsy⟩ := HW.out.2.2.1.2 j (by have := HK.out; omega)
      obtain ⟨bL, cL', u, hvL, hcL, _⟩ := owns_there HW.out.2.1.1 j (by have := HK.out; omega)
      obtain ⟨bW, cW', u2, hvW, hcW, _⟩ := owns_there HW.out.2.2.1.1 j (by have := HK.out; omega)
      obtain ⟨rfl, rfl⟩ : aL = some ⟨bL, 0, none⟩ ∧ cL = cL' := by simpa using hvL
      obtain ⟨rfl, rfl⟩ : aW = some ⟨bW, 0, none⟩ ∧ cW = cW' := by simpa using hvW
      have e1 : wr.cell? ⟨bL, j, none⟩ = some x := by
        have h5 := HW.out.2.1.1.cells (g := bL) rfl j x hx
        have hadd : (⟨bL, 0, none⟩ : Addr).add j = ⟨bL, j, none⟩ := by unfold Addr.add; split <;> simp_all
        rwa [hadd] at h5
      have e2 : wr.cell? ⟨bW, j, none⟩ = some y := by
        have h5 := HW.out.2.2.1.1.cells (g := bW) rfl j y hy
        have hadd : (⟨bW, 0, none⟩ : Addr).add j = ⟨bW, j, none⟩ := by unfold Addr.add; split <;> simp_all
        rwa [hadd] at h5
      obtain ⟨l, hl⟩ : ∃ l, l = ls[j]'(by have := HK.out; omega) := ⟨_, rfl⟩
      rw [← hl] at hsx hsy
      obtain ⟨ax, cx, rfl, hix⟩ := hsx.ints
      obtain ⟨ay, cy, rfl, hiy⟩ := hsy.ints
      obtain ⟨m, hm⟩ : ∃ m, m = l.length := ⟨_, rfl⟩
      have hm5 : m ≤ 5000 := by rw [hm]; exact hsx.1
      rw [← hm] at e1 e2
      have hjk : (j : Int) < (k : Int) := by omega
      have HIX := Lib.hid hix; have HIY := Lib.hid hiy; have HM := Lib.hid hm
      clear hx hy hsx hsy hvL hvW hcL hcW hl hix hiy hm
      go_wp2_with fail
      go_quiet (first | (go_at_call 19; go_loud (refine Calls.quiet_of (eq_at ax ay l l m m cx cy _ HM.out HM.out (HIX.out.drewN _) (HIY.out.drewN _) (by unfold maxLen; omega) (by unfold maxLen; omega) true (by simp)))))
      go_wp2_with fail
      go_roundw
      case rel => exact ⟨j + 1, by go_num, by omega, Lib.hid (by obtain ⟨n, e⟩ := HD.out; exact ⟨n + nq, by rw [e, World.drewN_drewN]⟩)⟩
      case measure => simp [intOf]; omega
    · go_wp2_with fail
      go_ret
      exact ⟨rfl, HD.out⟩

set_option maxRecDepth 100000 in
theorem op_any (v : Int) (w : World) :
    Calls Try.prog 46 #[.int .i64 v] w fun e w' => e = .returned (opV v) ∧ Fr [] w w' := by
  obtain ⟨m, hm⟩ : ∃ m, v.tmod 3 = m := ⟨_, rfl⟩
  obtain ⟨s, hs⟩ : ∃ s, wrap64 (-v) = s := ⟨_, rfl⟩
  have hop : opV v = .agg #[.int .i64 m, .int .i64 v, .int .u8 0, .int .i64 0, .int .i64 s] := by rw [← hm, ← hs]; rfl
  have hbd : ∀ w, (Instr.build 93 #[(0, .int .i64 m), (1, .int .i64 v), (4, .int .i64 s)]).run Try.prog w = .ok (.agg #[.int .i64 m, .int .i64 v, .int .u8 0, .int .i64 0, .int .i64 s]) w := fun w => run_build w _ _ _ (by kernel_rfl)
  rw [hop]
  go_enter Try.func46, Try.ntmps46
  go_upto_region 1 with fail
  have hn := Row.new w [.int .i64 0, .int .i64 0, .int .u8 0, .int .i64 0, .int .i64 0] 93
  have hf : Fr [] w (w.alloc (.cells #[.int .i64 0, .int .i64 0, .int .u8 0, .int .i64 0, .int .i64 0] 93)) := (Fr.refl [] w).alloc _
  generalize w.alloc (.cells #[.int .i64 0, .int .i64 0, .int .u8 0, .int .i64 0, .int .i64 0] 93) = w1 at hn hf ⊢
  generalize hn0 : w.heap.size = n0 at hn ⊢
  have HN2 := Lib.hid hn; have HF := Lib.hid hf; have HN0 := Lib.hid hn0
  have g0 := hn.cell' (j := 0) rfl
  have g1 := hn.cell' (j := 1) rfl
  have g2 := hn.cell' (j := 2) rfl
  have g3 := hn.cell' (j := 3) rfl
  have g4 := hn.cell' (j := 4) rfl
  have k0 := hn.free 0
  have k1 := hn.free 1
  have k2 := hn.free 2
  have k3 := hn.free 3
  have k4 := hn.free 4
  clear hn hf hn0 hop
  go_wp2_with fail
  have hrow := ((((HN2.out.set 0 (.int .i64 m)).set 1 (.int .i64 v)).set 2 (.int .u8 0)).set 3 (.int .i64 0)).set 4 (.int .i64 s)
  refine bodyPost_ret (results_cell_row rfl _ _ n0 93 #[.int .i64 m, .int .i64 v, .int .u8 0, .int .i64 0, .int .i64 s] (0, 0) _ rfl hrow Try.underlying93 rfl (by kernel_rfl)) rfl ?_
  refine ⟨rfl, ?_⟩
  have hge : ∀ b, b < w.heap.size → b = n0 → b ∈ ([] : List Nat) := fun b h1 h2 => by have := HN0.out; omega
  exact ((((HF.out.setCell (a := ⟨n0, 0, none⟩) _ (fun h => hge _ h rfl)).setCell (a := ⟨n0, 1, none⟩) _ (fun h => hge _ h rfl)).setCell (a := ⟨n0, 2, none⟩) _ (fun h => hge _ h rfl)).setCell (a := ⟨n0, 3, none⟩) _ (fun h => hge _ h rfl)).setCell (a := ⟨n0, 4, none⟩) _ (fun h => hge _ h rfl)
end Go.Proofs.Ytjhemoekmlhlpaa
