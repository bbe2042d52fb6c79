/- The contract of Box.step. -/
import Derived.Test.YtjhemoekmlhlpaaBoxH
namespace Go.Proofs.Ytjhemoekmlhlpaa
open Go Go.RowKit
set_option linter.unusedVariables false

set_option maxRecDepth 100000 in
set_option maxHeartbeats 8000000 in
theorem step_ok (E : List Nat) (base X gA bA r : Nat) (inV : Value) (kind slot num x : Int) (w : World) (hlt : ∀ y ∈ E, y < w.heap.size) (h : BxI E w base X gA bA r) (hnum : (Lit.int .i64 num).wf = true) (hx : (Lit.int .i64 x).wf = true) :
    Calls Try.prog 27 #[.pointer (some ⟨X, 0, none⟩), .agg #[.int .i64 kind, .int .i64 slot, .int .i64 num, .int .i64 x, inV]] w (BxPost E w base X gA bA r) := by
  obtain ⟨b, hb⟩ : ∃ b, b = slot % 2 := ⟨_, rfl⟩
  have hsl2 : bits .and .i64 slot 1 = b := by rw [i64_and1, hb]
  have hb01 : b = 0 ∨ b = 1 := by omega
  have HB01 := Lib.hid hb01
  have HLT0 := Lib.hid hlt
  clear hlt
  have H := Lib.hid h; have HNUM := Lib.hid hnum; have HX := Lib.hid hx
  clear h hnum hx hb hb01
  go_enter Try.func27, Try.ntmps27
  go_upto_region 1 with fail
  have ho1 := Row.new w [.int .i64 kind, .int .i64 slot, .int .i64 num, .int .i64 x, inV] 55
  have hf1 := (Fr.refl [] w).alloc (.cells #[.int .i64 kind, .int .i64 slot, .int .i64 num, .int .i64 x, inV] 55)
  generalize w.alloc (.cells #[.int .i64 kind, .int .i64 slot, .int .i64 num, .int .i64 x, inV] 55) = w1 at ho1 hf1 ⊢
  generalize w.heap.size = n0 at ho1 ⊢
  have H1 := Lib.hid (H.out.fr0 hf1)
  have HF1 := Lib.hid hf1
  have HLT : Hid (∀ y ∈ E, y < w1.heap.size) := Lib.hid fun y hy => Nat.lt_of_lt_of_le (HLT0.out y hy) hf1.size
  have o0 := ho1.cell' (j := 0) rfl
  have o1 := ho1.cell' (j := 1) rfl
  have o2 := ho1.cell' (j := 2) rfl
  have o3 := ho1.cell' (j := 3) rfl
  have o4 := ho1.cell' (j := 4) rfl
  clear ho1 hf1
  by_cases hk : kind = 1 ∨ kind = 3 ∨ kind = 4 ∨ kind = 7
  · have HC := Lib.hid (changes_ok E base X gA bA r inV kind slot num x w1 H1.out hk HNUM.out HX.out)
    rcases hk with rfl | rfl | rfl | rfl
    all_goals
      go_wp2_with fail
      refine HC.out.mono ?_
      rintro e w2 ⟨rfl, hi2, hf2⟩
      have HI2 := Lib.hid hi2; have HF2 := Lib.hid hf2
      clear hi2 hf2
      go_wp2_with fail
      go_ret
      exact ⟨rfl, HI2.out, (FrB.nil HF1.out).trans HF2.out⟩
  · have k1 : (kind == 1) = false := by rw [beq_eq_false_iff_ne]; exact fun e => hk (.inl e)
    have k3 : (kind == 3) = false := by rw [beq_eq_false_iff_ne]; exact fun e => hk (.inr (.inl e))
    have k4 : (kind == 4) = false := by rw [beq_eq_false_iff_ne]; exact fun e => hk (.inr (.inr (.inl e)))
    have k7 : (kind == 7) = false := by rw [beq_eq_false_iff_ne]; exact fun e => hk (.inr (.inr (.inr e)))
    clear hk
    by_cases h2 : kind = 2
    · subst h2
      go_wp2_with fail
      refine (head_ok E base X gA bA r b w1 H1.out HB01.out).mono ?_
      rintro e w2 ⟨rfl, hi2, hf2⟩
      have HI2 := Lib.hid hi2; have HF2 := Lib.hid hf2
      clear hi2 hf2
      go_wp2_with fail
      go_ret
      exact ⟨rfl, HI2.out, (FrB.nil HF1.out).trans HF2.out⟩
    have k2 : (kind == 2) = false := by rw [beq_eq_false_iff_ne]; exact h2
    by_cases h6 : kind = 6
    · subst h6
      go_wp2_with fail
      refine (held_ok E base X gA bA r b w1 HLT.out H1.out HB01.out).mono ?_
      rintro e w2 ⟨rfl, hi2, hf2⟩
      have HI2 := Lib.hid hi2; have HF2 := Lib.hid hf2
      clear hi2 hf2
      go_wp2_with fail
      go_ret
      exact ⟨rfl, HI2.out, (FrB.nil HF1.out).trans HF2.out⟩
    have k6 : (kind == 6) = false := by rw [beq_eq_false_iff_ne]; exact h6
    by_cases h5 : kind = 5
    · subst h5
      obtain ⟨gB, bB, gp, gq, vp, vq, vL, vW, cA, s, cB, Lp, Lq, xs, ys, ls, hP, _⟩ := H1.out
      have c0 := hP.1.1.cell' (j := 0) rfl
      have c1 := hP.1.1.cell' (j := 1) rfl
      have c2 := hP.1.1.cell' (j := 2) rfl
      have c3 := hP.1.1.cell' (j := 3) rfl
      have HP := Lib.hid hP
      clear hP
      have hb01 := HB01.out
      rcases hb01 with rfl | rfl
      · go_wp2_with fail
        go_quiet (first
          | (go_at_call 18; exact Calls.quiet_of_same ((cum_any gA bA r cA _ _ (HP.out.2.2.1.1.drewN _)).mono (fun e w' h => ⟨h.1, h.2.symm⟩)))
          | (go_at_call 34; exact Calls.quiet_of_same ((rfCum_any base gp vp r cA Lp _ (HP.out.2.2.1.2.1.fr0 ((Fr.refl _ _).drewN _))).mono (fun e w' h => ⟨h.1, h.2.symm⟩))))
        go_wp2_with fail
        go_ret
        exact ⟨ret_bool (by simp), H1.out.fr0 ((Fr.refl _ _).drewN _), .nil (HF1.out.drewN _)⟩
      · go_wp2_with fail
        go_quiet (first
          | (go_at_call 43; exact Calls.quiet_of_same ((cum_anyO gB bB s cB _ _ (HP.out.2.2.2.1.1.drewN _)).mono (fun e w' h => ⟨h.1, h.2.symm⟩)))
          | (go_at_call 34; exact Calls.quiet_of_same ((rfCum_any base gq vq s cB Lq _ (HP.out.2.2.2.1.2.1.fr0 ((Fr.refl _ _).drewN _))).mono (fun e w' h => ⟨h.1, h.2.symm⟩))))
        go_wp2_with fail
        go_ret
        exact ⟨ret_bool (by simp), H1.out.fr0 ((Fr.refl _ _).drewN _), .nil (HF1.out.drewN _)⟩
    have k5 : (kind == 5) = false := by rw [beq_eq_false_iff_ne]; exact h5
    go_wp2_with fail
    go_ret
    exact ⟨rfl, H1.out, .nil HF1.out⟩
end Go.Proofs.Ytjhemoekmlhlpaa
