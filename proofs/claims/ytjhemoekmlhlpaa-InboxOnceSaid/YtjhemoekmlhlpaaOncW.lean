/- jotterlaw09.Once: put and out answer true and keep the book. -/
import Derived.Test.YtjhemoekmlhlpaaOncA
import Derived.Deep.DeepCutAuto
import Derived.Deep.RegionHeld3
namespace Go.Proofs.Ytjhemoekmlhlpaa
open Go Go.RowKit
set_option linter.unusedVariables false

set_option maxRecDepth 100000 in
set_option maxHeartbeats 4000000 in
theorem once_put (go gi bi r C : Nat) (V : Nat → Int) (T : Nat → Bool) (f : Int → Option Int) (num v : Int) (w : World) (h : Onc w go gi bi r V T C f) (hv : (Lit.int .i64 v).wf = true) :
    Calls Try.prog 22 #[.pointer (some ⟨go, 0, none⟩), .int .i64 num, .int .i64 v] w fun e w' => e = .returned (.bool true) ∧ (∃ V' T' f', Onc w' go gi bi r V' T' C f' ∧ ∀ n : Nat, num = n → C < n → n ≤ C + r → n ≤ 4096 → T' n = true) ∧ Fr [go, gi, bi] w w' := by
  have H := Lib.hid h
  have HV := Lib.hid hv
  have d0 := h.1.cell' (OncL_get0 (.pointer (some ⟨gi, 0, none⟩)) r V T C)
  have hr2 := h.2.1.2.2.2.1
  have hc2 := h.2.1.2.2.2.2
  clear h hv
  go_enter Try.func22, Try.ntmps22
  go_wp2_with fail
  refine (put_any gi bi r C f num v _ H.out.2.1 HV.out).mono ?_
  rintro e w1 ⟨he, hi1, hf1⟩
  have hne := H.out.ne
  have HR1 : Hid (Row w1 go (OncL (.pointer (some ⟨gi, 0, none⟩)) r V T C) 51) := Lib.hid (H.out.1.fr hf1 (by simp; exact hne.2))
  have HI1 := Lib.hid hi1
  have HF1 := Lib.hid hf1
  have HNE := Lib.hid hne
  clear d0 hi1 hf1 hne
  by_cases hrange : 1 ≤ num ∧ num ≤ 4096
  · obtain ⟨n, rfl⟩ : ∃ n : Nat, num = (n : Int) := ⟨num.toNat, by omega⟩
    have h1 : 1 ≤ n := by omega
    have h2 : n ≤ 4096 := by omega
    clear hrange
    have hcode := H.out.code n h1 h2
    have c0 := HR1.out.cell' (OncL_getC (.pointer (some ⟨gi, 0, none⟩)) r V T C)
    have ct := HR1.out.cell' (OncL_getT (.pointer (some ⟨gi, 0, none⟩)) r V T C n (by omega))
    have c1 := HR1.out.cell' (OncL_get1 (.pointer (some ⟨gi, 0, none⟩)) r V T C)
    by_cases hC : n ≤ C
    · rw [if_pos (.inl hC)] at hcode
      rw [hcode] at he
      subst he
      have HI2 : Hid (Ibx w1 gi bi r C f) := Lib.hid (by have := HI1.out; rwa [putF_no hcode (by decide)] at this)
      clear hcode HI1
      go_wp2_with fail
      go_ret
      exact ⟨rfl, ⟨V, T, f, ⟨HR1.out, HI2.out, H.out.2.2⟩, fun m hm h3 _ _ => by omega⟩, HF1.out.mono (fun b hb _ => by simp at hb; simp [hb])⟩
    · cases hT : T n with
      | true =>
        rw [if_pos (.inr hT)] at hcode
        rw [hcode] at he
        subst he
        rw [hT] at ct
        have HI2 : Hid (Ibx w1 gi bi r C f) := Lib.hid (by have := HI1.out; rwa [putF_no hcode (by decide)] at this)
        have HT := Lib.hid hT
        clear hcode HI1 hT
        go_wp2_with fail
        go_ret
        exact ⟨rfl, ⟨V, T, f, ⟨HR1.out, HI2.out, H.out.2.2⟩, fun m hm _ _ _ => by
          obtain rfl : n = m := by omega
          exact HT.out⟩, HF1.out.mono (fun b hb _ => by simp at hb; simp [hb])⟩
      | false =>
        have hct : ¬ (n ≤ C ∨ T n = true) := fun e => e.elim hC (by rw [hT]; simp)
        rw [if_neg hct] at hcode
        rw [hT] at ct
        have HCT := Lib.hid hct
        clear hct hT
        by_cases hb : C + r < n
        · rw [if_pos hb] at hcode
          rw [hcode] at he
          subst he
          have HI2 : Hid (Ibx w1 gi bi r C f) := Lib.hid (by have := HI1.out; rwa [putF_no hcode (by decide)] at this)
          clear hcode HI1
          have q1 : IntKind.i64.wrap ((C : Int) + (r : Int)) = (C : Int) + (r : Int) := IntWalk.i64_in _ (by omega)
          have hgt : decide ((C : Int) + (r : Int) < (n : Int)) = true := decide_eq_true (by omega)
          go_wp2_with fail
          go_quiet (fail)
          go_wp2_with fail
          go_ret
          exact ⟨rfl, ⟨V, T, f, ⟨HR1.out, HI2.out, H.out.2.2⟩, fun m hm _ _ _ => by omega⟩, (HF1.out.mono (fun b hb _ => by simp at hb; simp [hb])).drewN _⟩
        · rw [if_neg hb] at hcode
          rw [hcode] at he
          subst he
          have HB := Lib.hid hb
          have q1 : IntKind.i64.wrap ((C : Int) + (r : Int)) = (C : Int) + (r : Int) := IntWalk.i64_in _ (by omega)
          have HCODE := Lib.hid hcode
          have hgt : decide ((C : Int) + (r : Int) < (n : Int)) = false := decide_eq_false (by omega)
          have cv := HR1.out.cell' (OncL_getV (.pointer (some ⟨gi, 0, none⟩)) r V T C n (by omega))
          have fv := HR1.out.free (2 + n)
          have ft := HR1.out.free (4099 + n)
          clear hcode
          go_wp2_with fail
          go_quiet (fail)
          go_wp2_with fail
          go_ret
          have hrow : Row (((w1.drewN nq).setCell ⟨go, 4099 + n, none⟩ (.bool true)).setCell ⟨go, 2 + n, none⟩ (.int .i64 v)) go (OncL (.pointer (some ⟨gi, 0, none⟩)) r (updN V n v) (updN T n true) C) 51 := by
            have h5 := ((HR1.out.drewN nq).set (4099 + n) (.bool true)).set (2 + n) (.int .i64 v)
            rw [OncL_setT _ _ _ _ _ n (by omega), OncL_setV _ _ _ _ _ n (by omega)] at h5
            exact h5
          have hf2 : Fr [go] w1 (((w1.drewN nq).setCell ⟨go, 4099 + n, none⟩ (.bool true)).setCell ⟨go, 2 + n, none⟩ (.int .i64 v)) := (((Fr.refl [go] w1).drewN nq).setCell _ (fun _ => by simp)).setCell _ (fun _ => by simp)
          refine ⟨rfl, ⟨_, _, _, H.out.put n h1 h2 v HV.out HCT.out (by have := HB.out; omega) HI1.out HF1.out hrow hf2, fun m hm _ _ _ => ?_⟩, (HF1.out.mono (fun b hb _ => by simp at hb; simp [hb])).trans hf2 (fun b hb _ => by simp at hb; simp [hb])⟩
          obtain rfl : n = m := by omega
          simp [updN]
  · have hcode : putCode r C f num = 91 := by unfold putCode; rw [if_pos (by omega)]
    rw [hcode] at he
    subst he
    have HI2 : Hid (Ibx w1 gi bi r C f) := Lib.hid (by have := HI1.out; rwa [putF_no hcode (by decide)] at this)
    clear hcode HI1
    by_cases hl : num < 1
    · go_wp2_with fail
      go_ret
      exact ⟨rfl, ⟨V, T, f, ⟨HR1.out, HI2.out, H.out.2.2⟩, fun m hm _ _ _ => by omega⟩, HF1.out.mono (fun b hb _ => by simp at hb; simp [hb])⟩
    · have hg : 4096 < num := by omega
      go_wp2_with fail
      go_ret
      exact ⟨rfl, ⟨V, T, f, ⟨HR1.out, HI2.out, H.out.2.2⟩, fun m hm _ _ _ => by omega⟩, HF1.out.mono (fun b hb _ => by simp at hb; simp [hb])⟩

set_option maxRecDepth 100000 in
set_option maxHeartbeats 4000000 in
theorem once_out (go gi bi r C : Nat) (V : Nat → Int) (T : Nat → Bool) (f : Int → Option Int) (pop : Bool) (w : World) (h : Onc w go gi bi r V T C f) :
    Calls Try.prog 23 #[.pointer (some ⟨go, 0, none⟩), .bool pop] w fun e w' => e = .returned (.bool true) ∧ (∃ V' T' C' f', Onc w' go gi bi r V' T' C' f' ∧ (C + 1 ≤ 4096 → T (C + 1) = true → C' = if pop = true then C + 1 else C)) ∧ Fr [go, gi, bi] w w' := by
  have H := Lib.hid h
  have d0 := h.1.cell' (OncL_get0 (.pointer (some ⟨gi, 0, none⟩)) r V T C)
  have hr2 := h.2.1.2.2.2.1
  have hc2 := h.2.1.2.2.2.2
  clear h
  go_enter Try.func23, Try.ntmps23
  go_wp2_with fail
  refine (head_any gi bi r C f _ H.out.2.1).mono ?_
  rintro e w1 ⟨he, n1, hw1⟩
  have hf1 : Fr [] w w1 := by rw [hw1]; exact (Fr.refl _ _).drewN n1
  have H1 := Lib.hid (H.out.fr0 hf1)
  have HF1 := Lib.hid hf1
  clear d0 hw1 hf1
  have d0 := H1.out.1.cell' (OncL_get0 (.pointer (some ⟨gi, 0, none⟩)) r V T C)
  have c0 := H1.out.1.cell' (OncL_getC (.pointer (some ⟨gi, 0, none⟩)) r V T C)
  by_cases hn : C + 1 ≤ 4096
  · have hfn := H.out.2.2.1 (C + 1) (by omega) hn
    have ct := H1.out.1.cell' (OncL_getT (.pointer (some ⟨gi, 0, none⟩)) r V T C (C + 1) (by omega))
    have cv := H1.out.1.cell' (OncL_getV (.pointer (some ⟨gi, 0, none⟩)) r V T C (C + 1) (by omega))
    obtain ⟨n, hnn⟩ : ∃ n, n = C + 1 := ⟨_, rfl⟩
    rw [← hnn] at ct cv
    have hni : (C : Int) + 1 = (n : Int) := by omega
    have hn2 : n ≤ 4096 := by omega
    have HNN := Lib.hid hnn
    clear hnn hn
    cases hT : T (C + 1) with
    | true =>
      rw [hT] at hfn
      simp only [if_true] at hfn
      rw [hfn] at he
      simp only [Option.getD_some, Option.isSome_some] at he
      have HFN := Lib.hid hfn
      rw [← HNN.out] at he hT
      rw [hT] at ct
      have HT := Lib.hid hT
      clear hfn hT
      generalize hx : V n = x at he cv
      have HX := Lib.hid hx
      clear hx
      subst he
      cases pop with
      | true =>
        go_wp2_with fail
        refine (pop_any gi bi r C f _ H1.out.2.1).mono ?_
        rintro e w2 ⟨hpost, hf2⟩
        rw [HFN.out] at hpost
        obtain ⟨rfl, hi2⟩ : e = .returned (.int .i64 0) ∧ Ibx w2 gi bi r (C + 1) (upd f ((C + 1 : Nat) : Int) none) := by
          rcases hpost with ⟨_, h1, h2⟩ | ⟨h, _⟩
          · exact ⟨h1, h2⟩
          · cases h
        have HNE := Lib.hid H1.out.ne
        have HR2 : Hid (Row w2 go (OncL (.pointer (some ⟨gi, 0, none⟩)) r V T C) 51) := Lib.hid (H1.out.1.fr hf2 (by simp; exact HNE.out))
        have HI2 := Lib.hid hi2
        have HF2 := Lib.hid hf2
        clear hpost hi2 hf2 d0 c0 ct cv
        have c0 := HR2.out.cell' (OncL_getC (.pointer (some ⟨gi, 0, none⟩)) r V T C)
        have f0 := HR2.out.free 8196
        obtain ⟨w3, hw3⟩ : ∃ w3, w3 = w2.setCell ⟨go, 8196, none⟩ (.int .i64 n) := ⟨_, rfl⟩
        have hr3 : Row w3 go (OncL (.pointer (some ⟨gi, 0, none⟩)) r V T n) 51 := by
          rw [hw3, ← OncL_setC (.pointer (some ⟨gi, 0, none⟩)) r V T C n]
          exact HR2.out.set 8196 _
        have hf3 : Fr [go] w2 w3 := by rw [hw3]; exact (Fr.refl [go] w2).setCell _ (fun _ => by simp)
        have HI3 : Hid (Ibx w3 gi bi r n (upd f ((C + 1 : Nat) : Int) none)) := Lib.hid (by
          rw [HNN.out]
          exact HI2.out.fr hf3 (by simp; exact fun e => HNE.out.1 e.symm) (by simp; exact fun e => HNE.out.2 e.symm))
        have g0 := hr3.cell' (OncL_get0 (.pointer (some ⟨gi, 0, none⟩)) r V T n)
        have g1 := hr3.cell' (OncL_getC (.pointer (some ⟨gi, 0, none⟩)) r V T n)
        have HR3 := Lib.hid hr3
        have HF3 := Lib.hid hf3
        have HW3 := Lib.hid hw3
        clear hr3 hf3 hw3
        have hdn : decide ((n : Int) = (n : Int)) = true := decide_eq_true rfl
        go_upto_region 15 with fail
        rw [← HW3.out]
        go_quiet (first | (go_at_call 18; exact Calls.quiet_of_same ((cum_any gi bi r n _ _ (HI3.out.drewN _)).mono (fun e w' h => ⟨h.1, h.2.symm⟩))))
        go_wp2_with fail
        go_ret
        have h5 := HR3.out
        rw [HNN.out] at h5
        exact ⟨rfl, ⟨V, T, C + 1, ⟨_, H1.out.pop HI2.out HF2.out (h5.drewN nq) (HF3.out.drewN nq)⟩, fun _ _ => rfl⟩, (((HF1.out.nil [go, gi, bi]).trans HF2.out (fun b hb _ => by simp at hb ⊢; rcases hb with rfl | rfl <;> simp)).trans HF3.out (fun b hb _ => by simp at hb; simp [hb])).drewN nq⟩
      | false =>
        go_wp2_with fail
        refine (toss_any gi bi r C f _ H1.out.2.1).mono ?_
        rintro e w2 ⟨hpost, hf2⟩
        rw [HFN.out] at hpost
        obtain ⟨rfl, hi2⟩ : e = .returned (.int .i64 0) ∧ Ibx w2 gi bi r C (upd f ((C + 1 : Nat) : Int) none) := by
          rcases hpost with ⟨_, h1, h2⟩ | ⟨h, _⟩
          · exact ⟨h1, h2⟩
          · cases h
        have HNE := Lib.hid H1.out.ne
        have HR2 : Hid (Row w2 go (OncL (.pointer (some ⟨gi, 0, none⟩)) r V T C) 51) := Lib.hid (H1.out.1.fr hf2 (by simp; exact HNE.out.2))
        have HI2 := Lib.hid hi2
        have HF2 := Lib.hid hf2
        clear hpost hi2 hf2 d0 c0 ct cv
        have ct := HR2.out.cell' (OncL_getT (.pointer (some ⟨gi, 0, none⟩)) r V T C n (by omega))
        have f0 := HR2.out.free (4099 + n)
        obtain ⟨w3, hw3⟩ : ∃ w3, w3 = w2.setCell ⟨go, 4099 + n, none⟩ (.bool false) := ⟨_, rfl⟩
        have hr3 : Row w3 go (OncL (.pointer (some ⟨gi, 0, none⟩)) r V (updN T n false) C) 51 := by
          rw [hw3, ← OncL_setT (.pointer (some ⟨gi, 0, none⟩)) r V T C n (by omega) false]
          exact HR2.out.set (4099 + n) _
        have hf3 : Fr [go] w2 w3 := by rw [hw3]; exact (Fr.refl [go] w2).setCell _ (fun _ => by simp)
        have HI3 : Hid (Ibx w3 gi bi r C (upd f ((C + 1 : Nat) : Int) none)) := Lib.hid (HI2.out.fr hf3 (by simp; exact fun e => HNE.out.1 e.symm) (by simp; exact fun e => HNE.out.2 e.symm))
        have g0 := hr3.cell' (OncL_get0 (.pointer (some ⟨gi, 0, none⟩)) r V (updN T n false) C)
        have g1 := hr3.cell' (OncL_getC (.pointer (some ⟨gi, 0, none⟩)) r V (updN T n false) C)
        have HR3 := Lib.hid hr3
        have HF3 := Lib.hid hf3
        have HW3 := Lib.hid hw3
        clear hr3 hf3 hw3
        go_upto_region 15 with fail
        rw [← HW3.out]
        go_quiet (first | (go_at_call 18; exact Calls.quiet_of_same ((cum_any gi bi r C _ _ (HI3.out.drewN _)).mono (fun e w' h => ⟨h.1, h.2.symm⟩))))
        go_wp2_with fail
        go_ret
        have h5 := HR3.out
        rw [HNN.out] at h5
        exact ⟨rfl, ⟨V, _, C, ⟨_, H1.out.toss HI2.out HF2.out (h5.drewN nq) (HF3.out.drewN nq)⟩, fun _ _ => rfl⟩, (((HF1.out.nil [go, gi, bi]).trans HF2.out (fun b hb _ => by simp at hb; simp [hb])).trans HF3.out (fun b hb _ => by simp at hb; simp [hb])).drewN nq⟩
    | false =>
      rw [hT] at hfn
      simp only [Bool.false_eq_true, if_false] at hfn
      rw [hfn] at he
      simp only [Option.getD_none, Option.isSome_none] at he
      have HFN := Lib.hid hfn
      have HT := Lib.hid hT
      rw [← HNN.out] at hT
      rw [hT] at ct
      clear hfn hT cv
      subst he
      cases pop with
      | true =>
        go_wp2_with fail
        refine (pop_any gi bi r C f _ H1.out.2.1).mono ?_
        rintro e w2 ⟨hpost, hf2⟩
        rw [HFN.out] at hpost
        obtain ⟨rfl, hi2⟩ : e = .returned (.int .i64 94) ∧ Ibx w2 gi bi r C f := by
          rcases hpost with ⟨h, _⟩ | ⟨_, h1, h2⟩
          · cases h
          · exact ⟨h1, h2⟩
        have HNE := Lib.hid H1.out.ne
        have HF2 : Hid (Fr [gi, bi] w1 w2) := Lib.hid (hf2)
        have HR2 : Hid (Row w2 go (OncL (.pointer (some ⟨gi, 0, none⟩)) r V T C) 51) := Lib.hid (H1.out.1.fr HF2.out (by simp; exact HNE.out))
        have HI2 := Lib.hid hi2
        clear hpost hi2 hf2 d0 c0
        have g0 := HR2.out.cell' (OncL_get0 (.pointer (some ⟨gi, 0, none⟩)) r V T C)
        have g1 := HR2.out.cell' (OncL_getC (.pointer (some ⟨gi, 0, none⟩)) r V T C)
        go_upto_region 11 with fail
        go_quiet (first | (go_at_call 18; exact Calls.quiet_of_same ((cum_any gi bi r C _ _ (HI2.out.drewN _)).mono (fun e w' h => ⟨h.1, h.2.symm⟩))))
        go_wp2_with fail
        go_ret
        refine ⟨rfl, ⟨V, T, C, ⟨f, (HR2.out.drewN nq), (HI2.out.drewN nq), H.out.2.2⟩, fun _ h => by rw [HT.out] at h; cases h⟩, (((HF1.out.nil [go, gi, bi]).trans HF2.out (fun b hb _ => by simp at hb ⊢; rcases hb with rfl | rfl <;> simp)).drewN nq)⟩
      | false =>
        go_wp2_with fail
        refine (toss_any gi bi r C f _ H1.out.2.1).mono ?_
        rintro e w2 ⟨hpost, hf2⟩
        rw [HFN.out] at hpost
        obtain ⟨rfl, hi2⟩ : e = .returned (.int .i64 94) ∧ Ibx w2 gi bi r C f := by
          rcases hpost with ⟨h, _⟩ | ⟨_, h1, h2⟩
          · cases h
          · exact ⟨h1, h2⟩
        have HNE := Lib.hid H1.out.ne
        have HF2 : Hid (Fr [gi, bi] w1 w2) := Lib.hid (hf2.mono (fun b hb _ => by simp at hb; simp [hb]))
        have HR2 : Hid (Row w2 go (OncL (.pointer (some ⟨gi, 0, none⟩)) r V T C) 51) := Lib.hid (H1.out.1.fr HF2.out (by simp; exact HNE.out))
        have HI2 := Lib.hid hi2
        clear hpost hi2 hf2 d0 c0
        have g0 := HR2.out.cell' (OncL_get0 (.pointer (some ⟨gi, 0, none⟩)) r V T C)
        have g1 := HR2.out.cell' (OncL_getC (.pointer (some ⟨gi, 0, none⟩)) r V T C)
        go_upto_region 11 with fail
        go_quiet (first | (go_at_call 18; exact Calls.quiet_of_same ((cum_any gi bi r C _ _ (HI2.out.drewN _)).mono (fun e w' h => ⟨h.1, h.2.symm⟩))))
        go_wp2_with fail
        go_ret
        refine ⟨rfl, ⟨V, T, C, ⟨f, (HR2.out.drewN nq), (HI2.out.drewN nq), H.out.2.2⟩, fun _ _ => rfl⟩, (((HF1.out.nil [go, gi, bi]).trans HF2.out (fun b hb _ => by simp at hb ⊢; rcases hb with rfl | rfl <;> simp)).drewN nq)⟩
  · have hC : C = 4096 := by omega
    have hfn : f ((C + 1 : Nat) : Int) = none := by
      cases hh : f ((C + 1 : Nat) : Int) with
      | none => rfl
      | some x =>
        obtain ⟨q, e, _, h3⟩ := H.out.2.2.2.1 ((C + 1 : Nat) : Int) (by rw [hh]; rfl)
        omega
    rw [hfn] at he
    simp only [Option.getD_none, Option.isSome_none] at he
    have HFN := Lib.hid hfn
    have HC := Lib.hid hC
    have hgt : ¬ ((C : Int) + 1 ≤ 4096) := by omega
    clear hfn hC
    subst he
    cases pop with
    | true =>
      go_wp2_with fail
      refine (pop_any gi bi r C f _ H1.out.2.1).mono ?_
      rintro e w2 ⟨hpost, hf2⟩
      rw [HFN.out] at hpost
      obtain ⟨rfl, hi2⟩ : e = .returned (.int .i64 94) ∧ Ibx w2 gi bi r C f := by
        rcases hpost with ⟨h, _⟩ | ⟨_, h1, h2⟩
        · cases h
        · exact ⟨h1, h2⟩
      have HNE := Lib.hid H1.out.ne
      have HF2 : Hid (Fr [gi, bi] w1 w2) := Lib.hid (hf2)
      have HR2 : Hid (Row w2 go (OncL (.pointer (some ⟨gi, 0, none⟩)) r V T C) 51) := Lib.hid (H1.out.1.fr HF2.out (by simp; exact HNE.out))
      have HI2 := Lib.hid hi2
      clear hpost hi2 hf2 d0 c0
      have g0 := HR2.out.cell' (OncL_get0 (.pointer (some ⟨gi, 0, none⟩)) r V T C)
      have g1 := HR2.out.cell' (OncL_getC (.pointer (some ⟨gi, 0, none⟩)) r V T C)
      go_upto_region 11 with fail
      go_quiet (first | (go_at_call 18; exact Calls.quiet_of_same ((cum_any gi bi r C _ _ (HI2.out.drewN _)).mono (fun e w' h => ⟨h.1, h.2.symm⟩))))
      go_wp2_with fail
      go_ret
      refine ⟨rfl, ⟨V, T, C, f, (HR2.out.drewN nq), (HI2.out.drewN nq), H.out.2.2⟩, (((HF1.out.nil [go, gi, bi]).trans HF2.out (fun b hb _ => by simp at hb ⊢; rcases hb with rfl | rfl <;> simp)).drewN nq)⟩
    | false =>
      go_wp2_with fail
      refine (toss_any gi bi r C f _ H1.out.2.1).mono ?_
      rintro e w2 ⟨hpost, hf2⟩
      rw [HFN.out] at hpost
      obtain ⟨rfl, hi2⟩ : e = .returned (.int .i64 94) ∧ Ibx w2 gi bi r C f := by
        rcases hpost with ⟨h, _⟩ | ⟨_, h1, h2⟩
        · cases h
        · exact ⟨h1, h2⟩
      have HNE := Lib.hid H1.out.ne
      have HF2 : Hid (Fr [gi, bi] w1 w2) := Lib.hid (hf2.mono (fun b hb _ => by simp at hb; simp [hb]))
      have HR2 : Hid (Row w2 go (OncL (.pointer (some ⟨gi, 0, none⟩)) r V T C) 51) := Lib.hid (H1.out.1.fr HF2.out (by simp; exact HNE.out))
      have HI2 := Lib.hid hi2
      clear hpost hi2 hf2 d0 c0
      have g0 := HR2.out.cell' (OncL_get0 (.pointer (some ⟨gi, 0, none⟩)) r V T C)
      have g1 := HR2.out.cell' (OncL_getC (.pointer (some ⟨gi, 0, none⟩)) r V T C)
      go_upto_region 11 with fail
      go_quiet (first | (go_at_call 18; exact Calls.quiet_of_same ((cum_any gi bi r C _ _ (HI2.out.drewN _)).mono (fun e w' h => ⟨h.1, h.2.symm⟩))))
      go_wp2_with fail
      go_ret
      refine ⟨rfl, ⟨V, T, C, f, (HR2.out.drewN nq), (HI2.out.drewN nq), H.out.2.2⟩, (((HF1.out.nil [go, gi, bi]).trans HF2.out (fun b hb _ => by simp at hb ⊢; rcases hb with rfl | rfl <;> simp)).drewN nq)⟩
end Go.Proofs.Ytjhemoekmlhlpaa
