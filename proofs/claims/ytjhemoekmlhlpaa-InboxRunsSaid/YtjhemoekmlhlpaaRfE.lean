/- jotterref09.Inbox: Held. -/
import Derived.Test.YtjhemoekmlhlpaaRfD
namespace Go.Proofs.Ytjhemoekmlhlpaa
open Go Go.RowKit
set_option linter.unusedVariables false

set_option maxRecDepth 100000 in
set_option maxHeartbeats 4000000 in
theorem rfHeld_any (base g : Nat) (v : Value) (r c : Nat) (L : List (Int × Int)) (w : World) (h : Rf w base g v r c L) :
    Calls Try.prog 48 #[.pointer (some ⟨g, 0, none⟩)] w fun e w' => ∃ (a : Option Addr) (k : Nat) (A : List Int), e = .returned (.slice a A.length k) ∧ w'.ownsRow w.heap.size 3 1 (.slice a A.length k) A.length (is A) ∧
      A.Pairwise (· < ·) ∧ (∀ j : Int, j ∈ A ↔ (lk L j).isSome = true ∧ (c : Int) < j ∧ j ≤ (c : Int) + r) ∧ Fr [] w w' := by
  have H := Lib.hid h
  have hc := h.2.2.2.2.2.2
  have hr := h.2.2.2.2.2.1
  have hr1 := h.2.2.2.2.1
  have e1 := h.1.cell' (j := 1) rfl
  clear h
  obtain ⟨c1, hc1⟩ : ∃ c1, c1 = c + 1 := ⟨_, rfl⟩
  have hci : (c : Int) + 1 = (c1 : Int) := by omega
  have HC1 := Lib.hid hc1
  have hc1b : c1 ≤ 4097 := by omega
  clear hc1
  go_enter Try.func48, Try.ntmps48
  go_wp2_with fail
  clear hci
  go_loopw [3, 4] (fun lv qv wr => ∃ (q k : Nat) (a : Option Addr) (A : List Int), lv = .slice a A.length k ∧ qv = .int .i64 q ∧ c1 ≤ q ∧ q ≤ 4097 ∧ q ≤ c1 + r ∧ A.length ≤ q ∧ A.length ≤ k ∧ Hid (A.Pairwise (· < ·)) ∧ Hid (∀ j : Int, j ∈ A ↔ (lk L j).isSome = true ∧ (c : Int) < j ∧ j < q) ∧ Hid (wr.ownsRow w.heap.size 3 1 (.slice a A.length k) A.length (is A)) ∧ Hid (Fr [] w wr)) (fun _ qv _ => 4097 - (intOf qv).toNat)
  case atStart => exact ⟨c1, 0, none, [], rfl, rfl, Nat.le_refl _, hc1b, Nat.le_add_right _ _, Nat.zero_le _, Nat.le_refl _, Lib.hid List.Pairwise.nil, Lib.hid (fun j => by have := HC1.out; simp; omega), Lib.hid (World.ownsRow_nil _ _ _ _), Lib.hid (Fr.refl _ _)⟩
  case round =>
    clear e1
    obtain ⟨q, k, a, A, rfl, rfl, hq1, hq2, hq3, hA1, hA2, HP, HM, HO, HF⟩ := hrel
    obtain ⟨m, hm⟩ : ∃ m, m = A.length := ⟨_, rfl⟩
    rw [← hm] at hA1 hA2 HO
    rw [← hm]
    have HML := Lib.hid hm
    clear hm
    have HR := Lib.hid (H.out.fr0 HF.out)
    have e1 := HR.out.1.cell' (j := 1) rfl
    have e0 := HR.out.1.cell' (j := 0) rfl
    have q1 : IntKind.i64.wrap ((c : Int) + (r : Int)) = (c : Int) + (r : Int) := IntWalk.i64_in _ (by omega)
    by_cases hin : q ≤ c + r ∧ q ≤ 4096
    · have d1 : decide ((q : Int) ≤ (c : Int) + (r : Int)) = true := decide_eq_true (by omega)
      have d2 : decide ((q : Int) ≤ 4096) = true := decide_eq_true (by omega)
      have hi1 : q ≤ c + r := hin.1
      have hi2 : q ≤ 4096 := hin.2
      clear hin
      go_wp2_with fail
      go_quiet (fail)
      go_wp2_with fail
      refine (rfFind_any base g v r c L q _ (HR.out.fr0 ((Fr.refl _ _).drewN nq))).mono ?_
      rintro e w5 ⟨⟨kf, rfl, hf⟩, mm, hw5⟩
      have hf5 : Fr [] wr w5 := by rw [hw5]; exact ((Fr.refl _ _).drewN nq).drewN mm
      have HO5 := Lib.hid (owns_fr0 HO.out hf5)
      have HF5 := Lib.hid (HF.out.trans0 hf5)
      clear hw5 hf5 e1 e0 HR
      rcases hf.lk H.out.2.2.1 with ⟨rfl, hlk⟩ | ⟨i, hi, rfl, hx, hlk⟩
      · have HK := Lib.hid hlk
        clear hlk hf
        go_wp2_with fail
        go_roundw
        case rel => exact ⟨q + 1, k, a, A, by rw [HML.out], by go_num, by omega, by omega, by have := HC1.out; omega, by have := HML.out; omega, by have := HML.out; omega, HP, Lib.hid (fun j => by
          rw [HM.out]
          constructor
          · rintro ⟨h1, h2, h3⟩
            exact ⟨h1, h2, by omega⟩
          · rintro ⟨h1, h2, h3⟩
            refine ⟨h1, h2, ?_⟩
            have : j ≠ (q : Int) := by rintro rfl; rw [HK.out] at h1; cases h1
            omega), Lib.hid (by rw [← HML.out]; exact HO5.out), HF5⟩
        case measure => simp [intOf]; omega
      · have HK := Lib.hid hlk
        have hki : ¬ (i : Int) < 0 := by omega
        clear hlk hf hx
        go_wp2_with (at_builtin; refine wpList_append_at rfl (.tmp 31) (.tmp 33) 23 rfl w.heap.size 3 (.int .i64 0) 1 8 Try.underlying23 infoI rfl (by decide) (.slice a m k) m (is A) rfl (owns_fr0 HO5.out ((Fr.refl _ _).alloc _)) ⟨w5.heap.size, 0, none⟩ 1 1 [.int .i64 (q : Int)] rfl rfl (lit1 _ _ _) (by intro u hu; simp at hu; subst hu; rfl) (by unfold maxLen; omega) (by omega) (by have := HF5.out.size; simp; omega) ?_; intro v' w9 ho9 hf9 hat9; obtain ⟨ag9, cg9, rfl, hcg9, hcg92, _, _⟩ := owns_slice ho9; have HO9 := Lib.hid ho9; have HF9 := Lib.hid hf9; clear ho9 hf9 hat9)
        have hll : (A ++ [(q : Int)]).length = m + 1 := by rw [List.length_append, ← HML.out]; rfl
        refine ⟨⟨q + 1, cg9, ag9, A ++ [(q : Int)], by rw [hll], by go_num, by omega, by omega, by have := HC1.out; omega, by omega, by omega, Lib.hid (List.pairwise_append.2 ⟨HP.out, by simp, fun x hx y hy => by simp at hy; subst hy; exact ((HM.out x).1 hx).2.2⟩), Lib.hid (fun j => ?_), Lib.hid (by rw [hll, is_append]; exact HO9.out), Lib.hid ((HF5.out.alloc _).own (Nat.le_refl _) (owns_fr0 HO5.out ((Fr.refl _ _).alloc (.cells #[.int .i64 (q : Int)] 3))) HF9.out)⟩, by simp [intOf]; omega⟩
        rw [List.mem_append, HM.out, List.mem_singleton]
        constructor
        · rintro (⟨h1, h2, h3⟩ | rfl)
          · exact ⟨h1, h2, by omega⟩
          · exact ⟨by rw [HK.out]; rfl, by have := HC1.out; omega, by omega⟩
        · rintro ⟨h1, h2, h3⟩
          by_cases e : j = (q : Int)
          · exact .inr e
          · exact .inl ⟨h1, h2, by omega⟩
    · have HFIN : Hid (∀ j : Int, j ∈ A ↔ (lk L j).isSome = true ∧ (c : Int) < j ∧ j ≤ (c : Int) + r) := Lib.hid (fun j => by
        rw [HM.out]
        have h5 := HC1.out
        constructor
        · rintro ⟨h1, h2, h3⟩
          exact ⟨h1, h2, by omega⟩
        · rintro ⟨h1, h2, h3⟩
          obtain ⟨x, hx⟩ := Option.isSome_iff_exists.1 h1
          have h6 := (H.out.2.2.2.1 _ (lk_mem hx)).2
          simp at h6
          exact ⟨h1, h2, by omega⟩)
      by_cases h1 : q ≤ c + r
      · have d1 : decide ((q : Int) ≤ (c : Int) + (r : Int)) = true := decide_eq_true (by omega)
        have d2 : decide ((q : Int) ≤ 4096) = false := decide_eq_false (by omega)
        clear hin
        go_wp2_with fail
        go_quiet (fail)
        go_wp2_with fail
        go_ret
        exact ⟨a, k, A, by rw [← HML.out]; rfl, by rw [← HML.out]; exact owns_fr0 HO.out ((Fr.refl _ _).drewN nq), HP.out, HFIN.out, HF.out.drewN nq⟩
      · have d1 : decide ((q : Int) ≤ (c : Int) + (r : Int)) = false := decide_eq_false (by omega)
        clear hin
        go_wp2_with fail
        go_quiet (fail)
        go_wp2_with fail
        go_ret
        exact ⟨a, k, A, by rw [← HML.out]; rfl, by rw [← HML.out]; exact owns_fr0 HO.out ((Fr.refl _ _).drewN nq), HP.out, HFIN.out, HF.out.drewN nq⟩
end Go.Proofs.Ytjhemoekmlhlpaa
