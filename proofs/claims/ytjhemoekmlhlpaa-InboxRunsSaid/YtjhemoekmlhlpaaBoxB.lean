/- The contract of Box.keep. -/
import Derived.Test.YtjhemoekmlhlpaaBoxA
namespace Go.Proofs.Ytjhemoekmlhlpaa
open Go Go.RowKit
set_option linter.unusedVariables false

theorem Lists.slice {w : World} {base : Nat} {v : Value} {xs : List Value} {ls : List (List Int)} (h : Lists w base v xs ls) : ∃ a c, v = .slice a ls.length c := by
  obtain ⟨a, c, hv, _⟩ := owns_slice h.1
  exact ⟨a, c, hv⟩
theorem Lists.add {w' : World} {base n : Nat} {v' x : Value} {xs : List Value} {ls : List (List Int)} {l : List Int} (hxs : w'.ownsRow base 23 1 v' (n + 1) (xs ++ [x])) (hn : n = ls.length) (h2 : ∀ i (h : i < ls.length), ∃ x, xs[i]? = some x ∧ SlotAt w' x ls[i]) (hl : xs.length = ls.length) (hx : SlotAt w' x l) :
    Lists w' base v' (xs ++ [x]) (ls ++ [l]) := by
  refine ⟨by rw [List.length_append, ← hn]; exact hxs, fun i hi => ?_⟩
  by_cases e : i < ls.length
  · obtain ⟨y, hy, hs⟩ := h2 i e
    refine ⟨y, by rw [List.getElem?_append_left (by omega)]; exact hy, ?_⟩
    rw [List.getElem_append_left e]
    exact hs
  · have hi' : i = ls.length := by simp at hi; omega
    subst hi'
    refine ⟨x, by rw [List.getElem?_append_right (by omega), hl]; simp, ?_⟩
    simpa using hx
set_option maxRecDepth 100000 in
set_option maxHeartbeats 4000000 in
theorem keep_any (base X : Nat) (h0 h1 h2 h3 vL vW x : Value) (xs ys : List Value) (ls : List (List Int)) (l : List Int) (w : World) (h : BoxL w base X h0 h1 h2 h3 vL vW xs ys ls) (hx : SlotAt w x l) (hb : base ≤ w.heap.size) (hn : ls.length ≤ 60) :
    Calls Try.prog 66 #[.pointer (some ⟨X, 0, none⟩), x] w fun e w' => e = .returned (.tuple #[]) ∧ (∃ vL' vW' y, BoxL w' base X h0 h1 h2 h3 vL' vW' (xs ++ [x]) (ys ++ [y]) (ls ++ [l]) ∧ ∀ b, y.ownBlock = some b → w.heap.size ≤ b) ∧ Fr (BoxL.S X vL vW) w w' := by
  have H := Lib.hid h; have HX := Lib.hid hx; have HB := Lib.hid hb
  obtain ⟨hox, hxs⟩ := h.2.1
  obtain ⟨hoy, hys⟩ := h.2.2.1
  have HOX := Lib.hid hox; have HOY := Lib.hid hoy; have HXS := Lib.hid hxs; have HYS := Lib.hid hys
  obtain ⟨aL, cL, rfl⟩ := h.2.1.slice
  obtain ⟨aW, cW, rfl⟩ := h.2.2.1.slice
  obtain ⟨n, hnn⟩ : ∃ n, n = ls.length := ⟨_, rfl⟩
  rw [← hnn] at hn
  have c4 := h.1.cell' (j := 4) rfl
  have c5 := h.1.cell' (j := 5) rfl
  have HN := Lib.hid hnn
  rw [← hnn] at c4 c5
  clear h hx hb hox hxs hoy hys hnn
  obtain ⟨ax, cx, rfl, hsrc⟩ := HX.out.src
  have HSRC := Lib.hid hsrc
  clear hsrc
  obtain ⟨m, hm⟩ : ∃ m, m = l.length := ⟨_, rfl⟩
  rw [← hm]
  have hm2 : m ≤ 5000 := by rw [hm]; exact HX.out.1
  have HM := Lib.hid hm
  clear hm
  have HXN : Hid (∀ y, (Value.slice aL n cL).ownBlock = some y → X ≠ y) := Lib.hid (by rw [HN.out]; exact H.out.1.neOwn HOX.out (by decide))
  have HYN : Hid (∀ y, (Value.slice aW n cW).ownBlock = some y → X ≠ y) := Lib.hid (by rw [HN.out]; exact H.out.1.neOwn HOY.out (by decide))
  have HOX2 : Hid (w.ownsRow base 23 1 (.slice aL n cL) n xs) := Lib.hid (by rw [HN.out]; exact HOX.out)
  have HOY2 : Hid (w.ownsRow base 23 1 (.slice aW n cW) n ys) := Lib.hid (by rw [HN.out]; exact HOY.out)
  go_enter Try.func66, Try.ntmps66
  go_wp2_with (at_builtin; refine wpList_append_src rfl (.tmp 8) (.tmp 10) 72 rfl base 23 (.slice none 0 0) 1 24 Try.underlying72 infoS rfl (by decide) (.slice aL n cL) n xs rfl (owns_fr0 HOX2.out ((Fr.refl _ _).alloc _)) (some ⟨w.heap.size, 0, none⟩) 1 1 [.slice ax m cx] rfl rfl (.inr ⟨_, rfl, lit1 _ _ _⟩) (by intro u hu; simp at hu; subst hu; rfl) (by unfold maxLen; omega) (by omega) (by have := HB.out; simp; omega) ?_; intro v' w3 ho3 hf3 hat; have hr3 := (H.out.1.alloc _).fr hf3 (by intro hm; cases hob : (Value.slice aL n cL).ownBlock with | none => rw [hob] at hm; simp at hm | some y => rw [hob] at hm; simp at hm; exact HXN.out y hob hm); obtain ⟨a2, c2, rfl, _, _, _, _⟩ := owns_slice ho3; have HO3 := Lib.hid ho3; have HF3 := Lib.hid hf3; have HAT := Lib.hid hat; have HR3 := Lib.hid hr3; have d4 := hr3.cell' (j := 4) rfl; have f4 := hr3.free 4; clear ho3 hf3 hat hr3)
  obtain ⟨w4, hw4⟩ : ∃ w4, w4 = w3.setCell ⟨X, 4, none⟩ (.slice a2 (n + 1) c2) := ⟨_, rfl⟩
  have hf4' : Fr [X] w3 w4 := by rw [hw4]; exact (Fr.refl [X] w3).setCell (a := ⟨X, 4, none⟩) _ (fun _ => by simp)
  have hr4 : Row w4 X [h0, h1, h2, h3, .slice a2 (n + 1) c2, .slice aW n cW] 74 := by rw [hw4, HN.out]; have := HR3.out.set 4 (.slice a2 (ls.length + 1) c2); exact this
  have hf4 : Fr (X :: (Value.slice aL n cL).ownBlock.toList) w w4 := ((((Fr.refl [] w).alloc _).nil _).trans HF3.out (fun b hb _ => by simp at hb ⊢; exact .inr hb)).trans hf4' (fun b hb _ => by simp at hb ⊢; exact .inl hb)
  have hne3 := HR3.out.neOwn HO3.out (by decide)
  have hol4 : w4.ownsRow base 23 1 (.slice a2 (n + 1) c2) (n + 1) (xs ++ [.slice ax m cx]) := owns_fr HO3.out hf4' (fun y hy hm => by simp at hm; exact hne3 y hy hm.symm)
  have how4 : w4.ownsRow base 23 1 (.slice aW n cW) n ys := owns_fr HOY2.out hf4 (fun y hy hm => by
    simp at hm
    rcases hm with rfl | hm
    · exact HYN.out _ hy rfl
    · have h5 := H.out.2.2.2 y (by rw [← HN.out]; exact hm)
      exact h5 (by rw [← HN.out]; exact hy))
  have hk4 : NoKd w (X :: (Value.slice aL n cL).ownBlock.toList) (3 + 1) := fun y hy => by
    rcases List.mem_cons.1 hy with rfl | hy
    · rw [H.out.1.kd]; decide
    · rw [own_kd HOX2.out y (by simpa using hy)]; decide
  have hx4 := HX.out.fr hf4 hk4
  have hat4 : ∀ y, (Value.slice a2 (n + 1) c2).ownBlock = some y → (Value.slice aW n cW).ownBlock ≠ some y := fun y hy hz => by
    rcases HAT.out with e | e
    · rw [hy] at e
      exact H.out.2.2.2 y (by rw [← HN.out]; exact e.symm) (by rw [← HN.out]; exact hz)
    · rw [hy] at e
      obtain rfl := Option.some.inj e
      have := HOY2.out.lt _ hz
      rw [World.size_alloc] at this
      omega
  rw [← hw4]
  have HR4 := Lib.hid hr4; have HOL4 := Lib.hid hol4; have HOW4 := Lib.hid how4; have HF4 := Lib.hid hf4; have HK4 := Lib.hid hk4; have HX4 := Lib.hid hx4; have HNE4 := Lib.hid hat4
  have HB4 : Hid (base ≤ w4.heap.size) := Lib.hid (Nat.le_trans HB.out hf4.size)
  clear hw4 hf4' hr4 hf4 hne3 hol4 how4 hk4 hx4 hat4 HO3 HF3 HAT HR3 d4 f4 c4 c5
  obtain ⟨ax', cx', hxe, hsrc4⟩ := HX4.out.src
  rw [← HM.out] at hxe hsrc4
  obtain ⟨rfl, -, rfl⟩ : ax = ax' ∧ m = m ∧ cx = cx' := by simpa using hxe
  clear hxe
  have HS4 := Lib.hid hsrc4
  clear hsrc4
  have c5 := HR4.out.cell' (j := 5) rfl
  have f5 := HR4.out.free 5
  have HXN4 : Hid (X ∉ (Value.slice aW n cW).ownBlock.toList) := Lib.hid (fun hm => by
    cases hob : (Value.slice aW n cW).ownBlock with
    | none => rw [hob] at hm; simp at hm
    | some y => rw [hob] at hm; simp at hm; exact HYN.out y hob hm)
  have c5' := ((Fr.refl [] w4).alloc (.cells #[] 3)).cell c5 (by simp)
  go_region_law (first
    | (refine step_append_src rfl (.tmp 19) (.tmp 20) 23 rfl _ 3 (.int .i64 0) 1 8 Try.underlying23 infoI rfl (by decide) (.slice (some ⟨w4.heap.size, 0, none⟩) 0 0) 0 [] rfl (owns_row (Row.new w4.drew [] 3) (Nat.le_refl _) (by decide)) ax m cx (is l) rfl (by rw [is_length, ← HM.out]; omega) (HS4.out.fr0 ((Fr.refl [] w4).drew.alloc _)) (is_one _) (by unfold maxLen; omega) (by omega) (by simp) ?_; intro v5 w5 ho5 hf5 hat5; obtain ⟨a5, cc5, rfl, _, _, ha5, _⟩ := owns_slice ho5; have HA5 := Lib.hid ha5; clear ha5; rw [Nat.zero_add] at ho5 ⊢; have HO5 := Lib.hid ho5; have HF5 : Hid (Fr [] w4 w5) := Lib.hid (((Fr.refl [] w4).drew.alloc _).trans hf5 (fun b hb hlt => by simp [Value.ownBlock] at hb; omega)); have q5 : w5.cell? ⟨X, 5, none⟩ = some (.slice aW n cW) := HF5.out.cell c5 (by simp); have q5' := ((Fr.refl [] w5).alloc (.cells #[.slice a5 m cc5] 23)).cell q5 (by simp); clear ho5 hf5 hat5)
    | (refine step_append_src rfl (.tmp 18) (.tmp 22) 72 rfl base 23 (.slice none 0 0) 1 24 Try.underlying72 infoS rfl (by decide) (.slice aW n cW) n ys rfl (owns_fr0 (owns_fr0 HOW4.out HF5.out) ((Fr.refl [] w5).alloc _)) (some ⟨w5.heap.size, 0, none⟩) 1 1 [.slice a5 m cc5] rfl rfl (.inr ⟨_, rfl, lit1 _ _ _⟩) (by intro u hu; simp at hu; subst hu; rfl) (by unfold maxLen; omega) (by omega) (by have := HB4.out; have := HF5.out.size; simp; omega) ?_; intro v6 w6 ho6 hf6 hat6; obtain ⟨a6, c6, rfl, _, _, _, _⟩ := owns_slice ho6; have HR6 := Lib.hid (((HR4.out.fr HF5.out (by simp)).alloc _).fr hf6 HXN4.out); have r5 := HR6.out.cell' (j := 5) rfl; have f6 := HR6.out.free 5; have HO6 := Lib.hid ho6; have HF6 := Lib.hid hf6; have HAT6 := Lib.hid hat6; clear ho6 hf6 hat6))
  all_goals
    go_wp2_with fail
    first | go_end0 | go_ret
    refine ⟨rfl, ?_⟩
    have hf47 : Fr (X :: (Value.slice aW n cW).ownBlock.toList) w4 (w6.setCell ⟨X, 5, none⟩ (.slice a6 (n + 1) c6)) := (((HF5.out.alloc _).nil _).trans HF6.out (fun b hb _ => List.mem_cons_of_mem _ hb)).setCell (a := ⟨X, 5, none⟩) _ (fun _ => by simp)
    have hk47 : NoKd w4 (X :: (Value.slice aW n cW).ownBlock.toList) (3 + 1) := fun y hy => by
      rcases List.mem_cons.1 hy with rfl | hy
      · rw [HR4.out.kd]; decide
      · rw [own_kd HOW4.out y (by simpa using hy)]; decide
    have hf57 : Fr (X :: (Value.slice aW n cW).ownBlock.toList) w5 (w6.setCell ⟨X, 5, none⟩ (.slice a6 (n + 1) c6)) := ((((Fr.refl [] w5).alloc _).nil _).trans HF6.out (fun b hb _ => List.mem_cons_of_mem _ hb)).setCell (a := ⟨X, 5, none⟩) _ (fun _ => by simp)
    have hk57 : NoKd w5 (X :: (Value.slice aW n cW).ownBlock.toList) (3 + 1) := fun y hy => by
      rcases List.mem_cons.1 hy with rfl | hy
      · rw [(HR4.out.fr HF5.out (by simp)).kd]; decide
      · rw [own_kd (owns_fr0 HOW4.out HF5.out) y (by simpa using hy)]; decide
    have hfT : Fr (BoxL.S X (Value.slice aL ls.length cL) (Value.slice aW ls.length cW)) w (w6.setCell ⟨X, 5, none⟩ (.slice a6 (n + 1) c6)) := (HF4.out.mono (T := BoxL.S X (Value.slice aL ls.length cL) (Value.slice aW ls.length cW)) (fun b hb _ => by
        unfold BoxL.S; rw [← HN.out]; rcases List.mem_cons.1 hb with rfl | hb
        · simp
        · exact List.mem_cons_of_mem _ (List.mem_append_left _ hb))).trans hf47 (fun b hb _ => by
        unfold BoxL.S; rw [← HN.out]; rcases List.mem_cons.1 hb with rfl | hb
        · simp
        · exact List.mem_cons_of_mem _ (List.mem_append_right _ (List.mem_append_left _ hb)))
    have hkT : NoKd w (BoxL.S X (Value.slice aL ls.length cL) (Value.slice aW ls.length cW)) (3 + 1) := H.out.noKd _ (by decide) (by decide)
    have hxl : xs.length = ls.length := by have := HOX.out.1; omega
    have hyl : ys.length = ls.length := by have := HOY.out.1; omega
    have hl5 : w5.ownsRow w4.drew.heap.size 3 1 (.slice a5 m cc5) m (is l) := HO5.out
    refine ⟨⟨.slice a2 (n + 1) c2, .slice a6 (n + 1) c6, .slice a5 m cc5, ⟨HR6.out.set 5 _, ?_, ?_, ?_⟩, fun b hb => ?_⟩, hfT⟩
    · refine Lists.add (owns_fr HOL4.out hf47 (fun y hy hm => ?_)) HN.out (fun i hi => ?_) hxl (by have h := HX4.out.fr hf47 hk47; rw [← HM.out] at h; exact h)
      · rcases List.mem_cons.1 hm with rfl | hm
        · exact HR4.out.neOwn HOL4.out (by decide) _ hy rfl
        · exact HNE4.out y hy (by simpa using hm)
      · obtain ⟨x, hx, hs⟩ := HXS.out i hi
        exact ⟨x, hx, hs.fr hfT hkT⟩
    · have hne6 := HR6.out.neOwn HO6.out (by decide)
      refine Lists.add (owns_fr HO6.out ((Fr.refl [X] w6).setCell (a := ⟨X, 5, none⟩) _ (fun _ => by simp)) (fun y hy hm => by simp at hm; exact hne6 y hy hm.symm)) HN.out (fun i hi => ?_) hyl ?_
      · obtain ⟨x, hx, hs⟩ := HYS.out i hi
        exact ⟨x, hx, hs.fr hfT hkT⟩
      · exact (SlotAt.own hl5 (by rw [← HM.out]; exact hm2)).fr hf57 hk57
    · intro y hy hz
      rcases HAT6.out with e | e
      · exact HNE4.out y hy (by rw [← e]; exact hz)
      · rw [hz] at e
        obtain rfl := Option.some.inj e
        have h1 := HOL4.out.lt _ hy
        have h2 := HF5.out.size
        rw [World.size_alloc] at h1
        omega
    · cases a5 with
      | none => cases hb
      | some A =>
        obtain rfl := Option.some.inj hb
        exact Nat.le_trans HF4.out.size (HA5.out A rfl).1
end Go.Proofs.Ytjhemoekmlhlpaa
