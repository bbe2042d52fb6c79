/- inbox.Inbox[int].Run's iterator: what it does, whatever is done at each thing that it hands out. -/
import Derived.Test.YtjhemoekmlhlpaaBoxT
import Derived.RangeFuncWrites
namespace Go.Proofs.Ytjhemoekmlhlpaa
open Go Go.RowKit Go.Maps Go.Sort Go.Shelf
set_option linter.unusedVariables false

theorem exists_least {p : Nat → Prop} (h : ∃ n, p n) : ∃ n, p n ∧ ∀ m, p m → n ≤ m := by
  obtain ⟨n, hn⟩ := h
  induction n using Nat.strongRecOn with
  | _ n ih =>
    by_cases hlt : ∃ m, m < n ∧ p m
    · obtain ⟨m, hm, hp⟩ := hlt
      exact ih m hm hp
    · exact ⟨n, hn, fun m hm => Nat.le_of_not_lt fun h => hlt ⟨m, h, hm⟩⟩
open Classical in
/-- the least number at which J holds of a world -/
noncomputable def least (J : Nat → World → Prop) (w : World) : Nat := if h : ∃ m, J m w then Classical.choose (exists_least h) else 0
theorem least_le {J : Nat → World → Prop} {w : World} {m : Nat} (h : J m w) : least J w ≤ m := by
  unfold least
  rw [dif_pos ⟨m, h⟩]
  exact (Classical.choose_spec (exists_least (p := fun m => J m w) ⟨m, h⟩)).2 m h
theorem least_at {J : Nat → World → Prop} {w : World} {m : Nat} (h : J m w) : J (least J w) w := by
  unfold least
  rw [dif_pos ⟨m, h⟩]
  exact (Classical.choose_spec (exists_least (p := fun m => J m w) ⟨m, h⟩)).1
set_option maxRecDepth 100000 in
set_option maxHeartbeats 4000000 in
theorem run1_in (l B g bA r : Nat) (J : Nat → World → Prop) (Jx : World → Prop) (hJf : ∀ m W W', J m W → Fr [] W W' → J m W')
    (hJi : ∀ m W, J m W → ∃ c f, Ibx W g bA r c f ∧ W.cell? ⟨B, 0, none⟩ = some (ptr g) ∧ B ≠ g)
    (hY : ∀ m W c f v, J m W → Ibx W g bA r c f → f ((c + 1 : Nat) : Int) = some v → ∀ W', Fr [g, bA] W W' → Ibx W' g bA r (c + 1) (upd f ((c + 1 : Nat) : Int) none) →
      YieldAt Fence.wide 4 Try.prog l #[.int .i64 ((c + 1 : Nat) : Int), .int .i64 v] W' fun e W'' => (e = .returned (.bool true) ∧ ∃ m', m' < m ∧ J m' W'') ∨ (e = .returned (.bool false) ∧ Jx W''))
    (m0 : Nat) (w : World) (h0 : J m0 w) :
    CallsIn Fence.wide 5 Try.prog 50 #[.func (.yield l) #[] #[], .pointer (some ⟨B, 0, none⟩)] w fun e W' => (∃ v, e = .returned v) ∧ ((∃ m c f, J m W' ∧ Ibx W' g bA r c f ∧ f ((c + 1 : Nat) : Int) = none) ∨ Jx W') := by
  have HJF := Lib.hid hJf; have HJI := Lib.hid hJi; have HY := Lib.hid hY; have H0 := Lib.hid h0
  clear hJf hJi hY h0
  have hf1 : Fence.wide.fn 16 := trivial
  have hf2 : Fence.wide.fn 17 := trivial
  refine callsIn_of_wp Try.func50 rfl trivial ?_ rfl
  simp only [Try.ntmps50, List.size_toArray, List.length_cons, List.length_nil, Nat.reduceAdd, Nat.reduceSub, Array.replicate_succ, Array.replicate_zero, List.push_toArray, List.append_toArray, List.nil_append, List.cons_append]
  gi_wp2_with fail
  gi_loopw [3] (fun _ wr => Hid (∃ m, J m wr)) (fun _ wr => least J wr)
  case atStart => exact Lib.hid ⟨m0, H0.out⟩
  case round =>
    obtain ⟨m1, hm1⟩ := hrel
    obtain ⟨m, hm⟩ : ∃ m, m = least J wr := ⟨_, rfl⟩
    have hJ : J m wr := by rw [hm]; exact least_at hm1
    obtain ⟨c, f, hi, hB, hBg⟩ := HJI.out m wr hJ
    have HM := Lib.hid hm; have HJ := Lib.hid hJ; have HI := Lib.hid hi
    clear hm hJ hi hm1
    obtain ⟨ok, hok⟩ : ∃ ok, ok = (f ((c + 1 : Nat) : Int)).isSome := ⟨_, rfl⟩
    obtain ⟨v, hv⟩ : ∃ v, v = (f ((c + 1 : Nat) : Int)).getD 0 := ⟨_, rfl⟩
    have PH : Hid (CallsIn Fence.wide 4 Try.prog 16 #[ptr g] wr fun e w' => e = .returned (.tuple #[.int .i64 v, .bool ok]) ∧ ∃ n, w' = wr.drewN n) := Lib.hid (callsIn_wide.2 (by
      have := head_any g bA r c f wr HI.out
      rwa [← hok, ← hv] at this))
    have HOK := Lib.hid hok; have HV := Lib.hid hv
    clear hok hv
    have hki : (c : Int) + 1 = ((c + 1 : Nat) : Int) := by omega
    have hc := HI.out.2.2.2.2
    obtain ⟨k, hk⟩ : ∃ k, k = c + 1 := ⟨_, rfl⟩
    rw [← hk] at hki
    have q1 : IntKind.i64.wrap (k : Int) = (k : Int) := IntWalk.i64_in _ (by omega)
    have HK := Lib.hid hk
    clear hk hc
    cases ok with
    | false =>
      gi_wp2_with (gi_at_call 16; refine PH.out.mono ?_; rintro e w' ⟨rfl, nd, hw'⟩; have HW' := Lib.hid hw'; clear hw')
      first | go_end0 | go_ret | (refine bodyPost_ret (results_none rfl _ _ _) rfl ?_)
      have hfr : Fr [] wr w' := by rw [HW'.out]; exact (Fr.refl _ _).drewN _
      refine ⟨⟨_, rfl⟩, .inl ⟨m, c, f, HJF.out m wr _ HJ.out hfr, HI.out.fr0 hfr, ?_⟩⟩
      have := HOK.out
      cases hh : f ((c + 1 : Nat) : Int) with
      | none => rfl
      | some x => rw [hh] at this; cases this
    | true =>
      have HSOME : Hid (f ((c + 1 : Nat) : Int) = some v) := Lib.hid (by
        have h1 := HOK.out
        have h2 := HV.out
        cases hh : f ((c + 1 : Nat) : Int) with
        | none => rw [hh] at h1; cases h1
        | some x => rw [hh] at h2; rw [h2]; rfl)
      gi_wp2_with (gi_at_call 16; refine PH.out.mono ?_; rintro e w2 ⟨rfl, nd, hw2⟩; have hf2 : Fr [] wr w2 := (by rw [hw2]; exact (Fr.refl _ _).drewN _); have HF2 := Lib.hid hf2; have d0 := hf2.cell hB (by simp); have hi2 := HI.out.fr0 hf2; have d1 := hi2.1.cell' (j := 1) rfl; have HI2 := Lib.hid hi2; have PP : Hid (CallsIn Fence.wide 4 Try.prog 17 #[ptr g] w2 fun e w' => PopPost (f ((c + 1 : Nat) : Int)).isSome e w' g bA r c (c + 1) f (upd f ((c + 1 : Nat) : Int) none) ∧ Fr [g, bA] w2 w') := Lib.hid (callsIn_wide.2 (pop_any g bA r c f w2 hi2)); clear hw2 hf2 hi2)
      refine PP.out.mono ?_
      rintro e w3 ⟨⟨_, rfl, hi3⟩ | ⟨hno, _, _⟩, hf3⟩
      · obtain ⟨fn, tmps, assign, body, hy, hR⟩ := HY.out m wr c f v HJ.out HI.out HSOME.out w3 ((HF2.out.nil _).trans1 hf3) hi3
        rw [← HK.out] at hy
        have HR := Lib.hid hR
        clear hR hi3 hf3 d0 d1
        gi_wp2_with fail
        refine HR.out.mono ?_
        rintro e w4 (⟨rfl, m', hm', hj'⟩ | ⟨rfl, hx⟩)
        · have HM' := Lib.hid hm'; have HJ' := Lib.hid hj'
          clear hm' hj' hy
          gi_wp2_with fail
          go_roundw
          case rel => exact Lib.hid ⟨m', HJ'.out⟩
          case measure => exact Nat.lt_of_le_of_lt (least_le HJ'.out) (by rw [← HM.out]; exact HM'.out)
        · have HX := Lib.hid hx
          clear hx hy
          gi_wp2_with fail
          first | go_end0 | (refine bodyPost_ret (results_none rfl _ _ _) rfl ?_)
          exact ⟨⟨_, rfl⟩, .inr HX.out⟩
      · rw [← HOK.out] at hno; cases hno
end Go.Proofs.Ytjhemoekmlhlpaa
