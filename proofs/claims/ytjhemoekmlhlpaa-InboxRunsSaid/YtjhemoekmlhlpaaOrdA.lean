/- Plain facts of jotterlaw09.InboxOrder: rising lists, the array of what was seen, the numbers that are held; and the fixed run. -/
import Derived.Test.YtjhemoekmlhlpaaHeld
import Derived.Test.YtjhemoekmlhlpaaLinkB
namespace Go.Proofs.Ytjhemoekmlhlpaa
open Go Go.RowKit
set_option linter.unusedVariables false

theorem rising_nodup {A : List Int} (h : A.Pairwise (· < ·)) : A.Nodup := h.imp (fun {a b} h e => by omega)
theorem rising_eq {A B : List Int} (hA : A.Pairwise (· < ·)) (hB : B.Pairwise (· < ·)) (h : ∀ k, k ∈ A ↔ k ∈ B) : A = B :=
  List.Perm.eq_of_pairwise (le := fun a b => a < b) (fun a b _ _ h1 h2 => by omega) hA hB ((List.perm_ext_iff_of_nodup (rising_nodup hA) (rising_nodup hB)).2 h)
theorem rising_length {A L : List Int} (hA : A.Pairwise (· < ·)) (hL : L.Nodup) (h : ∀ k, k ∈ A ↔ k ∈ L) : A.length = L.length :=
  ((List.perm_ext_iff_of_nodup (rising_nodup hA) hL).2 h).length_eq
/-- k of A lie below n -/
def Below' (A : List Int) (k n : Nat) : Prop := k ≤ A.length ∧ (∀ j (h : j < A.length), j < k → A[j] < (n : Int)) ∧ (∀ j (h : j < A.length), k ≤ j → (n : Int) ≤ A[j])
theorem Below'.there {A : List Int} {k n : Nat} (hA : A.Pairwise (· < ·)) (h : Below' A k n) (hn : (n : Int) ∈ A) : ∃ hk : k < A.length, A[k] = (n : Int) ∧ Below' A (k + 1) (n + 1) := by
  obtain ⟨h1, h2, h3⟩ := h
  obtain ⟨j, hj, he⟩ := List.getElem_of_mem hn
  have hkj : k ≤ j := by
    rcases Nat.lt_or_ge j k with hlt | hge
    · have := h2 j hj hlt
      omega
    · exact hge
  have hk : k < A.length := by omega
  have hjk : j = k := by
    rcases Nat.lt_or_ge k j with hlt | hge
    · have h4 := List.pairwise_iff_getElem.1 hA k j hk hj hlt
      have h5 := h3 k hk (Nat.le_refl _)
      omega
    · omega
  subst hjk
  refine ⟨hk, he, by omega, fun i hi hik => ?_, fun i hi hik => ?_⟩
  · rcases Nat.lt_or_ge i j with hlt | hge
    · have := h2 i hi hlt
      omega
    · obtain rfl : i = j := by omega
      omega
  · have := List.pairwise_iff_getElem.1 hA j i hk hi (by omega)
    omega
theorem Below'.not {A : List Int} {k n : Nat} (h : Below' A k n) (hn : ¬ (n : Int) ∈ A) : Below' A k (n + 1) := by
  obtain ⟨h1, h2, h3⟩ := h
  refine ⟨h1, fun j hj hjk => by have := h2 j hj hjk; omega, fun j hj hjk => ?_⟩
  have h4 := h3 j hj hjk
  have h5 : A[j] ≠ (n : Int) := fun e => hn (e ▸ List.getElem_mem hj)
  omega
/-- the array 'seen' -/
def SeenR (L : List Int) : List Value := (List.range 21).map (fun n : Nat => .bool (decide ((n : Int) ∈ L)))
theorem SeenR_get (L : List Int) (n : Nat) (hn : n < 21) : (SeenR L)[n]? = some (.bool (decide ((n : Int) ∈ L))) := by simp [SeenR, hn]
theorem SeenR_set (L : List Int) (n : Nat) : (SeenR L).set n (.bool true) = SeenR (L ++ [(n : Int)]) := by
  apply List.ext_getElem
  · simp [SeenR]
  · intro i h1 h2
    simp only [SeenR, List.getElem_set, List.getElem_map, List.getElem_range]
    split
    · rename_i e
      subst e
      simp
    · rename_i e
      congr 1
      have : ¬ ((i : Int) = (n : Int)) := by omega
      simp [this]
theorem SeenR_nil : SeenR [] = List.replicate 21 (.bool false) := rfl
/-- what is held: the numbers of L that lie above cum -/
def fs (L : List Int) (cum : Nat) : Int → Option Int := fun j => if j ∈ L ∧ (cum : Int) < j then some (100 + j) else none
theorem fs_congr {L M : List Int} {c : Nat} (h : ∀ j, (c : Int) < j → (j ∈ L ↔ j ∈ M)) : fs L c = fs M c := by
  funext j
  unfold fs
  by_cases hc : (c : Int) < j
  · simp [hc, h j hc]
  · simp [hc]
theorem fs_put {S : List Int} {q : Int} (h1 : 1 ≤ q) (h2 : q ≤ 20) (hn : q ∉ S) : putCode 20 0 (fs S 0) q = 0 ∧ putF 20 0 (fs S 0) q (100 + q) = fs (q :: S) 0 := by
  have hc : putCode 20 0 (fs S 0) q = 0 := by
    unfold putCode
    rw [if_neg (by omega), if_neg (by
      rintro (h | h)
      · simp [fs, hn] at h
      · omega), if_neg (by omega)]
  refine ⟨hc, ?_⟩
  rw [putF_yes hc]
  funext j
  unfold upd fs
  by_cases e : j = q
  · subst e
    simp
    omega
  · simp [e]
theorem fs_some {L : List Int} {n : Nat} (h : ((n + 1 : Nat) : Int) ∈ L) : fs L n ((n + 1 : Nat) : Int) = some (100 + ((n + 1 : Nat) : Int)) := by
  unfold fs
  rw [if_pos ⟨h, by omega⟩]
theorem fs_pop (L : List Int) (n : Nat) : upd (fs L n) ((n + 1 : Nat) : Int) none = fs L (n + 1) := by
  funext j
  unfold upd fs
  by_cases e : j = ((n + 1 : Nat) : Int)
  · subst e
    rw [if_pos rfl, if_neg (fun h => by omega)]
  · rw [if_neg e]
    have : (n : Int) < j ↔ ((n + 1 : Nat) : Int) < j := by omega
    simp only [this]
theorem fs_isSome (L : List Int) (c : Nat) (j : Int) : (fs L c j).isSome = true ↔ j ∈ L ∧ (c : Int) < j := by
  unfold fs
  split <;> simp_all

set_option maxRecDepth 100000 in
set_option maxHeartbeats 4000000 in
theorem fixed_ok (w : World) : Calls Try.prog 25 #[] w fun e w' => e = .returned (.bool true) ∧ Fr [] w w' := by
  go_enter Try.func25, Try.ntmps25
  go_wp2_with fail
  refine (new_ok 2 _ (by omega) (by omega)).mono ?_
  rintro e w1 ⟨g, b, rfl, hg, hb, hi, hf⟩
  have HG := Lib.hid hg; have HB := Lib.hid hb; have HI := Lib.hid hi; have HF := Lib.hid hf
  clear hg hb hi hf
  go_wp2_with fail
  refine (put_any g b 2 0 _ 2 20 _ HI.out (wfI (by omega) (by omega))).mono ?_
  rintro e w2 ⟨he, hi2, hf2⟩
  have hc1 : putCode 2 0 (fun _ => none) 2 = 0 := by decide
  rw [hc1] at he
  subst he
  rw [putF_yes hc1] at hi2
  have HI2 := Lib.hid hi2; have HF2 := Lib.hid (HF.out.trans hf2 (fun x hx hlt => by simp at hx; have := HB.out; omega))
  clear hi2 hf2 hc1
  go_wp2_with fail
  refine (put_any g b 2 0 _ 1 10 _ HI2.out (wfI (by omega) (by omega))).mono ?_
  rintro e w3 ⟨he, hi3, hf3⟩
  have hc2 : putCode 2 0 (upd (fun _ => none) 2 (some 20)) 1 = 0 := by decide
  rw [hc2] at he
  subst he
  rw [putF_yes hc2] at hi3
  have HI3 := Lib.hid hi3; have HF3 := Lib.hid (HF2.out.trans hf3 (fun x hx hlt => by simp at hx; have := HB.out; omega))
  clear hi3 hf3 hc2
  obtain ⟨f3, hf3⟩ : ∃ f3, f3 = upd (upd (fun _ => none) 2 (some 20)) 1 (some 10) := ⟨_, rfl⟩
  rw [← hf3] at HI3
  have HFE := Lib.hid hf3
  clear hf3
  go_wp2_with fail
  refine (head_any g b 2 0 f3 _ HI3.out).mono ?_
  rintro e w4 ⟨he, n4, hw4⟩
  have h1 : f3 ((0 + 1 : Nat) : Int) = some 10 := by rw [HFE.out]; rfl
  rw [h1] at he
  subst he
  have hf4 : Fr [] w3 w4 := by rw [hw4]; exact (Fr.refl _ _).drewN n4
  have HI4 := Lib.hid (HI3.out.fr0 hf4); have HF4 := Lib.hid (HF3.out.trans0 hf4)
  clear hf4 hw4 h1
  go_wp2_with fail
  refine (pop_any g b 2 0 f3 _ HI4.out).mono ?_
  rintro e w5 ⟨hpost, hf5⟩
  have h1 : f3 ((0 + 1 : Nat) : Int) = some 10 := by rw [HFE.out]; rfl
  rw [h1] at hpost
  obtain ⟨rfl, hi5⟩ : e = .returned (.int .i64 0) ∧ Ibx w5 g b 2 (0 + 1) (upd f3 ((0 + 1 : Nat) : Int) none) := by
    rcases hpost with ⟨_, h1, h2⟩ | ⟨h, _⟩
    · exact ⟨h1, h2⟩
    · cases h
  have HI5 := Lib.hid hi5
  have HF5 := Lib.hid (HF4.out.trans hf5 (fun x hx hlt => by simp only [List.mem_cons, List.not_mem_nil, or_false] at hx; have := HB.out; have := HG.out; omega))
  clear hpost hi5 hf5 h1
  go_wp2_with fail
  refine (cum_any g b 2 (0 + 1) _ _ HI5.out).mono ?_
  rintro e w6 ⟨rfl, rfl⟩
  go_wp2_with fail
  refine (head_any g b 2 (0 + 1) _ _ HI5.out).mono ?_
  rintro e w7 ⟨he, n7, hw7⟩
  have h1 : upd f3 ((0 + 1 : Nat) : Int) none ((0 + 1 + 1 : Nat) : Int) = some 20 := by rw [HFE.out]; rfl
  rw [h1] at he
  subst he
  have HF7 : Hid (Fr [] w w7) := Lib.hid (by rw [hw7]; exact HF5.out.drewN n7)
  clear hw7 h1
  go_wp2_with fail
  go_ret
  exact ⟨rfl, HF7.out⟩
end Go.Proofs.Ytjhemoekmlhlpaa
