/- Contracts: jotterlaw09.within, jotterlaw09.eq. -/
import Derived.Test.YtjhemoekmlhlpaaOutb
import Derived.OpenShut
import Derived.BigQuiet
namespace Go.Proofs.Ytjhemoekmlhlpaa
open Go Go.RowKit
set_option linter.unusedVariables false

def IntsAt (w : World) (a : Option Addr) (L : List Int) : Prop :=
  L = [] ∨ ∃ b off, a = some ⟨b, off, none⟩ ∧ ∀ i (h : i < L.length), w.cell? ⟨b, off + i, none⟩ = some (.int .i64 L[i])
theorem IntsAt.get {w : World} {a : Option Addr} {L : List Int} (h : IntsAt w a L) (i : Nat) (hi : i < L.length) : ∃ b off, a = some ⟨b, off, none⟩ ∧ w.cell? ⟨b, off + i, none⟩ = some (.int .i64 L[i]) := by
  rcases h with rfl | ⟨b, off, rfl, h⟩
  · simp at hi
  · exact ⟨b, off, rfl, h i hi⟩
theorem IntsAt.fr {S : List Nat} {w w1 : World} {a : Option Addr} {L : List Int} (h : IntsAt w a L) (f : Fr S w w1) (ha : Off a S) : IntsAt w1 a L := by
  rcases h with rfl | ⟨b, off, rfl, h⟩
  · exact .inl rfl
  · exact .inr ⟨b, off, rfl, fun i hi => f.cell (h i hi) (show b ∉ S from ha ⟨b, off, none⟩ rfl)⟩
theorem IntsAt.fr0 {w w1 : World} {a : Option Addr} {L : List Int} (h : IntsAt w a L) (f : Fr [] w w1) : IntsAt w1 a L := h.fr f (Off.nil a)
theorem IntsAt.drewN {w : World} {a : Option Addr} {L : List Int} (h : IntsAt w a L) (n : Nat) : IntsAt (w.drewN n) a L := h
theorem IntsAt.take {w : World} {a : Option Addr} {L : List Int} (h : IntsAt w a L) (k : Nat) : IntsAt w a (L.take k) := by
  rcases h with rfl | ⟨b, off, rfl, h⟩
  · exact .inl (by simp)
  · exact .inr ⟨b, off, rfl, fun i hi => by
      have hi' : i < L.length := by simp at hi; omega
      simpa using h i hi'⟩

set_option maxHeartbeats 1000000 in
theorem within_any (v : Int) (lo hi : Nat) (w : World) (h1 : 1 ≤ lo) (h2 : lo ≤ hi) (h3 : hi ≤ 4096) (hv : (Lit.int .i64 v).wf = true) :
    Calls Try.prog 10 #[.int .i64 v, .int .i64 lo, .int .i64 hi] w fun e w' => ∃ n : Nat, e = .returned (.int .i64 n) ∧ lo ≤ n ∧ n ≤ hi ∧ (lo ≤ v → v ≤ hi → v = n) ∧ w = w' := by
  have hb := bounds_i64 hv
  clear hv
  by_cases hr : (lo : Int) ≤ v ∧ v ≤ (hi : Int)
  · obtain ⟨n, rfl⟩ : ∃ n : Nat, v = (n : Int) := ⟨v.toNat, by omega⟩
    have ha : lo ≤ n := by omega
    have hb2 : n ≤ hi := by omega
    clear hr hb
    go_enter Try.func10, Try.ntmps10
    go_wp2_with fail
    go_ret
    exact ⟨n, rfl, ha, hb2, fun _ _ => rfl, rfl⟩
  · obtain ⟨m, hm⟩ : ∃ m, m = hi - lo + 1 := ⟨_, rfl⟩
    obtain ⟨t, ht⟩ : ∃ t, t = v.tmod (m : Int) := ⟨_, rfl⟩
    have ht1 : t < (m : Int) := by rw [ht]; exact Int.tmod_lt_of_pos _ (by omega)
    have ht2 : -(m : Int) < t := by rw [ht]; exact Int.lt_tmod_of_pos _ (by omega)
    have hd : (hi : Int) - (lo : Int) = ((m - 1 : Nat) : Int) := by omega
    have hd2 : ((m - 1 : Nat) : Int) + 1 = (m : Int) := by omega
    have hm0 : (m : Int) ≠ 0 := by omega
    have hm4 : m ≤ 4096 := by omega
    have ht3 : v.tmod (m : Int) = t := ht.symm
    have HR : Hid (¬ ((lo : Int) ≤ v ∧ v ≤ (hi : Int))) := Lib.hid hr
    have HM := Lib.hid hm
    have hr2 : (decide ((lo : Int) ≤ v) && decide (v ≤ (hi : Int))) = false := by
      rw [Bool.and_eq_false_iff]
      rcases Decidable.em ((lo : Int) ≤ v) with h | h
      · exact .inr (decide_eq_false (fun h' => hr ⟨h, h'⟩))
      · exact .inl (decide_eq_false h)
    clear ht hr hm
    go_enter Try.func10, Try.ntmps10
    go_wp2_with fail
    all_goals go_ret
    all_goals have HM2 := HM.out
    all_goals first
      | exact absurd ⟨by omega, by omega⟩ HR.out
      | exact ⟨((lo : Int) + (t + (hi : Int) - (lo : Int) + 1)).toNat, ret_int (show (lo : Int) + (t + (hi : Int) - (lo : Int) + 1) = _ by omega), by omega, by omega, fun h h' => absurd ⟨h, h'⟩ HR.out, rfl⟩
      | exact ⟨((lo : Int) + t).toNat, ret_int (show (lo : Int) + t = _ by omega), by omega, by omega, fun h h' => absurd ⟨h, h'⟩ HR.out, rfl⟩

set_option maxHeartbeats 1000000 in
theorem eq_at (a b : Option Addr) (la lb : List Int) (n m ca cb : Nat) (w : World) (hn : n = la.length) (hm : m = lb.length) (ha : IntsAt w a la) (hb : IntsAt w b lb) (h1 : n ≤ maxLen) (h2 : m ≤ maxLen) (r : Bool) (hr : decide (la = lb) = r) :
    Calls Try.prog 19 #[.slice a n ca, .slice b m cb] w fun e w' => e = .returned (.bool r) ∧ ∃ n, w' = w.drewN n := by
  unfold maxLen at h1 h2
  have HA := Lib.hid ha; have HB := Lib.hid hb; have HN := Lib.hid hn; have HM := Lib.hid hm; have HR := Lib.hid hr
  clear ha hb hn hm hr
  by_cases hl : n = m
  · have HL := Lib.hid hl
    obtain ⟨k0, hk0⟩ : ∃ k0, k0 = m := ⟨_, rfl⟩
    subst hl
    clear hk0
    go_enter Try.func19, Try.ntmps19
    go_wp2_with fail
    go_loopw [5] (fun i wr => ∃ k : Nat, i = .int .i64 k ∧ k ≤ n ∧ Hid (la.take k = lb.take k) ∧ Hid (∃ n, wr = w.drewN n)) (fun i _ => n - (intOf i).toNat)
    case atStart => exact ⟨0, rfl, Nat.zero_le _, Lib.hid (by simp), Lib.hid ⟨0, rfl⟩⟩
    case round =>
      obtain ⟨k, rfl, hk, HT, nd, rfl⟩ := hrel
      by_cases hlt : k < n
      · obtain ⟨ba, oa, rfl, hca⟩ := HA.out.get k (by have := HN.out; omega)
        obtain ⟨bb, ob, rfl, hcb⟩ := HB.out.get k (by have := HM.out; omega)
        obtain ⟨x, hx⟩ : ∃ x, x = la[k]'(by have := HN.out; omega) := ⟨_, rfl⟩
        obtain ⟨y, hy⟩ : ∃ y, y = lb[k]'(by have := HM.out; omega) := ⟨_, rfl⟩
        rw [← hx] at hca
        rw [← hy] at hcb
        by_cases he : x = y
        · have hq : (x != y) = false := by rw [he]; simp
          have HE : Hid (la[k]'(by have := HN.out; omega) = lb[k]'(by have := HM.out; omega)) := Lib.hid (by rw [← hx, ← hy]; exact he)
          clear he hx hy
          go_wp2_with fail
          go_quiet (fail)
          go_wp2_with fail
          go_roundw
          case rel => exact ⟨k + 1, by go_num, by omega, Lib.hid (take_step _ _ HT.out HE.out), Lib.hid ⟨_, rfl⟩⟩
          case measure => simp [intOf]; omega
        · have hq : (x != y) = true := by simpa using he
          have HE : Hid (la ≠ lb) := Lib.hid (fun h => he (by rw [hx, hy]; simp only [h]))
          clear he hx hy
          go_wp2_with fail
          go_quiet (fail)
          go_wp2_with fail
          go_ret
          exact ⟨ret_bool (by rw [← HR.out]; exact (decide_eq_false HE.out).symm), ⟨nd + nq, by rw [World.drewN_drewN]⟩⟩
      · have hkn : la = lb := by
          have := HT.out
          rwa [List.take_of_length_le (by have := HN.out; omega), List.take_of_length_le (by have := HM.out; omega)] at this
        have HE := Lib.hid hkn; clear hkn
        go_wp2_with fail
        go_ret
        exact ⟨ret_bool (by rw [← HR.out]; exact (decide_eq_true HE.out).symm), ⟨nd, rfl⟩⟩
  · have hq : ((n : Int) != (m : Int)) = true := by simp only [bne_iff_ne, ne_eq, Int.natCast_inj]; exact hl
    have HE : Hid (la ≠ lb) := Lib.hid (fun h => hl (by rw [HN.out, HM.out, h]))
    clear hl
    go_enter Try.func19, Try.ntmps19
    go_wp2_with fail
    go_ret
    exact ⟨ret_bool (by rw [← HR.out]; exact (decide_eq_false HE.out).symm), 0, rfl⟩
end Go.Proofs.Ytjhemoekmlhlpaa
