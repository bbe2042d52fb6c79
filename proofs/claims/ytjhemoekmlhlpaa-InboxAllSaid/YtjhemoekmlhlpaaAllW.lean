/- The walk of jotterlaw09.InboxAll. -/
import Derived.Test.YtjhemoekmlhlpaaHeld
import Derived.Test.YtjhemoekmlhlpaaLinkB
import Derived.Deep.DeepCutAuto
import Derived.Deep.LoopGhost
import Derived.Deep.CutBlock
namespace Go.Proofs.Ytjhemoekmlhlpaa
open Go Go.RowKit
set_option linter.unusedVariables false

/-- what is held has its own number times three; cum of n are out -/
def AllI (w wr : World) (gi bi r cum n : Nat) (f : Int → Option Int) : Prop :=
  Ibx wr gi bi r cum f ∧ (∀ j x, f j = some x → ∃ q : Nat, j = (q : Int) ∧ cum < q ∧ q ≤ n ∧ x = 3 * (q : Int)) ∧ cum ≤ n ∧ Fr [] w wr ∧ w.heap.size ≤ gi ∧ w.heap.size ≤ bi
section
variable {w wr w' : World} {gi bi r cum n : Nat} {f : Int → Option Int}
theorem AllI.put {q : Nat} (h : AllI w wr gi bi r cum n f) (h2 : q ≤ n) (hi : Ibx w' gi bi r cum (putF r cum f q (3 * (q : Int)))) (hf : Fr [bi] wr w') : AllI w w' gi bi r cum n (putF r cum f q (3 * (q : Int))) := by
  obtain ⟨k1, k2, k3, k4, k5, k6⟩ := h
  refine ⟨hi, fun j y hj => ?_, k3, k4.trans hf (fun b hb hlt => by simp at hb; omega), k5, k6⟩
  by_cases hc : putCode r cum f q = 0
  · rw [putF_yes hc] at hj
    unfold upd at hj
    split at hj
    · rename_i e
      obtain rfl := Option.some.inj hj
      refine ⟨q, e, ?_, h2, rfl⟩
      unfold putCode at hc
      split at hc
      · cases hc
      · split at hc
        · cases hc
        · rename_i hn
          have : ¬ ((q : Int) ≤ cum) := fun hh => hn (.inr hh)
          omega
    · exact k2 j y hj
  · rw [putF, if_neg hc] at hj
    exact k2 j y hj
theorem AllI.fr0 (h : AllI w wr gi bi r cum n f) (hf : Fr [] wr w') : AllI w w' gi bi r cum n f := by
  obtain ⟨k1, k2, k3, k4, k5, k6⟩ := h
  exact ⟨k1.fr0 hf, k2, k3, k4.trans0 hf, k5, k6⟩
theorem AllI.head {x : Int} (h : AllI w wr gi bi r cum n f) (hx : f ((cum + 1 : Nat) : Int) = some x) : cum < n ∧ x = 3 * ((cum : Int) + 1) := by
  obtain ⟨q, e, a1, a2, a3⟩ := h.2.1 _ x hx
  obtain rfl : q = cum + 1 := by omega
  exact ⟨by omega, by rw [a3]; omega⟩
theorem AllI.pop {x : Int} (h : AllI w wr gi bi r cum n f) (hx : f ((cum + 1 : Nat) : Int) = some x) (hi : Ibx w' gi bi r (cum + 1) (upd f ((cum + 1 : Nat) : Int) none)) (hf : Fr [gi, bi] wr w') :
    AllI w w' gi bi r (cum + 1) n (upd f ((cum + 1 : Nat) : Int) none) := by
  have hh := h.head hx
  obtain ⟨k1, k2, k3, k4, k5, k6⟩ := h
  refine ⟨hi, fun j y hj => ?_, by omega, k4.trans hf (fun b hb hlt => ?_), k5, k6⟩
  · unfold upd at hj
    split at hj
    · cases hj
    · rename_i hne
      obtain ⟨q, e, a1, a2, a3⟩ := k2 j y hj
      refine ⟨q, e, ?_, a2, a3⟩
      rcases Nat.lt_or_ge (cum + 1) q with hlt | hge
      · exact hlt
      · exact absurd (by rw [e]; congr 1; omega) hne
  · simp only [List.mem_cons, List.not_mem_nil, or_false] at hb
    rcases hb with rfl | rfl <;> omega
end

set_option maxRecDepth 100000 in
set_option maxHeartbeats 16000000 in
theorem inboxAll_walk (x0 : Int) (wx0 : (Lit.int .i64 x0).wf = true) (x1 : Int) (wx1 : (Lit.int .i64 x1).wf = true)
    (b : Option Addr) (Ch : List Int) (cb : Nat) {w : World} (hb : IntsAt w b Ch) (h2 : Ch.length ≤ cb) (m2 : cb ≤ maxLen) (hw2 : ∀ x ∈ Ch, (Lit.int .i64 x).wf = true) (hs2 : Ch.length ≤ 17592186043904) :
    Calls Try.prog 6 #[.int .i64 x0, .int .i64 x1, .slice b Ch.length cb] w fun e w' => e = .returned (.bool true) ∧ Fr [] w w' := by
  obtain ⟨R, hR⟩ : ∃ n, n = Ch.length := ⟨_, rfl⟩
  rw [← hR] at h2 hs2 ⊢
  have HR := Lib.hid hR; have HB := Lib.hid hb; have HW2 := Lib.hid hw2
  have WX0 := Lib.hid wx0; have WX1 := Lib.hid wx1
  have M2 := Lib.hid m2
  clear hR hb hw2 wx0 wx1 m2
  go_enter Try.func6, Try.ntmps6
  go_wp2_with fail
  refine (within_any x0 1 4096 _ (by omega) (by omega) (by omega) WX0.out).mono ?_
  rintro e w1 ⟨r, rfl, hr1, hr2, _, rfl⟩
  go_wp2_with fail
  refine (within_any x1 1 4096 _ (by omega) (by omega) (by omega) WX1.out).mono ?_
  rintro e w1 ⟨n, rfl, hn1, hn2, _, rfl⟩
  go_wp2_with fail
  refine (new_ok r _ hr1 hr2).mono ?_
  rintro e wz ⟨gi, bi, rfl, hgi, hbi, hi, hf⟩
  have HA : Hid (AllI w wz gi bi r 0 n (fun _ => none)) := Lib.hid ⟨hi, (fun j x (hj : none = some x) => nomatch hj), Nat.zero_le _, hf, hgi, hbi⟩
  clear hi hf hgi hbi
  go_wp2_with fail
  go_loopw [10] (fun ro wr => ∃ (k cum : Nat) (f : Int → Option Int), ro = .int .i64 k ∧ k ≤ cum ∧ cum ≤ n ∧ Hid (AllI w wr gi bi r cum n f)) (fun ro _ => n - (intOf ro).toNat)
  case atStart => exact ⟨0, 0, _, rfl, Nat.le_refl _, Nat.zero_le _, HA⟩
  case round =>
    clear HA
    obtain ⟨k, cum, f, rfl, hkc, hcn, HA⟩ := hrel
    by_cases hk : k < n
    · go_wp2_with fail
      go_loopw [11] (fun i wr => ∃ (j : Nat) (f : Int → Option Int), i = .int .i64 j ∧ j ≤ R ∧ Hid (AllI w wr gi bi r cum n f)) (fun i _ => R - (intOf i).toNat)
      case atStart => exact ⟨0, f, rfl, Nat.zero_le _, HA⟩
      case round =>
        clear HA
        obtain ⟨j, f, rfl, hjR, HA⟩ := hrel
        by_cases hj : j < R
        · have hjl : j < Ch.length := by have := HR.out; omega
          have hcell : ∃ bb ob, b = some ⟨bb, ob, none⟩ ∧ wr.cell? ⟨bb, ob + j, none⟩ = some (.int .i64 (Ch[j]'hjl)) := (HB.out.fr0 HA.out.2.2.2.1).get j hjl
          obtain ⟨bb, ob, rfl, hcell⟩ := hcell
          have HWJ : Hid ((Lit.int .i64 (Ch[j]'hjl)).wf = true) := Lib.hid (HW2.out _ (List.getElem_mem hjl))
          generalize (Ch[j]'hjl) = c0 at hcell HWJ
          go_wp2_with fail
          refine (within_any c0 1 n _ (by omega) (by omega) (by omega) HWJ.out).mono ?_
          rintro e w1 ⟨q, rfl, hq1, hq2, _, rfl⟩
          go_wp2_with fail
          refine (put_any gi bi r cum f q (3 * (q : Int)) _ HA.out.1 (wfI (by omega) (by omega))).mono ?_
          rintro e w8 ⟨rfl, hi8, hf8⟩
          have HA8 := Lib.hid (HA.out.put hq2 hi8 hf8)
          clear hi8 hf8
          go_wp2_with fail
          go_roundw
          case rel => exact ⟨j + 1, _, by go_num, by omega, HA8⟩
          case measure => simp [intOf]; omega
        · go_wp2_with fail
          go_loopw [13] (fun i wr => ∃ (m : Nat) (f : Int → Option Int), i = .int .i64 m ∧ m ≤ n ∧ Hid (AllI w wr gi bi r cum n f) ∧ Hid (m ≤ cum → cum < n → (f ((cum + 1 : Nat) : Int)).isSome = true)) (fun i _ => (intOf i).toNat)
          case atStart => exact ⟨n, f, rfl, Nat.le_refl _, HA, Lib.hid (fun h1 h2 => by omega)⟩
          case round =>
            clear HA
            obtain ⟨m, f, rfl, hmn, HA, HS⟩ := hrel
            by_cases hm : 1 ≤ m
            · go_wp2_with fail
              refine (put_any gi bi r cum f m (3 * (m : Int)) _ HA.out.1 (wfI (by omega) (by omega))).mono ?_
              rintro e w8 ⟨rfl, hi8, hf8⟩
              have HA8 := Lib.hid (HA.out.put hmn hi8 hf8)
              clear hi8 hf8
              go_wp2_with fail
              go_roundw
              case rel => exact ⟨m - 1, _, by congr 1; omega, by omega, HA8, Lib.hid (fun h1 h2 => by
                by_cases he : m = cum + 1
                · rw [he]
                  exact putF_there hr1 (by omega)
                · exact putF_keeps (HS.out (by omega) h2))⟩
              case measure => simp [intOf]; omega
            · have HS2 : Hid (cum < n → (f ((cum + 1 : Nat) : Int)).isSome = true) := Lib.hid (fun h => HS.out (by omega) h)
              clear HS
              go_wp2_with fail
              refine (cum_any gi bi r cum f _ HA.out.1).mono ?_
              rintro e w6 ⟨rfl, rfl⟩
              go_wp2_with fail
              refine (head_any gi bi r cum f _ HA.out.1).mono ?_
              rintro e w7 ⟨he, nd, hw7⟩
              obtain ⟨y7, hy7⟩ : ∃ y, y = (f ((cum + 1 : Nat) : Int)).getD 0 := ⟨_, rfl⟩
              obtain ⟨b7, hb7⟩ : ∃ b, b = (f ((cum + 1 : Nat) : Int)).isSome := ⟨_, rfl⟩
              rw [← hy7, ← hb7] at he
              subst he
              have hf7 : Fr [] wr w7 := by rw [hw7]; exact (Fr.refl _ _).drewN nd
              have HA7 := Lib.hid (HA.out.fr0 hf7)
              have HY7 := Lib.hid hy7
              have HB7 := Lib.hid hb7
              clear hy7 hb7 hf7 hw7 HA
              go_wp2_with fail
              go_loopg [15, 16] (n - cum) (fun gk yv bv wr => ∃ (y : Int) (bb : Bool) (cum6 : Nat) (f7 : Int → Option Int), gk + cum6 = n ∧ yv = .int .i64 y ∧ bv = .bool bb ∧ cum ≤ cum6 ∧ Hid (y = (f7 ((cum6 + 1 : Nat) : Int)).getD 0) ∧ Hid (bb = (f7 ((cum6 + 1 : Nat) : Int)).isSome) ∧ Hid (AllI w wr gi bi r cum6 n f7) ∧ Hid (cum < n → cum + 1 ≤ cum6 ∨ (cum6 = cum ∧ bb = true)))
              case atStart => exact ⟨y7, b7, cum, f, by omega, rfl, rfl, Nat.le_refl _, HY7, HB7, HA7, Lib.hid (fun h => .inr ⟨rfl, by rw [HB7.out]; exact HS2.out h⟩)⟩
              case round =>
                clear HA7 HY7 HB7 HS2
                obtain ⟨y, bb, cum6, f7, hgk, rfl, rfl, hcc, HY, HBB, HA, HP⟩ := hrel
                cases bb with
                | false =>
                  have HP2 : Hid (cum < n → cum + 1 ≤ cum6) := Lib.hid (fun h => by
                    rcases HP.out h with h1 | ⟨_, h1⟩
                    · exact h1
                    · cases h1)
                  clear HP
                  go_wp2_with fail
                  refine (cum_any gi bi r cum6 f7 _ HA.out.1).mono ?_
                  rintro e w6 ⟨rfl, rfl⟩
                  by_cases hcn2 : cum < n
                  · have hne := HP2.out hcn2
                    go_wp2_with fail
                    go_roundw
                    case rel => exact ⟨k + 1, cum6, f7, by go_num, by omega, by omega, HA⟩
                    case measure => simp [intOf]; omega
                  · have hce : cum6 = cum := by omega
                    subst hce
                    go_wp2_with fail
                    go_roundw
                    case rel => exact ⟨k + 1, cum6, f7, by go_num, by omega, by omega, HA⟩
                    case measure => simp [intOf]; omega
                | true =>
                  obtain ⟨x, hx⟩ : ∃ x, f7 ((cum6 + 1 : Nat) : Int) = some x := Option.isSome_iff_exists.1 HBB.out.symm
                  have hy : y = x := by rw [HY.out, hx]; rfl
                  subst hy
                  have hhd := HA.out.head hx
                  have HX := Lib.hid hx
                  have hlt := hhd.1
                  have hy3 : 3 * ((cum6 : Int) + 1) = y := hhd.2.symm
                  clear hhd hx HY HBB
                  go_wp2_with fail
                  refine (cum_any gi bi r cum6 f7 _ HA.out.1).mono ?_
                  rintro e w6 ⟨rfl, rfl⟩
                  go_wp2_with fail
                  refine (pop_any gi bi r cum6 f7 _ HA.out.1).mono ?_
                  rintro e w8 ⟨hpost, hf8⟩
                  rw [HX.out] at hpost
                  obtain ⟨rfl, hi8⟩ : e = .returned (.int .i64 0) ∧ Ibx w8 gi bi r (cum6 + 1) (upd f7 ((cum6 + 1 : Nat) : Int) none) := by
                    rcases hpost with ⟨_, h1, h2⟩ | ⟨h, _⟩
                    · exact ⟨h1, h2⟩
                    · cases h
                  have HA8 := Lib.hid (HA.out.pop HX.out hi8 hf8)
                  obtain ⟨f8, hf8e⟩ : ∃ f8, f8 = upd f7 ((cum6 + 1 : Nat) : Int) none := ⟨_, rfl⟩
                  rw [← hf8e] at HA8
                  clear hpost hi8 hf8 hf8e hy3
                  go_wp2_with fail
                  refine (head_any gi bi r (cum6 + 1) f8 _ HA8.out.1).mono ?_
                  rintro e wa ⟨he, na, hwa⟩
                  obtain ⟨y8, hy8⟩ : ∃ y, y = (f8 ((cum6 + 1 + 1 : Nat) : Int)).getD 0 := ⟨_, rfl⟩
                  obtain ⟨b8, hb8⟩ : ∃ b, b = (f8 ((cum6 + 1 + 1 : Nat) : Int)).isSome := ⟨_, rfl⟩
                  rw [← hy8, ← hb8] at he
                  subst he
                  have hfa : Fr [] w8 wa := by rw [hwa]; exact (Fr.refl _ _).drewN na
                  have HAa := Lib.hid (HA8.out.fr0 hfa)
                  have HYa := Lib.hid hy8
                  have HBa := Lib.hid hb8
                  clear hy8 hb8 hfa hwa HA8
                  go_wp2_with fail
                  go_roundg (gk - 1)
                  case rel => exact ⟨y8, b8, cum6 + 1, f8, by omega, rfl, rfl, by omega, HYa, HBa, HAa, Lib.hid (fun h => .inl (by omega))⟩
                  case measure => omega
    · have hce : cum = n := by omega
      subst hce
      go_wp2_with fail
      refine (cum_any gi bi r cum f _ HA.out.1).mono ?_
      rintro e w6 ⟨rfl, rfl⟩
      go_wp2_with fail
      refine (held_any gi bi r cum f _ HA.out.1).mono ?_
      rintro e w7 ⟨a7, c7, L, rfl, ho, _, hm, hf7⟩
      have hL : L = [] := by
        cases L with
        | nil => rfl
        | cons k L =>
          have h1 := (hm k).1 (by simp)
          obtain ⟨x, hx⟩ := Option.isSome_iff_exists.1 h1
          obtain ⟨q, _, h3, h4, _⟩ := HA.out.2.1 k x hx
          omega
      subst hL
      have HFF := Lib.hid (HA.out.2.2.2.1.trans0 hf7)
      clear ho hm hf7
      go_wp2_with fail
      go_ret
      exact ⟨rfl, HFF.out⟩
end Go.Proofs.Ytjhemoekmlhlpaa
