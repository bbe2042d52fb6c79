/- Contracts: Inbox[int].Run, Op.here, Box.next. -/
import Derived.Test.YtjhemoekmlhlpaaRunB
namespace Go.Proofs.Ytjhemoekmlhlpaa
open Go Go.RowKit
set_option linter.unusedVariables false

set_option maxRecDepth 100000 in
theorem run_any (g : Nat) (w : World) :
    Calls Try.prog 31 #[ptr g] w fun e w' => ∃ B, e = .returned (.func (.func 50) #[] #[.pointer (some ⟨B, 0, none⟩)]) ∧ w.heap.size ≤ B ∧ Row w' B [ptr g] 29 ∧ Fr [] w w' := by
  have hmf : ∀ (fn : Fn) (first cap : Array Value) (w : World), (Instr.makeFunc fn first cap).run Try.prog w = .ok (.func fn first cap) w := fun _ _ _ _ => rfl
  go_enter Try.func31, Try.ntmps31
  go_wp2_with fail
  go_ret
  exact ⟨_, rfl, Nat.le_refl _, Row.new w _ _, (Fr.refl _ _).alloc _⟩

set_option maxRecDepth 100000 in
set_option maxHeartbeats 2000000 in
theorem here_any (kind slot num x : Int) (ia : Option Addr) (il ic : Nat) (w : World) :
    Calls Try.prog 32 #[.agg #[.int .i64 kind, .int .i64 slot, .int .i64 num, .int .i64 x, Value.slice ia il ic]] w fun e w' => e = .returned (.agg #[.int .i64 kind, .int .i64 0, .int .i64 num, .int .i64 x, Value.slice ia il ic]) ∧ Fr [] w w' := by
  go_enter Try.func32, Try.ntmps32
  go_upto_region 1 with fail
  have hr1 := Row.new w [.int .i64 kind, .int .i64 slot, .int .i64 num, .int .i64 x, .slice ia il ic] 55
  have hr := hr1.alloc (.cells #[.int .i64 0, .int .i64 0, .int .i64 0, .int .i64 0, .slice none 0 0] 55)
  have hn := Row.new (w.alloc (.cells #[.int .i64 kind, .int .i64 slot, .int .i64 num, .int .i64 x, .slice ia il ic] 55)) [.int .i64 0, .int .i64 0, .int .i64 0, .int .i64 0, .slice none 0 0] 55
  rw [World.size_alloc] at hn
  have hf := ((Fr.refl [] w).alloc (.cells #[.int .i64 kind, .int .i64 slot, .int .i64 num, .int .i64 x, .slice ia il ic] 55)).alloc (.cells #[.int .i64 0, .int .i64 0, .int .i64 0, .int .i64 0, .slice none 0 0] 55)
  clear hr1
  generalize (w.alloc (.cells #[.int .i64 kind, .int .i64 slot, .int .i64 num, .int .i64 x, .slice ia il ic] 55)).alloc (.cells #[.int .i64 0, .int .i64 0, .int .i64 0, .int .i64 0, .slice none 0 0] 55) = w1 at hr hn hf ⊢
  generalize hn0 : w.heap.size = n0 at hr hn ⊢
  have hne : n0 + 1 ≠ n0 := by omega
  generalize hn1 : n0 + 1 = n1 at hn hne ⊢
  have HR := Lib.hid hr; have HN := Lib.hid hn; have HF := Lib.hid hf; have HN0 := Lib.hid hn0; have HN1 := Lib.hid hn1
  have o0 := hr.cell' (j := 0) rfl
  have o1 := hr.cell' (j := 1) rfl
  have o2 := hr.cell' (j := 2) rfl
  have o3 := hr.cell' (j := 3) rfl
  have o4 := hr.cell' (j := 4) rfl
  have f1 := hr.free 1
  have g0 := hn.cell' (j := 0) rfl
  have g1 := hn.cell' (j := 1) rfl
  have g2 := hn.cell' (j := 2) rfl
  have g3 := hn.cell' (j := 3) rfl
  have g4 := hn.cell' (j := 4) rfl
  have k0 := hn.free 0
  have k1 := hn.free 1
  have k2 := hn.free 2
  have k3 := hn.free 3
  have k4 := hn.free 4
  clear hr hn hf hn0 hn1
  go_wp2_with fail
  have hrow := (((((HN.out.set_other (a := ⟨n0, 1, none⟩) hne (.int .i64 0)).set 0 (.int .i64 kind)).set 1 (.int .i64 0)).set 2 (.int .i64 num)).set 3 (.int .i64 x)).set 4 (.slice ia il ic)
  refine bodyPost_ret (results_cell_row rfl _ _ n1 55 #[.int .i64 kind, .int .i64 0, .int .i64 num, .int .i64 x, .slice ia il ic] (0, 0) _ rfl hrow Try.underlying55 rfl (by kernel_rfl)) rfl ?_
  refine ⟨rfl, ?_⟩
  have hge : ∀ b, b < w.heap.size → b = n1 → b ∈ ([] : List Nat) := fun b h1 h2 => by have := HN0.out; have := HN1.out; omega
  have hge0 : ∀ b, b < w.heap.size → b = n0 → b ∈ ([] : List Nat) := fun b h1 h2 => by have := HN0.out; omega
  exact (((((HF.out.setCell (a := ⟨n0, 1, none⟩) _ (fun h => hge0 _ h rfl)).setCell (a := ⟨n1, 0, none⟩) _ (fun h => hge _ h rfl)).setCell (a := ⟨n1, 1, none⟩) _ (fun h => hge _ h rfl)).setCell (a := ⟨n1, 2, none⟩) _ (fun h => hge _ h rfl)).setCell (a := ⟨n1, 3, none⟩) _ (fun h => hge _ h rfl)).setCell (a := ⟨n1, 4, none⟩) _ (fun h => hge _ h rfl)

set_option maxRecDepth 100000 in
set_option maxHeartbeats 4000000 in
theorem next_any (base X gA bA gB gp gq : Nat) (vp vL vW : Value) (r c : Nat) (L : List (Int × Int)) (v : Int) (w : World) (h : Row w X [ptr gA, ptr gB, ptr gp, ptr gq, vL, vW] 74) (hA : Ibx w gA bA r (c + 1) (upd (lk L) ((c + 1 : Nat) : Int) none)) (hR : Rf w base gp vp r c L)
    (hv : lk L ((c + 1 : Nat) : Int) = some v) (hb : base ≤ w.heap.size) :
    Calls Try.prog 51 #[ptr X, .int .i64 ((c + 1 : Nat) : Int), .int .i64 v] w fun e w' => e = .returned (.bool true) ∧ (∃ v' L', Rf w' base gp v' r (c + 1) L' ∧ lk L' = upd (lk L) ((c + 1 : Nat) : Int) none ∧ (∀ y, v'.ownBlock = some y → w.heap.size ≤ y)) ∧ Fr [gp] w w' := by
  have H := Lib.hid h; have HA := Lib.hid hA; have HR := Lib.hid hR; have HV := Lib.hid hv; have HB := Lib.hid hb
  have c0 := h.cell' (j := 0) rfl
  have c2 := h.cell' (j := 2) rfl
  have hc := hA.2.2.2.2
  have hki : (c : Int) + 1 = ((c + 1 : Nat) : Int) := by omega
  obtain ⟨k, hk⟩ : ∃ k, k = c + 1 := ⟨_, rfl⟩
  have PH : Hid (Calls Try.prog 44 #[ptr gp] w fun e w' => e = .returned (.tuple #[.int .i64 v, .bool true]) ∧ ∃ n, w' = w.drewN n) := Lib.hid (by
    have := rfHead_any base gp vp r c L w hR
    rwa [hv] at this)
  rw [← hk] at hc hki ⊢
  have q1 : IntKind.i64.wrap (k : Int) = (k : Int) := IntWalk.i64_in _ (by omega)
  have HK := Lib.hid hk
  clear h hA hR hv hb hk hc
  go_enter Try.func51, Try.ntmps51
  go_wp2_with fail
  refine PH.out.mono ?_
  rintro e w1 ⟨rfl, nd, hw1⟩
  have hf1 : Fr [] w w1 := by rw [hw1]; exact (Fr.refl _ _).drewN _
  have HF1 := Lib.hid hf1
  have d0 := hf1.cell c0 (by simp)
  have d2 := hf1.cell c2 (by simp)
  clear hw1 hf1 c0 c2
  go_wp2_with fail
  refine (rfCum_any base gp vp r c L w1 (HR.out.fr0 HF1.out)).mono ?_
  rintro e w2 ⟨rfl, hw2⟩
  subst hw2
  go_wp2_with fail
  refine (rfPop_any base gp vp r c L w1 (HR.out.fr0 HF1.out) (Nat.le_trans HB.out HF1.out.size)).mono ?_
  rintro e w3 ⟨⟨_, rfl, v', L', hr3, hl3, hv3⟩ | ⟨hno, _, _⟩, hf3⟩
  · have hX : X ∉ [gp] := by simp; exact kd_ne H.out.kd HR.out.1.kd (by decide)
    have e0 := hf3.cell d0 hX
    have hi3 := (HA.out.fr0 HF1.out).fr hf3 (by simp; exact kd_ne HA.out.1.kd HR.out.1.kd (by decide)) (by simp; exact kd_ne HA.out.2.1.kd HR.out.1.kd (by decide))
    have HR3 := Lib.hid hr3; have HL3 := Lib.hid hl3; have HV3 := Lib.hid hv3; have HI3 := Lib.hid hi3; have HF3 := Lib.hid hf3
    rw [← HK.out] at hi3
    have HI3' := Lib.hid hi3
    clear hr3 hl3 hv3 hi3 hf3 d0 d2 hX
    go_wp2_with fail
    refine (cum_any gA bA r k _ w3 HI3'.out).mono ?_
    rintro e w4 ⟨rfl, hw4⟩
    subst hw4
    go_wp2_with fail
    refine (rfCum_any base gp v' r (c + 1) L' w3 HR3.out).mono ?_
    rintro e w4 ⟨rfl, hw4⟩
    subst hw4
    rw [← HK.out]
    go_wp2_with fail
    go_ret
    rw [HK.out]
    exact ⟨ret_bool (by simp), ⟨v', L', HR3.out, HL3.out, fun y hy => Nat.le_trans HF1.out.size (HV3.out y hy)⟩, (HF1.out.nil _).trans1 HF3.out⟩
  · rw [HV.out] at hno; cases hno
end Go.Proofs.Ytjhemoekmlhlpaa
