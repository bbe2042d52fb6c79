/- Contracts: Box.head. -/
import Derived.Test.YtjhemoekmlhlpaaBoxD
namespace Go.Proofs.Ytjhemoekmlhlpaa
open Go Go.RowKit
set_option linter.unusedVariables false

theorem Ibo.key {w : World} {g b r cum : Nat} {f : Int → Option Int} (h : Ibo w g b r cum f) : kd w b = 0 := h.2.1.kd
/-- what a list holds lies in reach -/
def InR (L : List (Int × Int)) (c r : Nat) : Prop := ∀ j, (lk L j).isSome = true → (c : Int) < j ∧ j ≤ (c : Int) + r
/-- one side: the program's inbox and the document's hold the same -/
def SideA (w : World) (base g b : Nat) (gp : Nat) (vp : Value) (r c : Nat) (L : List (Int × Int)) : Prop := Ibx w g b r c (lk L) ∧ Rf w base gp vp r c L ∧ InR L c r
def SideB (w : World) (base g b : Nat) (gp : Nat) (vp : Value) (r c : Nat) (L : List (Int × Int)) : Prop := Ibo w g b r c (lk L) ∧ Rf w base gp vp r c L ∧ InR L c r
abbrev ptr (g : Nat) : Value := .pointer (some ⟨g, 0, none⟩)

set_option maxRecDepth 100000 in
set_option maxHeartbeats 4000000 in
theorem head0_any (base X gA bA gB gp gq : Nat) (vp vL vW : Value) (r c : Nat) (L : List (Int × Int)) (w : World) (h : Row w X [ptr gA, ptr gB, ptr gp, ptr gq, vL, vW] 74) (hA : SideA w base gA bA gp vp r c L) :
    Calls Try.prog 29 #[.pointer (some ⟨X, 0, none⟩), .int .i64 0] w fun e w' => e = .returned (.bool true) ∧ Fr [] w w' := by
  have H := Lib.hid h; have HA := Lib.hid hA
  have c0 := h.cell' (j := 0) rfl
  have c2 := h.cell' (j := 2) rfl
  clear h hA
  obtain ⟨v, hv⟩ : ∃ v, v = (lk L ((c + 1 : Nat) : Int)).getD 0 := ⟨_, rfl⟩
  obtain ⟨ok, hok⟩ : ∃ ok, ok = (lk L ((c + 1 : Nat) : Int)).isSome := ⟨_, rfl⟩
  have PR : Hid (∀ W, Fr [] w W → Calls Try.prog 44 #[ptr gp] W fun e w' => e = .returned (.tuple #[.int .i64 v, .bool ok]) ∧ ∃ n, w' = W.drewN n) := Lib.hid fun W hW => by
    rw [hv, hok]; exact rfHead_any base gp vp r c L W (HA.out.2.1.fr0 hW)
  have PA : Hid (∀ W, Fr [] w W → Calls Try.prog 16 #[ptr gA] W fun e w' => e = .returned (.tuple #[.int .i64 v, .bool ok]) ∧ ∃ n, w' = W.drewN n) := Lib.hid fun W hW => by
    rw [hv, hok]; exact head_any gA bA r c (lk L) W (HA.out.1.fr0 hW)
  clear hv hok
  go_enter Try.func29, Try.ntmps29
  go_wp2_with fail
  refine (PR.out _ (Fr.refl _ _)).mono ?_
  rintro e w2 ⟨rfl, n2, rfl⟩
  go_wp2_with fail
  refine (PA.out _ ((Fr.refl _ _).drewN n2)).mono ?_
  rintro e w3 ⟨rfl, n3, rfl⟩
  go_wp2_with fail
  go_ret
  exact ⟨ret_bool (by simp), (Fr.refl _ _).drewN _⟩

set_option maxRecDepth 100000 in
set_option maxHeartbeats 4000000 in
theorem head1_any (base X gA gB bB gp gq : Nat) (vq vL vW : Value) (r c : Nat) (L : List (Int × Int)) (w : World) (h : Row w X [ptr gA, ptr gB, ptr gp, ptr gq, vL, vW] 74) (hB : SideB w base gB bB gq vq r c L) :
    Calls Try.prog 29 #[.pointer (some ⟨X, 0, none⟩), .int .i64 1] w fun e w' => e = .returned (.bool true) ∧ Fr [] w w' := by
  have H := Lib.hid h; have HB := Lib.hid hB
  have c1 := h.cell' (j := 1) rfl
  have c3 := h.cell' (j := 3) rfl
  clear h hB
  obtain ⟨v, hv⟩ : ∃ v, v = (lk L ((c + 1 : Nat) : Int)).getD 0 := ⟨_, rfl⟩
  obtain ⟨ok, hok⟩ : ∃ ok, ok = (lk L ((c + 1 : Nat) : Int)).isSome := ⟨_, rfl⟩
  have HV0 : Hid (ok = false → v = 0) := Lib.hid (fun h => by rw [hv]; rw [hok] at h; cases hh : lk L ((c + 1 : Nat) : Int) with | none => rfl | some x => rw [hh] at h; cases h)
  have PR : Hid (∀ W, Fr [] w W → Calls Try.prog 44 #[ptr gq] W fun e w' => e = .returned (.tuple #[.int .i64 v, .bool ok]) ∧ ∃ n, w' = W.drewN n) := Lib.hid fun W hW => by
    rw [hv, hok]; exact rfHead_any base gq vq r c L W (HB.out.2.1.fr0 hW)
  obtain ⟨m, hm⟩ : ∃ m, m = v.tmod 3 := ⟨_, rfl⟩
  obtain ⟨s, hs⟩ : ∃ s, s = wrap64 (-v) := ⟨_, rfl⟩
  have hop : opV v = .agg #[.int .i64 m, .int .i64 v, .int .u8 0, .int .i64 0, .int .i64 s] := by rw [hm, hs]; rfl
  have PB : Hid (∀ W, Fr [] w W → Calls Try.prog 45 #[ptr gB] W fun e w' => e = .returned (.tuple #[.agg #[.int .i64 m, .int .i64 v, .int .u8 0, .int .i64 0, .int .i64 s], .bool ok]) ∧ Fr [] W w') := Lib.hid fun W hW => by
    rw [← hop, hv, hok]; exact head_anyO gB bB r c (lk L) W (HB.out.1.fr0 hW)
  have PO : Hid (∀ W, Calls Try.prog 46 #[.int .i64 v] W fun e w' => e = .returned (.agg #[.int .i64 m, .int .i64 v, .int .u8 0, .int .i64 0, .int .i64 s]) ∧ Fr [] W w') := Lib.hid fun W => by
    rw [← hop]; exact op_any v W
  have HM0 : Hid (ok = false → m = 0 ∧ v = 0 ∧ s = 0) := Lib.hid (fun h => by have h0 := HV0.out h; rw [hm, hs, h0]; exact ⟨rfl, rfl, by kernel_rfl⟩)
  clear hv hok hm hs hop HV0
  go_enter Try.func29, Try.ntmps29
  go_wp2_with fail
  refine (PR.out _ (Fr.refl _ _)).mono ?_
  rintro e w2 ⟨rfl, n2, hw2⟩
  have hf2 : Fr [] w w2 := by rw [hw2]; exact (Fr.refl _ _).drewN n2
  have d1 := hf2.cell c1 (by simp)
  have HF2 := Lib.hid hf2
  clear hw2 hf2 c1 c3
  go_wp2_with fail
  refine (PB.out _ HF2.out).mono ?_
  rintro e w3 ⟨rfl, hf3⟩
  have HF3 := Lib.hid (HF2.out.trans0 hf3)
  clear hf3
  go_upto_region 6 with fail
  have hn := Row.new w3 [.int .i64 m, .int .i64 v, .int .u8 0, .int .i64 0, .int .i64 s] 93
  have hf := HF3.out.alloc (.cells #[.int .i64 m, .int .i64 v, .int .u8 0, .int .i64 0, .int .i64 s] 93)
  generalize w3.alloc (.cells #[.int .i64 m, .int .i64 v, .int .u8 0, .int .i64 0, .int .i64 s] 93) = w4 at hn hf ⊢
  generalize w3.heap.size = n0 at hn ⊢
  have HN4 := Lib.hid hn; have HF4 := Lib.hid hf
  have g0 := hn.cell' (j := 0) rfl
  have g1 := hn.cell' (j := 1) rfl
  have g2 := hn.cell' (j := 2) rfl
  have g3 := hn.cell' (j := 3) rfl
  have g4 := hn.cell' (j := 4) rfl
  clear hn hf HF3 HF2 d1
  cases ok with
  | false =>
    obtain ⟨rfl, rfl, rfl⟩ := HM0.out rfl
    have hbd : ∀ w, (Instr.build 93 #[]).run Try.prog w = .ok (.agg #[.int .i64 0, .int .i64 0, .int .u8 0, .int .i64 0, .int .i64 0]) w := fun w => run_build w _ _ _ (by kernel_rfl)
    go_wp2_with fail
    go_ret
    exact ⟨ret_bool (by simp), HF4.out⟩
  | true =>
    go_wp2_with fail
    go_region_held3 (fun w' => w'.cell? ⟨n0, 0, none⟩ = some (.int .i64 m) ∧ w'.cell? ⟨n0, 1, none⟩ = some (.int .i64 v) ∧ w'.cell? ⟨n0, 2, none⟩ = some (.int .u8 0) ∧ w'.cell? ⟨n0, 3, none⟩ = some (.int .i64 0) ∧ w'.cell? ⟨n0, 4, none⟩ = some (.int .i64 s)) (first | exact ⟨g0, g1, g2, g3, g4⟩ | exact ⟨q0, q1, q2, q3, q4⟩ | go_keep) (first
      | (go_at_call 46; refine (PO.out w4.drew).mono ?_; rintro e w5 ⟨rfl, hf5⟩; have q0 := hf5.cell (show w4.drew.cell? _ = _ from g0) (by simp); have q1 := hf5.cell (show w4.drew.cell? _ = _ from g1) (by simp); have q2 := hf5.cell (show w4.drew.cell? _ = _ from g2) (by simp); have q3 := hf5.cell (show w4.drew.cell? _ = _ from g3) (by simp); have q4 := hf5.cell (show w4.drew.cell? _ = _ from g4) (by simp); have HF5 : Hid (Fr [] w w5) := Lib.hid (HF4.out.drew.trans0 hf5); clear hf5))
    all_goals go_wp2_with fail
    all_goals go_ret
    all_goals exact ⟨ret_bool (by simp), HF5.out⟩
end Go.Proofs.Ytjhemoekmlhlpaa
