/- The contract of boxed: two empty inboxes and the document's. Printed by gen_boxed.py. -/
import Derived.Test.YtjhemoekmlhlpaaBoxS
namespace Go.Proofs.Ytjhemoekmlhlpaa
open Go Go.RowKit
set_option linter.unusedVariables false

theorem new_bad (r : Int) (w : World) (h : r < 1 ∨ 4096 < r) :
    Calls Try.prog 12 #[.int .i64 r] w fun e w' => e = .returned (.tuple #[.pointer none, .int .i64 90]) ∧ w = w' := by
  rcases Decidable.em (r < 1) with h1 | h1
  · clear h
    go_enter Try.func12, Try.ntmps12
    go_wp2_with fail
    go_ret2
    exact ⟨rfl, rfl⟩
  · have h2 : 4096 < r := by omega
    have h3 : ¬ r < 1 := by omega
    clear h h1
    go_enter Try.func12, Try.ntmps12
    go_wp2_with fail
    go_ret2
    exact ⟨rfl, rfl⟩
theorem new_badO (r : Int) (w : World) (h : r < 1 ∨ 4096 < r) :
    Calls Try.prog 41 #[.int .i64 r] w fun e w' => e = .returned (.tuple #[.pointer none, .int .i64 90]) ∧ w = w' := by
  rcases Decidable.em (r < 1) with h1 | h1
  · clear h
    go_enter Try.func41, Try.ntmps41
    go_wp2_with fail
    go_ret2
    exact ⟨rfl, rfl⟩
  · have h2 : 4096 < r := by omega
    have h3 : ¬ r < 1 := by omega
    clear h h1
    go_enter Try.func41, Try.ntmps41
    go_wp2_with fail
    go_ret2
    exact ⟨rfl, rfl⟩
theorem rfNew_bad (r : Int) (w : World) (h : r < 1 ∨ 4096 < r) :
    Calls Try.prog 40 #[.int .i64 r] w fun e w' => e = .returned (.tuple #[.pointer none, .int .i64 90]) ∧ w = w' := by
  rcases Decidable.em (r < 1) with h1 | h1
  · clear h
    go_enter Try.func40, Try.ntmps40
    go_wp2_with fail
    go_ret2
    exact ⟨rfl, rfl⟩
  · have h2 : 4096 < r := by omega
    have h3 : ¬ r < 1 := by omega
    clear h h1
    go_enter Try.func40, Try.ntmps40
    go_wp2_with fail
    go_ret2
    exact ⟨rfl, rfl⟩
theorem built_box (w : World) : (Instr.build 74 #[]).run Try.prog w = .ok (.agg #[.pointer none, .pointer none, .pointer none, .pointer none, .slice none 0 0, .slice none 0 0]) w := run_build w _ _ _ (by kernel_rfl)
theorem Lists.nil (w : World) (base : Nat) : Lists w base (.slice none 0 0) [] [] := ⟨World.ownsRow_nil _ _ _ _, fun i h => absurd h (by simp)⟩
set_option maxRecDepth 100000 in
set_option maxHeartbeats 8000000 in
theorem boxed_gg (r : Nat) (hr1 : 1 ≤ r) (hr2 : r ≤ 4096) (s : Nat) (hs1 : 1 ≤ s) (hs2 : s ≤ 4096) (w : World) :
    Calls Try.prog 26 #[.int .i64 r, .int .i64 s] w fun e w' => ∃ X gA bA r, e = .returned (.tuple #[.pointer (some ⟨X, 0, none⟩), .bool true]) ∧ BxI [] w' w.heap.size X gA bA r ∧ Fr [] w w' := by
  have hbd := built_box
  have A1 := Lib.hid hr1; have A2 := Lib.hid hr2
  clear hr1 hr2
  have B1 := Lib.hid hs1; have B2 := Lib.hid hs2
  clear hs1 hs2
  go_enter Try.func26, Try.ntmps26
  go_upto_region 2 with fail
  have hx0 := Row.new w [.pointer none, .pointer none, .pointer none, .pointer none, .slice none 0 0, .slice none 0 0] 74
  have hf0 := (Fr.refl [] w).alloc (.cells #[.pointer none, .pointer none, .pointer none, .pointer none, .slice none 0 0, .slice none 0 0] 74)
  generalize w.alloc (.cells #[.pointer none, .pointer none, .pointer none, .pointer none, .slice none 0 0, .slice none 0 0] 74) = w0 at hx0 hf0 ⊢
  generalize hX : w.heap.size = X at hx0 ⊢
  have HXX := Lib.hid hX
  clear hX
  have HX0 := Lib.hid hx0; have HF0 := Lib.hid hf0
  clear hx0 hf0
  go_wp2_with fail
  refine (new_ok r _ A1.out A2.out).mono ?_
  rintro e w1 ⟨gA, bA, rfl, hgA, hbA, hiA, hfA⟩
  have HGA := Lib.hid hgA; have HBA := Lib.hid hbA; have HIA := Lib.hid hiA; have HFA := Lib.hid hfA
  clear hgA hbA hiA hfA
  go_wp2_with fail
  refine (rfNew_ok r w.heap.size _ A1.out A2.out).mono ?_
  rintro e w2 ⟨gp, rfl, hgp, hrp, hfp⟩
  have HGP := Lib.hid hgp; have HRP := Lib.hid hrp; have HFP := Lib.hid hfp
  clear hgp hrp hfp
  go_wp2_with fail
  refine (new_okO s _ B1.out B2.out).mono ?_
  rintro e w3 ⟨gB, bB, rfl, hgB, hbB, hiB, hfB⟩
  have HGB := Lib.hid hgB; have HBB := Lib.hid hbB; have HIB := Lib.hid hiB; have HFB := Lib.hid hfB
  clear hgB hbB hiB hfB
  go_wp2_with fail
  refine (rfNew_ok s w.heap.size _ B1.out B2.out).mono ?_
  rintro e w4 ⟨gq, rfl, hgq, hrq, hfq⟩
  have hx4 := ((((HX0.out.fr HFA.out (by simp)).fr HFP.out (by simp)).fr HFB.out (by simp)).fr hfq (by simp))
  have HGQ := Lib.hid hgq; have HRQ := Lib.hid hrq; have HFQ := Lib.hid hfq; have HX4 := Lib.hid hx4
  have f0 := hx4.free 0
  have f1 := hx4.free 1
  have f2 := hx4.free 2
  have f3 := hx4.free 3
  have c0 := hx4.cell' (j := 0) rfl
  have c1 := hx4.cell' (j := 1) rfl
  have c2 := hx4.cell' (j := 2) rfl
  have c3 := hx4.cell' (j := 3) rfl
  clear hgq hrq hfq hx4
  go_wp2_with fail
  go_ret2
  have hrow := (((HX4.out.set 0 (ptr gA)).set 1 (ptr gB)).set 2 (ptr gp)).set 3 (ptr gq)
  have z0 := HF0.out.size
  have z1 := HFA.out.size
  have z2 := HFP.out.size
  have z3 := HFB.out.size
  have z4 := HFQ.out.size
  have g1 := HGA.out
  have g2 := HBA.out
  have g3 := HGP.out
  have g4 := HGB.out
  have g5 := HBB.out
  have g6 := HGQ.out
  have hS : Fr [X] w4 ((((w4.setCell ⟨X, 0, none⟩ (ptr gA)).setCell ⟨X, 1, none⟩ (ptr gB)).setCell ⟨X, 2, none⟩ (ptr gp)).setCell ⟨X, 3, none⟩ (ptr gq)) :=
    ((((Fr.refl [X] w4).setCell (a := ⟨X, 0, none⟩) _ (fun _ => by simp)).setCell (a := ⟨X, 1, none⟩) _ (fun _ => by simp)).setCell (a := ⟨X, 2, none⟩) _ (fun _ => by simp)).setCell (a := ⟨X, 3, none⟩) _ (fun _ => by simp)
  have hFW : Fr [] w4 w4 := Fr.refl _ _
  have i1 := HIA.out.fr0 (HFP.out.trans0 (HFB.out.trans0 HFQ.out))
  have i2 := HRP.out.fr0 (HFB.out.trans0 HFQ.out)
  have i3 := HIB.out.fr0 HFQ.out
  have i4 := HRQ.out
  have l1 := HIA.out.1.lt
  have l2 : bA < w1.heap.size := by obtain ⟨es, cl, he⟩ := HIA.out.2.1.block; exact (Array.getElem?_eq_some_iff.1 he).1
  have l3 := HRP.out.1.lt
  have kX : kd w4 X = 74 + 1 := HX4.out.kd
  have nx : ∀ y k, kd w4 y = k → k ≠ 74 + 1 → y ∉ [X] := fun y k hy hk hm => by simp at hm; subst hm; exact hk (hy.symm.trans kX)
  have hXw : w.heap.size = X := HXX.out
  refine ⟨X, gA, bA, r, rfl, ⟨gB, bB, gp, gq, .slice none 0 0, .slice none 0 0, .slice none 0 0, .slice none 0 0, 0, s, 0, [], [], [], [], [], ⟨⟨hrow, Lists.nil _ _, Lists.nil _ _, fun y hy => by cases hy⟩, by simp, ⟨?_, ?_, InR.nil _⟩, ⟨?_, ?_, InR.nil _⟩, ⟨by omega, by omega, fun y hy => by cases hy⟩, ⟨by omega, by omega, by omega, by omega, by omega, by omega, by omega⟩, ?_⟩, fun x hx => by rcases hx with hx | hx <;> cases hx⟩, ?_⟩
  · exact i1.fr hS (nx _ _ i1.1.kd (by decide)) (nx _ _ i1.2.1.kd (by decide))
  · exact ⟨i2.1.fr hS (nx _ _ i2.1.kd (by decide)), World.ownsRow_nil _ _ _ _, i2.2.2⟩
  · exact i3.fr hS (nx _ _ i3.1.kd (by decide)) (nx _ _ i3.2.1.kd (by decide))
  · exact ⟨i4.1.fr hS (nx _ _ i4.1.kd (by decide)), World.ownsRow_nil _ _ _ _, i4.2.2⟩
  · exact Nat.le_trans (show w.heap.size ≤ w4.heap.size by omega) hS.size
  · exact (HF0.out.trans0 (HFA.out.trans0 (HFP.out.trans0 (HFB.out.trans0 HFQ.out)))).trans hS (fun b hb hl => by simp at hb; omega)
set_option maxRecDepth 100000 in
set_option maxHeartbeats 8000000 in
theorem boxed_gb (r : Nat) (hr1 : 1 ≤ r) (hr2 : r ≤ 4096) (s : Int) (hs : s < 1 ∨ 4096 < s) (w : World) :
    Calls Try.prog 26 #[.int .i64 r, .int .i64 s] w fun e w' => ∃ X gA bA r, e = .returned (.tuple #[.pointer (some ⟨X, 0, none⟩), .bool true]) ∧ BxI [] w' w.heap.size X gA bA r ∧ Fr [] w w' := by
  have hbd := built_box
  have A1 := Lib.hid hr1; have A2 := Lib.hid hr2
  clear hr1 hr2
  have B1 : Hid (1 ≤ 3) := Lib.hid (by omega); have B2 : Hid (3 ≤ 4096) := Lib.hid (by omega); have BB := Lib.hid hs
  clear hs
  go_enter Try.func26, Try.ntmps26
  go_upto_region 2 with fail
  have hx0 := Row.new w [.pointer none, .pointer none, .pointer none, .pointer none, .slice none 0 0, .slice none 0 0] 74
  have hf0 := (Fr.refl [] w).alloc (.cells #[.pointer none, .pointer none, .pointer none, .pointer none, .slice none 0 0, .slice none 0 0] 74)
  generalize w.alloc (.cells #[.pointer none, .pointer none, .pointer none, .pointer none, .slice none 0 0, .slice none 0 0] 74) = w0 at hx0 hf0 ⊢
  generalize hX : w.heap.size = X at hx0 ⊢
  have HXX := Lib.hid hX
  clear hX
  have HX0 := Lib.hid hx0; have HF0 := Lib.hid hf0
  clear hx0 hf0
  go_wp2_with fail
  refine (new_ok r _ A1.out A2.out).mono ?_
  rintro e w1 ⟨gA, bA, rfl, hgA, hbA, hiA, hfA⟩
  have HGA := Lib.hid hgA; have HBA := Lib.hid hbA; have HIA := Lib.hid hiA; have HFA := Lib.hid hfA
  clear hgA hbA hiA hfA
  go_wp2_with fail
  refine (rfNew_ok r w.heap.size _ A1.out A2.out).mono ?_
  rintro e w2 ⟨gp, rfl, hgp, hrp, hfp⟩
  have HGP := Lib.hid hgp; have HRP := Lib.hid hrp; have HFP := Lib.hid hfp
  clear hgp hrp hfp
  go_wp2_with fail
  refine (new_badO _ _ BB.out).mono ?_
  rintro e w' ⟨rfl, hw'⟩
  subst hw'
  go_wp2_with fail
  refine (rfNew_bad _ _ BB.out).mono ?_
  rintro e w' ⟨rfl, hw'⟩
  subst hw'
  go_wp2_with fail
  refine (new_okO 3 _ B1.out B2.out).mono ?_
  rintro e w3 ⟨gB, bB, rfl, hgB, hbB, hiB, hfB⟩
  have HGB := Lib.hid hgB; have HBB := Lib.hid hbB; have HIB := Lib.hid hiB; have HFB := Lib.hid hfB
  clear hgB hbB hiB hfB
  go_wp2_with fail
  refine (rfNew_ok 3 w.heap.size _ B1.out B2.out).mono ?_
  rintro e w4 ⟨gq, rfl, hgq, hrq, hfq⟩
  have hx4 := ((((HX0.out.fr HFA.out (by simp)).fr HFP.out (by simp)).fr HFB.out (by simp)).fr hfq (by simp))
  have HGQ := Lib.hid hgq; have HRQ := Lib.hid hrq; have HFQ := Lib.hid hfq; have HX4 := Lib.hid hx4
  have f0 := hx4.free 0
  have f1 := hx4.free 1
  have f2 := hx4.free 2
  have f3 := hx4.free 3
  have c0 := hx4.cell' (j := 0) rfl
  have c1 := hx4.cell' (j := 1) rfl
  have c2 := hx4.cell' (j := 2) rfl
  have c3 := hx4.cell' (j := 3) rfl
  clear hgq hrq hfq hx4
  go_wp2_with fail
  go_ret2
  have hrow := (((HX4.out.set 0 (ptr gA)).set 1 (ptr gB)).set 2 (ptr gp)).set 3 (ptr gq)
  have z0 := HF0.out.size
  have z1 := HFA.out.size
  have z2 := HFP.out.size
  have z3 := HFB.out.size
  have z4 := HFQ.out.size
  have g1 := HGA.out
  have g2 := HBA.out
  have g3 := HGP.out
  have g4 := HGB.out
  have g5 := HBB.out
  have g6 := HGQ.out
  have hS : Fr [X] w4 ((((w4.setCell ⟨X, 0, none⟩ (ptr gA)).setCell ⟨X, 1, none⟩ (ptr gB)).setCell ⟨X, 2, none⟩ (ptr gp)).setCell ⟨X, 3, none⟩ (ptr gq)) :=
    ((((Fr.refl [X] w4).setCell (a := ⟨X, 0, none⟩) _ (fun _ => by simp)).setCell (a := ⟨X, 1, none⟩) _ (fun _ => by simp)).setCell (a := ⟨X, 2, none⟩) _ (fun _ => by simp)).setCell (a := ⟨X, 3, none⟩) _ (fun _ => by simp)
  have hFW : Fr [] w4 w4 := Fr.refl _ _
  have i1 := HIA.out.fr0 (HFP.out.trans0 (HFB.out.trans0 HFQ.out))
  have i2 := HRP.out.fr0 (HFB.out.trans0 HFQ.out)
  have i3 := HIB.out.fr0 HFQ.out
  have i4 := HRQ.out
  have l1 := HIA.out.1.lt
  have l2 : bA < w1.heap.size := by obtain ⟨es, cl, he⟩ := HIA.out.2.1.block; exact (Array.getElem?_eq_some_iff.1 he).1
  have l3 := HRP.out.1.lt
  have kX : kd w4 X = 74 + 1 := HX4.out.kd
  have nx : ∀ y k, kd w4 y = k → k ≠ 74 + 1 → y ∉ [X] := fun y k hy hk hm => by simp at hm; subst hm; exact hk (hy.symm.trans kX)
  have hXw : w.heap.size = X := HXX.out
  refine ⟨X, gA, bA, r, rfl, ⟨gB, bB, gp, gq, .slice none 0 0, .slice none 0 0, .slice none 0 0, .slice none 0 0, 0, 3, 0, [], [], [], [], [], ⟨⟨hrow, Lists.nil _ _, Lists.nil _ _, fun y hy => by cases hy⟩, by simp, ⟨?_, ?_, InR.nil _⟩, ⟨?_, ?_, InR.nil _⟩, ⟨by omega, by omega, fun y hy => by cases hy⟩, ⟨by omega, by omega, by omega, by omega, by omega, by omega, by omega⟩, ?_⟩, fun x hx => by rcases hx with hx | hx <;> cases hx⟩, ?_⟩
  · exact i1.fr hS (nx _ _ i1.1.kd (by decide)) (nx _ _ i1.2.1.kd (by decide))
  · exact ⟨i2.1.fr hS (nx _ _ i2.1.kd (by decide)), World.ownsRow_nil _ _ _ _, i2.2.2⟩
  · exact i3.fr hS (nx _ _ i3.1.kd (by decide)) (nx _ _ i3.2.1.kd (by decide))
  · exact ⟨i4.1.fr hS (nx _ _ i4.1.kd (by decide)), World.ownsRow_nil _ _ _ _, i4.2.2⟩
  · exact Nat.le_trans (show w.heap.size ≤ w4.heap.size by omega) hS.size
  · exact (HF0.out.trans0 (HFA.out.trans0 (HFP.out.trans0 (HFB.out.trans0 HFQ.out)))).trans hS (fun b hb hl => by simp at hb; omega)
set_option maxRecDepth 100000 in
set_option maxHeartbeats 8000000 in
theorem boxed_bg (r : Int) (hr : r < 1 ∨ 4096 < r) (s : Nat) (hs1 : 1 ≤ s) (hs2 : s ≤ 4096) (w : World) :
    Calls Try.prog 26 #[.int .i64 r, .int .i64 s] w fun e w' => ∃ X gA bA r, e = .returned (.tuple #[.pointer (some ⟨X, 0, none⟩), .bool true]) ∧ BxI [] w' w.heap.size X gA bA r ∧ Fr [] w w' := by
  have hbd := built_box
  have A1 : Hid (1 ≤ 3) := Lib.hid (by omega); have A2 : Hid (3 ≤ 4096) := Lib.hid (by omega); have AB := Lib.hid hr
  clear hr
  have B1 := Lib.hid hs1; have B2 := Lib.hid hs2
  clear hs1 hs2
  go_enter Try.func26, Try.ntmps26
  go_upto_region 2 with fail
  have hx0 := Row.new w [.pointer none, .pointer none, .pointer none, .pointer none, .slice none 0 0, .slice none 0 0] 74
  have hf0 := (Fr.refl [] w).alloc (.cells #[.pointer none, .pointer none, .pointer none, .pointer none, .slice none 0 0, .slice none 0 0] 74)
  generalize w.alloc (.cells #[.pointer none, .pointer none, .pointer none, .pointer none, .slice none 0 0, .slice none 0 0] 74) = w0 at hx0 hf0 ⊢
  generalize hX : w.heap.size = X at hx0 ⊢
  have HXX := Lib.hid hX
  clear hX
  have HX0 := Lib.hid hx0; have HF0 := Lib.hid hf0
  clear hx0 hf0
  go_wp2_with fail
  refine (new_bad _ _ AB.out).mono ?_
  rintro e w' ⟨rfl, hw'⟩
  subst hw'
  go_wp2_with fail
  refine (rfNew_bad _ _ AB.out).mono ?_
  rintro e w' ⟨rfl, hw'⟩
  subst hw'
  go_wp2_with fail
  refine (new_ok 3 _ A1.out A2.out).mono ?_
  rintro e w1 ⟨gA, bA, rfl, hgA, hbA, hiA, hfA⟩
  have HGA := Lib.hid hgA; have HBA := Lib.hid hbA; have HIA := Lib.hid hiA; have HFA := Lib.hid hfA
  clear hgA hbA hiA hfA
  go_wp2_with fail
  refine (rfNew_ok 3 w.heap.size _ A1.out A2.out).mono ?_
  rintro e w2 ⟨gp, rfl, hgp, hrp, hfp⟩
  have HGP := Lib.hid hgp; have HRP := Lib.hid hrp; have HFP := Lib.hid hfp
  clear hgp hrp hfp
  go_wp2_with fail
  refine (new_okO s _ B1.out B2.out).mono ?_
  rintro e w3 ⟨gB, bB, rfl, hgB, hbB, hiB, hfB⟩
  have HGB := Lib.hid hgB; have HBB := Lib.hid hbB; have HIB := Lib.hid hiB; have HFB := Lib.hid hfB
  clear hgB hbB hiB hfB
  go_wp2_with fail
  refine (rfNew_ok s w.heap.size _ B1.out B2.out).mono ?_
  rintro e w4 ⟨gq, rfl, hgq, hrq, hfq⟩
  have hx4 := ((((HX0.out.fr HFA.out (by simp)).fr HFP.out (by simp)).fr HFB.out (by simp)).fr hfq (by simp))
  have HGQ := Lib.hid hgq; have HRQ := Lib.hid hrq; have HFQ := Lib.hid hfq; have HX4 := Lib.hid hx4
  have f0 := hx4.free 0
  have f1 := hx4.free 1
  have f2 := hx4.free 2
  have f3 := hx4.free 3
  have c0 := hx4.cell' (j := 0) rfl
  have c1 := hx4.cell' (j := 1) rfl
  have c2 := hx4.cell' (j := 2) rfl
  have c3 := hx4.cell' (j := 3) rfl
  clear hgq hrq hfq hx4
  go_wp2_with fail
  go_ret2
  have hrow := (((HX4.out.set 0 (ptr gA)).set 1 (ptr gB)).set 2 (ptr gp)).set 3 (ptr gq)
  have z0 := HF0.out.size
  have z1 := HFA.out.size
  have z2 := HFP.out.size
  have z3 := HFB.out.size
  have z4 := HFQ.out.size
  have g1 := HGA.out
  have g2 := HBA.out
  have g3 := HGP.out
  have g4 := HGB.out
  have g5 := HBB.out
  have g6 := HGQ.out
  have hS : Fr [X] w4 ((((w4.setCell ⟨X, 0, none⟩ (ptr gA)).setCell ⟨X, 1, none⟩ (ptr gB)).setCell ⟨X, 2, none⟩ (ptr gp)).setCell ⟨X, 3, none⟩ (ptr gq)) :=
    ((((Fr.refl [X] w4).setCell (a := ⟨X, 0, none⟩) _ (fun _ => by simp)).setCell (a := ⟨X, 1, none⟩) _ (fun _ => by simp)).setCell (a := ⟨X, 2, none⟩) _ (fun _ => by simp)).setCell (a := ⟨X, 3, none⟩) _ (fun _ => by simp)
  have hFW : Fr [] w4 w4 := Fr.refl _ _
  have i1 := HIA.out.fr0 (HFP.out.trans0 (HFB.out.trans0 HFQ.out))
  have i2 := HRP.out.fr0 (HFB.out.trans0 HFQ.out)
  have i3 := HIB.out.fr0 HFQ.out
  have i4 := HRQ.out
  have l1 := HIA.out.1.lt
  have l2 : bA < w1.heap.size := by obtain ⟨es, cl, he⟩ := HIA.out.2.1.block; exact (Array.getElem?_eq_some_iff.1 he).1
  have l3 := HRP.out.1.lt
  have kX : kd w4 X = 74 + 1 := HX4.out.kd
  have nx : ∀ y k, kd w4 y = k → k ≠ 74 + 1 → y ∉ [X] := fun y k hy hk hm => by simp at hm; subst hm; exact hk (hy.symm.trans kX)
  have hXw : w.heap.size = X := HXX.out
  refine ⟨X, gA, bA, 3, rfl, ⟨gB, bB, gp, gq, .slice none 0 0, .slice none 0 0, .slice none 0 0, .slice none 0 0, 0, s, 0, [], [], [], [], [], ⟨⟨hrow, Lists.nil _ _, Lists.nil _ _, fun y hy => by cases hy⟩, by simp, ⟨?_, ?_, InR.nil _⟩, ⟨?_, ?_, InR.nil _⟩, ⟨by omega, by omega, fun y hy => by cases hy⟩, ⟨by omega, by omega, by omega, by omega, by omega, by omega, by omega⟩, ?_⟩, fun x hx => by rcases hx with hx | hx <;> cases hx⟩, ?_⟩
  · exact i1.fr hS (nx _ _ i1.1.kd (by decide)) (nx _ _ i1.2.1.kd (by decide))
  · exact ⟨i2.1.fr hS (nx _ _ i2.1.kd (by decide)), World.ownsRow_nil _ _ _ _, i2.2.2⟩
  · exact i3.fr hS (nx _ _ i3.1.kd (by decide)) (nx _ _ i3.2.1.kd (by decide))
  · exact ⟨i4.1.fr hS (nx _ _ i4.1.kd (by decide)), World.ownsRow_nil _ _ _ _, i4.2.2⟩
  · exact Nat.le_trans (show w.heap.size ≤ w4.heap.size by omega) hS.size
  · exact (HF0.out.trans0 (HFA.out.trans0 (HFP.out.trans0 (HFB.out.trans0 HFQ.out)))).trans hS (fun b hb hl => by simp at hb; omega)
set_option maxRecDepth 100000 in
set_option maxHeartbeats 8000000 in
theorem boxed_bb (r : Int) (hr : r < 1 ∨ 4096 < r) (s : Int) (hs : s < 1 ∨ 4096 < s) (w : World) :
    Calls Try.prog 26 #[.int .i64 r, .int .i64 s] w fun e w' => ∃ X gA bA r, e = .returned (.tuple #[.pointer (some ⟨X, 0, none⟩), .bool true]) ∧ BxI [] w' w.heap.size X gA bA r ∧ Fr [] w w' := by
  have hbd := built_box
  have A1 : Hid (1 ≤ 3) := Lib.hid (by omega); have A2 : Hid (3 ≤ 4096) := Lib.hid (by omega); have AB := Lib.hid hr
  clear hr
  have B1 : Hid (1 ≤ 3) := Lib.hid (by omega); have B2 : Hid (3 ≤ 4096) := Lib.hid (by omega); have BB := Lib.hid hs
  clear hs
  go_enter Try.func26, Try.ntmps26
  go_upto_region 2 with fail
  have hx0 := Row.new w [.pointer none, .pointer none, .pointer none, .pointer none, .slice none 0 0, .slice none 0 0] 74
  have hf0 := (Fr.refl [] w).alloc (.cells #[.pointer none, .pointer none, .pointer none, .pointer none, .slice none 0 0, .slice none 0 0] 74)
  generalize w.alloc (.cells #[.pointer none, .pointer none, .pointer none, .pointer none, .slice none 0 0, .slice none 0 0] 74) = w0 at hx0 hf0 ⊢
  generalize hX : w.heap.size = X at hx0 ⊢
  have HXX := Lib.hid hX
  clear hX
  have HX0 := Lib.hid hx0; have HF0 := Lib.hid hf0
  clear hx0 hf0
  go_wp2_with fail
  refine (new_bad _ _ AB.out).mono ?_
  rintro e w' ⟨rfl, hw'⟩
  subst hw'
  go_wp2_with fail
  refine (rfNew_bad _ _ AB.out).mono ?_
  rintro e w' ⟨rfl, hw'⟩
  subst hw'
  go_wp2_with fail
  refine (new_ok 3 _ A1.out A2.out).mono ?_
  rintro e w1 ⟨gA, bA, rfl, hgA, hbA, hiA, hfA⟩
  have HGA := Lib.hid hgA; have HBA := Lib.hid hbA; have HIA := Lib.hid hiA; have HFA := Lib.hid hfA
  clear hgA hbA hiA hfA
  go_wp2_with fail
  refine (rfNew_ok 3 w.heap.size _ A1.out A2.out).mono ?_
  rintro e w2 ⟨gp, rfl, hgp, hrp, hfp⟩
  have HGP := Lib.hid hgp; have HRP := Lib.hid hrp; have HFP := Lib.hid hfp
  clear hgp hrp hfp
  go_wp2_with fail
  refine (new_badO _ _ BB.out).mono ?_
  rintro e w' ⟨rfl, hw'⟩
  subst hw'
  go_wp2_with fail
  refine (rfNew_bad _ _ BB.out).mono ?_
  rintro e w' ⟨rfl, hw'⟩
  subst hw'
  go_wp2_with fail
  refine (new_okO 3 _ B1.out B2.out).mono ?_
  rintro e w3 ⟨gB, bB, rfl, hgB, hbB, hiB, hfB⟩
  have HGB := Lib.hid hgB; have HBB := Lib.hid hbB; have HIB := Lib.hid hiB; have HFB := Lib.hid hfB
  clear hgB hbB hiB hfB
  go_wp2_with fail
  refine (rfNew_ok 3 w.heap.size _ B1.out B2.out).mono ?_
  rintro e w4 ⟨gq, rfl, hgq, hrq, hfq⟩
  have hx4 := ((((HX0.out.fr HFA.out (by simp)).fr HFP.out (by simp)).fr HFB.out (by simp)).fr hfq (by simp))
  have HGQ := Lib.hid hgq; have HRQ := Lib.hid hrq; have HFQ := Lib.hid hfq; have HX4 := Lib.hid hx4
  have f0 := hx4.free 0
  have f1 := hx4.free 1
  have f2 := hx4.free 2
  have f3 := hx4.free 3
  have c0 := hx4.cell' (j := 0) rfl
  have c1 := hx4.cell' (j := 1) rfl
  have c2 := hx4.cell' (j := 2) rfl
  have c3 := hx4.cell' (j := 3) rfl
  clear hgq hrq hfq hx4
  go_wp2_with fail
  go_ret2
  have hrow := (((HX4.out.set 0 (ptr gA)).set 1 (ptr gB)).set 2 (ptr gp)).set 3 (ptr gq)
  have z0 := HF0.out.size
  have z1 := HFA.out.size
  have z2 := HFP.out.size
  have z3 := HFB.out.size
  have z4 := HFQ.out.size
  have g1 := HGA.out
  have g2 := HBA.out
  have g3 := HGP.out
  have g4 := HGB.out
  have g5 := HBB.out
  have g6 := HGQ.out
  have hS : Fr [X] w4 ((((w4.setCell ⟨X, 0, none⟩ (ptr gA)).setCell ⟨X, 1, none⟩ (ptr gB)).setCell ⟨X, 2, none⟩ (ptr gp)).setCell ⟨X, 3, none⟩ (ptr gq)) :=
    ((((Fr.refl [X] w4).setCell (a := ⟨X, 0, none⟩) _ (fun _ => by simp)).setCell (a := ⟨X, 1, none⟩) _ (fun _ => by simp)).setCell (a := ⟨X, 2, none⟩) _ (fun _ => by simp)).setCell (a := ⟨X, 3, none⟩) _ (fun _ => by simp)
  have hFW : Fr [] w4 w4 := Fr.refl _ _
  have i1 := HIA.out.fr0 (HFP.out.trans0 (HFB.out.trans0 HFQ.out))
  have i2 := HRP.out.fr0 (HFB.out.trans0 HFQ.out)
  have i3 := HIB.out.fr0 HFQ.out
  have i4 := HRQ.out
  have l1 := HIA.out.1.lt
  have l2 : bA < w1.heap.size := by obtain ⟨es, cl, he⟩ := HIA.out.2.1.block; exact (Array.getElem?_eq_some_iff.1 he).1
  have l3 := HRP.out.1.lt
  have kX : kd w4 X = 74 + 1 := HX4.out.kd
  have nx : ∀ y k, kd w4 y = k → k ≠ 74 + 1 → y ∉ [X] := fun y k hy hk hm => by simp at hm; subst hm; exact hk (hy.symm.trans kX)
  have hXw : w.heap.size = X := HXX.out
  refine ⟨X, gA, bA, 3, rfl, ⟨gB, bB, gp, gq, .slice none 0 0, .slice none 0 0, .slice none 0 0, .slice none 0 0, 0, 3, 0, [], [], [], [], [], ⟨⟨hrow, Lists.nil _ _, Lists.nil _ _, fun y hy => by cases hy⟩, by simp, ⟨?_, ?_, InR.nil _⟩, ⟨?_, ?_, InR.nil _⟩, ⟨by omega, by omega, fun y hy => by cases hy⟩, ⟨by omega, by omega, by omega, by omega, by omega, by omega, by omega⟩, ?_⟩, fun x hx => by rcases hx with hx | hx <;> cases hx⟩, ?_⟩
  · exact i1.fr hS (nx _ _ i1.1.kd (by decide)) (nx _ _ i1.2.1.kd (by decide))
  · exact ⟨i2.1.fr hS (nx _ _ i2.1.kd (by decide)), World.ownsRow_nil _ _ _ _, i2.2.2⟩
  · exact i3.fr hS (nx _ _ i3.1.kd (by decide)) (nx _ _ i3.2.1.kd (by decide))
  · exact ⟨i4.1.fr hS (nx _ _ i4.1.kd (by decide)), World.ownsRow_nil _ _ _ _, i4.2.2⟩
  · exact Nat.le_trans (show w.heap.size ≤ w4.heap.size by omega) hS.size
  · exact (HF0.out.trans0 (HFA.out.trans0 (HFP.out.trans0 (HFB.out.trans0 HFQ.out)))).trans hS (fun b hb hl => by simp at hb; omega)
theorem boxed_ok (r s : Int) (w : World) (hr : (Lit.int .i64 r).wf = true) (hs : (Lit.int .i64 s).wf = true) :
    Calls Try.prog 26 #[.int .i64 r, .int .i64 s] w fun e w' => ∃ X gA bA r, e = .returned (.tuple #[.pointer (some ⟨X, 0, none⟩), .bool true]) ∧ BxI [] w' w.heap.size X gA bA r ∧ Fr [] w w' := by
  by_cases h1 : r < 1 ∨ 4096 < r
  · by_cases h2 : s < 1 ∨ 4096 < s
    · exact boxed_bb r h1 s h2 w
    · obtain ⟨n, rfl⟩ : ∃ n : Nat, s = (n : Int) := ⟨s.toNat, by omega⟩
      exact boxed_bg r h1 n (by omega) (by omega) w
  · obtain ⟨m, rfl⟩ : ∃ m : Nat, r = (m : Int) := ⟨r.toNat, by omega⟩
    by_cases h2 : s < 1 ∨ 4096 < s
    · exact boxed_gb m (by omega) (by omega) s h2 w
    · obtain ⟨n, rfl⟩ : ∃ n : Nat, s = (n : Int) := ⟨s.toNat, by omega⟩
      exact boxed_gg m (by omega) (by omega) n (by omega) (by omega) w
end Go.Proofs.Ytjhemoekmlhlpaa
