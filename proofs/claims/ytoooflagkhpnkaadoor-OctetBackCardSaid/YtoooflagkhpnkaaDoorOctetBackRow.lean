/- The row of jotterlaw01.OctetBack: for every input the law returns true, and every argument reads afterwards as it read before; the card ties the listed variables to the program's text. -/
import Derived.Test.YtoooflagkhpnkaaDoorRows
import Derived.Test.YtoooflagkhpnkaaDoorLaid
import Derived.Test.YtoooflagkhpnkaaDoorTie
import Derived.Test.YtoooflagkhpnkaaDoorCards
import Derived.SevenTiedAt
import Derived.Test.YtoooflagkhpnkaaDoorOpen
import Derived.Test.YtoooflagkhpnkaaDoorBackW
import Derived.WalkKit
import Derived.ProofKit
import Derived.OpenShut
import Derived.ShutString
import Derived.ChangeOld
import Derived.Below
namespace Go.Proofs.YtoooflagkhpnkaaDoor.octetBack
open Go Go.ChangeShapes Go.WideShapes Go.ChangeAt Go.RowKit
open Go.ChangeMaps (open_string shut_string)
set_option linter.unusedVariables false

set_option maxRecDepth 100000 in
theorem lifted (os : Os) (started : os.Started) (H : Type) (enc : TypeId × Value → H) :
    ReturnsInHanded {} Tryd.checked os 12 .any (fun w args => (Rows.octetBackSpec.pre enc Tryd.prog Tryd.f12 [] false w args ∧ laidMetH Tryd.prog L3 w) ∧ sizedMet enc Tryd.prog Tryd.f12 (OpenSpec.ofChange Rows.octetBackSpec) false w args)
      (Rows.octetBackSpec.post enc Tryd.prog Tryd.f12 false true false false) := by
  refine returnsInHanded_of_change_and (C := Tryd.checked) (X := fun w _ => laidMetH Tryd.prog L3 w) (fun _ _ _ hh h => h.of_heap hh) own started (by kernel_rfl) Tryd.func12
    (ChangeSpec.witness_at (enc := enc) (C := Tryd.checked) (os := os) (X := fun w _ => laidMetH Tryd.prog L3 w) false (laidWorld os) #[.slice none 0 0, .slice none 0 0] 8 rfl (by kernel_rfl) (by kernel_rfl) (by kernel_rfl) (by kernel_rfl) (by kernel_rfl) (met3 os _)) ?_
  intro W base args ds gs before hval0 hW hcnd _ hL hsz
  have hval : ∀ (j : Nat) t v, Tryd.f12.params[j]? = some t → args[j]? = some v → Value.okWide Tryd.prog W .any base t v := hval0
  have hW' := hW
  obtain ⟨p, q, hA0, hV, rfl, hfz, hnd⟩ := hW
  have hA : DataW.TrodAll enc Tryd.prog W 0 (fun _ => true) true Tryd.f12.params.toList args.toList ds p := hA0
  rw [Tryd.params12] at hA hval
  obtain ⟨v0, vs0, d0, ds0, p0, q0, hargs, rfl, rfl, h0, r0⟩ := trodAll_cons hA
  obtain ⟨v1, vs1, d1, ds1, p1, q1, rfl, rfl, rfl, h1, r1⟩ := trodAll_cons r0
  obtain ⟨rfl, rfl, rfl⟩ := trodAll_nil r1
  obtain rfl : args = #[v0, v1] := by cases args; simp_all
  obtain ⟨rfl, rfl⟩ := trodVars_none hV
  have k0 := h0
  have lt0 : ∀ x ∈ p0, x.block < W.heap.size := by obtain ⟨m, hm⟩ := k0; exact DataW.trod_lt m _ _ _ hm
  obtain ⟨a0, l0, c0, rfl, b0, m0, s0⟩ := open_ops (hval 0 51 v0 rfl rfl) h0
  have k1 := h1
  have lt1 : ∀ x ∈ p1, x.block < W.heap.size := by obtain ⟨m, hm⟩ := k1; exact DataW.trod_lt m _ _ _ hm
  obtain ⟨a1, l1, c1, rfl, b1, m1, s1⟩ := open_bytes (hval 1 22 v1 rfl rfl) h1
  clear hA0 hval0
  refine (octetBack_walk a0 l0 c0 s0 b0 m0 a1 l1 c1 s1 b1 m1 (w := W) (l3_of hL)).mono fun e W' ⟨he, fr⟩ => ?_
  subst he
  have bel : Below W.heap.size W W' := fr.below
  exact ⟨_, rfl, _, _, _, [], _, [], hW', trodAll_mk1 (shut_bool Tryd.underlying4 _), (trodAll_cons_mk (Below.trod laidOut (by kernel_rfl) (of_decide_eq_true (by kernel_rfl)) k0 bel lt0) (trodAll_cons_mk (Below.trod laidOut (by kernel_rfl) (of_decide_eq_true (by kernel_rfl)) k1 bel lt1) trodAll_mk0)), rfl, bel.frame _, fun h => by cases h⟩

theorem over : Rows.octetBackRow.holds Tryd.pinned (OpenSpec.ofChange Rows.octetBackSpec) :=
  OpenClaim.holds_of_wide 12 Tryd.f12 rfl rfl rfl rfl rfl rfl rfl ⟨rfl, rfl, rfl, rfl, rfl⟩ rfl rfl rfl rfl rfl (by kernel_rfl) Tryd.func12 (by kernel_rfl)
    (of_decide_eq_true (by kernel_rfl)) (by unfold Func.isWrapper; first | (rw [if_pos (by decide +kernel)]; kernel_rfl) | (rw [if_neg (by decide +kernel)]; exact ⟨rfl, rfl⟩))
    (fun os started H enc _ => lifted os started H enc)

theorem wants (j : Nat) (t : TypeId) (ht : Tryd.f12.params[j]? = some t) : Tryd.prog.wantsStandIn t = false := by
  rw [Tryd.params12] at ht
  have h : t = 51 ∨ t = 22 := by
    match j, ht with
    | 0, ht => simp at ht; subst ht; simp
    | 1, ht => simp at ht; subst ht; simp
    | j + 2, ht => simp at ht
  rcases h with rfl | rfl
  · exact (show Tryd.prog.wantsStandIn 51 = false by kernel_rfl)
  · exact (show Tryd.prog.wantsStandIn 22 = false by kernel_rfl)

theorem proved : Rows.OctetBackCardSaid :=
  Claim7.holds_tied_plain_at .later [] [.handle] true Rows.octetBackCard.stood.harness true
    over (fun _ h => by cases h) (by kernel_rfl) (fun _ h => by cases h) octetBack_row_tie rfl ⟨rfl, rfl⟩ (by kernel_rfl) rfl
    (fun f fn hf hfn => by
      obtain rfl : f = 12 := Option.some.inj ((show Tryd.prog.funcNamed "jotter/jotterlaw01.OctetBack" = some 12 by kernel_rfl).symm.trans hf) |>.symm
      obtain rfl : fn = Tryd.f12 := (Option.some.inj (Tryd.func12.symm.trans hfn)).symm
      exact ⟨by kernel_rfl, fun j t ht => wants j t ht⟩)
    (by kernel_rfl)

#print axioms proved
end Go.Proofs.YtoooflagkhpnkaaDoor.octetBack
