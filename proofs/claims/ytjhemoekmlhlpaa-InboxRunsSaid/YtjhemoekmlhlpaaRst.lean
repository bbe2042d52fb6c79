/- inbox.Inbox[int]'s Reset: the map is emptied. -/
import Derived.Test.YtjhemoekmlhlpaaOrdA
import Derived.RangeFuncOwn
namespace Go.Proofs.Ytjhemoekmlhlpaa
open Go Go.RowKit Go.Maps
set_option linter.unusedVariables false

theorem MapF.clear {w : World} {b : Nat} {f : Int → Option Int} (h : MapF w b f) (ty : TypeId) :
    ∃ w', (Builtin.clear_ #[80] ty #[.map (some b)]).run Try.prog w = .ok (.tuple #[]) w' ∧ MapF w' b (fun _ => none) ∧ Fr [b] w w' := by
  obtain ⟨es, cl, hb⟩ := h.block
  have hlt : b < w.heap.size := (Array.getElem?_eq_some_iff.1 hb).1
  refine ⟨w.putObj b (.map #[] cl), ?_, ⟨.map [], ⟨0, #[], cl, World.putObj_heap_same hlt, ⟨by simp, MapKept.stamped_empty cl, by simp⟩, Nat.le_refl _, rfl⟩, (fun k => by rw [has_eq]; rfl), (fun k v (h : none = some v) => nomatch h), (fun l (h : Maps.has (.map []) l = true) => by rw [has_eq] at h; cases h)⟩, Fr.ofGrown (grownBy_putObj' w b _) (fun x hx _ => by cases hx; simp)⟩
  simp [Builtin.clear_, Sem.run_bind, run_underlying Try.underlying80, getObj, setObj, Sem.run, hb, Result.andThen, World.putObj]
set_option maxRecDepth 100000 in
set_option maxHeartbeats 2000000 in
theorem reset_any (g b r cum : Nat) (f : Int → Option Int) (w : World) (h : Ibx w g b r cum f) :
    Calls Try.prog 62 #[.pointer (some ⟨g, 0, none⟩)] w fun e w' => e = .returned (.tuple #[]) ∧ Ibx w' g b r 0 (fun _ => none) ∧ Fr [g, b] w w' := by
  have H := Lib.hid h
  have e1 := h.1.cell' (j := 1) rfl
  have f1 := h.1.free 1
  have e2 := h.1.cell' (j := 2) rfl
  obtain ⟨w1, hw1⟩ : ∃ w1, w1 = w.setCell ⟨g, 1, none⟩ (.int .i64 0) := ⟨_, rfl⟩
  have hr1 : Row w1 g [.int .i64 r, .int .i64 (0 : Nat), .map (some b)] 82 := by rw [hw1]; exact h.1.set 1 _
  have hne := h.1.neMap h.2.1
  have hf1 : Fr [g] w w1 := by rw [hw1]; exact (Fr.refl [g] w).setCell _ (fun _ => by simp)
  have HM := Lib.hid (h.2.1.fr hf1 (by simp; exact fun e => hne e.symm))
  have g2 := hr1.cell' (j := 2) rfl
  have HR1 := Lib.hid hr1; have HF1 := Lib.hid hf1; have HW1 := Lib.hid hw1; have HNE := Lib.hid hne
  clear h hr1 hf1 hw1 hne
  go_enter Try.func62, Try.ntmps62
  go_upto_region 1 with fail
  rw [← HW1.out]
  clear e1 f1 e2
  obtain ⟨w2, hrun, hm2, hf2⟩ := HM.out.clear 0
  have HM2 := Lib.hid hm2; have HF2 := Lib.hid hf2
  clear hm2 hf2
  go_wp2_with fail
  first | go_end0 | go_ret
  exact ⟨rfl, ⟨HR1.out.fr HF2.out (by simp; exact HNE.out), HM2.out, H.out.2.2.1, H.out.2.2.2.1, Nat.zero_le _⟩, (HF1.out.mono (fun x hx _ => by simp at hx; simp [hx])).trans HF2.out (fun x hx _ => by simp at hx; simp [hx])⟩
end Go.Proofs.Ytjhemoekmlhlpaa
