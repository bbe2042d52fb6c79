/- jotterref09.Inbox: Pop, Reset. -/
import Derived.Test.YtjhemoekmlhlpaaRfC
namespace Go.Proofs.Ytjhemoekmlhlpaa
open Go Go.RowKit
set_option linter.unusedVariables false

def RPopPost (ok : Bool) (e : Ending) (w w' : World) (base g : Nat) (v : Value) (r c k : Nat) (L : List (Int × Int)) (f' : Int → Option Int) : Prop :=
  (ok = true ∧ e = .returned (.int .i64 0) ∧ ∃ v' L', Rf w' base g v' r k L' ∧ lk L' = f' ∧ (∀ y, v'.ownBlock = some y → w.heap.size ≤ y)) ∨ (ok = false ∧ e = .returned (.int .i64 94) ∧ Rf w' base g v r c L)
set_option maxRecDepth 100000 in
set_option maxHeartbeats 4000000 in
theorem rfPop_any (base g : Nat) (v : Value) (r c : Nat) (L : List (Int × Int)) (w : World) (h : Rf w base g v r c L) (hb : base ≤ w.heap.size) :
    Calls Try.prog 57 #[.pointer (some ⟨g, 0, none⟩)] w fun e w' => RPopPost (lk L ((c + 1 : Nat) : Int)).isSome e w w' base g v r c (c + 1) L (upd (lk L) ((c + 1 : Nat) : Int) none) ∧ Fr [g] w w' := by
  have H := Lib.hid h
  have hc := h.2.2.2.2.2.2
  clear h
  obtain ⟨ok, hok⟩ : ∃ ok, ok = (lk L ((c + 1 : Nat) : Int)).isSome := ⟨_, rfl⟩
  rw [← hok]
  have HOK := Lib.hid hok
  clear hok
  go_enter Try.func57, Try.ntmps57
  go_wp2_with fail
  refine (rfToss_any base g v r c L _ H.out hb).mono ?_
  rintro e w1 ⟨hpost, hf⟩
  rw [← HOK.out] at hpost
  have HF := Lib.hid hf
  clear hf
  rcases hpost with ⟨rfl, rfl, v', L', hr, hl, hat⟩ | ⟨rfl, rfl, hr⟩
  · have HR := Lib.hid hr
    have HL := Lib.hid hl
    have HAT := Lib.hid hat
    have e1 := hr.1.cell' (j := 1) rfl
    have f1 := hr.1.free 1
    obtain ⟨c1, hc1⟩ : ∃ c1, c1 = c + 1 := ⟨_, rfl⟩
    have hci : (c : Int) + 1 = (c1 : Int) := by omega
    have HC1 := Lib.hid hc1
    clear hr hl hat hc1
    go_wp2_with fail
    go_ret
    have hset : Fr [g] w1 (w1.setCell ⟨g, 1, none⟩ (.int .i64 c1)) := (Fr.refl [g] w1).setCell _ (fun _ => by simp)
    refine ⟨.inl ⟨rfl, rfl, v', L', ⟨?_, ?_, HR.out.2.2.1, HR.out.2.2.2.1, HR.out.2.2.2.2.1, HR.out.2.2.2.2.2.1, ?_⟩, HL.out, HAT.out⟩, HF.out.trans1 hset⟩
    · have h5 := HR.out.1.set 1 (.int .i64 c1)
      rw [HC1.out] at h5 ⊢
      exact h5
    · exact owns_fr HR.out.2.1 hset (fun b hb hm => by simp at hm; subst hm; exact (HR.out.1.neOwn HR.out.2.1 (by decide)) _ hb rfl)
    · obtain ⟨x, hx⟩ := Option.isSome_iff_exists.1 HOK.out.symm
      have := (H.out.2.2.2.1 _ (lk_mem hx)).2
      simp at this
      omega
  · have HR := Lib.hid hr
    clear hr
    go_wp2_with fail
    go_ret
    exact ⟨.inr ⟨rfl, rfl, HR.out⟩, HF.out⟩
set_option maxRecDepth 100000 in
set_option maxHeartbeats 4000000 in
theorem rfReset_any (base g : Nat) (v : Value) (r c : Nat) (L : List (Int × Int)) (w : World) (h : Rf w base g v r c L) :
    Calls Try.prog 61 #[.pointer (some ⟨g, 0, none⟩)] w fun e w' => e = .returned (.tuple #[]) ∧ Rf w' base g (.slice none 0 0) r 0 [] ∧ Fr [g] w w' := by
  have H := Lib.hid h
  obtain ⟨a, kk, rfl, hk1⟩ := h.slice
  have e1 := h.1.cell' (j := 1) rfl
  have f1 := h.1.free 1
  have e2 := h.1.cell' (j := 2) rfl
  have f2 := h.1.free 2
  clear h hk1
  go_enter Try.func61, Try.ntmps61
  go_wp2_with fail
  first | go_end0 | go_ret
  exact ⟨rfl, ⟨(H.out.1.set 1 (.int .i64 0)).set 2 (.slice none 0 0), World.ownsRow_nil _ _ _ _, List.nodup_nil, by simp, H.out.2.2.2.2.1, H.out.2.2.2.2.2.1, Nat.zero_le _⟩, ((Fr.refl [g] w).setCell _ (fun _ => by simp)).setCell _ (fun _ => by simp)⟩
end Go.Proofs.Ytjhemoekmlhlpaa
