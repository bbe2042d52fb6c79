/- Contract: jotterref01.copied; a slice of new memory with room. -/
import Derived.Test.YtoooflagkhpnkaaDoorLeafA
import Derived.Test.YtoooflagkhpnkaaDoorLeafB
namespace Go.Proofs.YtoooflagkhpnkaaDoor
open Go Go.RowKit
set_option linter.unusedVariables false

set_option maxHeartbeats 400000 in
theorem copied_any (a : Option Addr) (l : List UInt8) (c : Nat) (w : World) (h : BytesAt w a l) (hm : l.length ≤ 281474976710656) :
    Calls Tryd.prog 53 #[.slice a l.length c] w (RetMade w l) := by
  obtain ⟨n, hn⟩ : ∃ n, n = l.length := ⟨_, rfl⟩
  have hmn : n ≤ 281474976710656 := by omega
  rw [← hn]
  have H1 := Lib.hid hn
  clear hn hm
  go_enter Tryd.func53, Tryd.ntmps53
  go_wp2_with (refine wpList_make rfl _ _ _ 5 rfl Tryd.underlying22 (.int .u8 0) 1 infoU8 rfl n rfl rfl (by omega) (by unfold maxLen; omega) ?_)
  obtain ⟨g, hg⟩ : ∃ g, g = w.heap.size := ⟨_, rfl⟩
  rw [← hg]
  have HG := Lib.hid hg
  clear hg
  go_loopw [4] (fun i wr => ∃ k : Nat, i = .int .i64 k ∧ k ≤ n ∧ Row wr g (bs (l.take k) ++ List.replicate (n - k) (.int .u8 0)) 5 ∧ Fr [] w wr) (fun i _ => n - (intOf i).toNat)
  case atStart => exact ⟨0, rfl, Nat.zero_le _, by rw [HG.out]; simpa [bs] using Row.new w (List.replicate n (.int .u8 0)) 5, (Fr.refl _ _).alloc _⟩
  case round =>
    obtain ⟨k, rfl, hk, hrow, hfr⟩ := hrel
    by_cases hlt : k < n
    · obtain ⟨b, off, rfl, hcs⟩ := (h.fr0 hfr).get k (by have := H1.out; omega)
      have hcd := hrow.cell' (j := k) (v := .int .u8 0) (fill_get l k n H1.out hlt)
      have hz := hrow.free k
      have HR := Lib.hid (hrow.set k (.int .u8 ((l[k]'(by have := H1.out; omega)).toNat : Int)))
      have HF := Lib.hid (hfr.setCell (a := ⟨g, k, none⟩) (.int .u8 ((l[k]'(by have := H1.out; omega)).toNat : Int)) (fun hx => absurd hx (by have := HG.out; simp; omega)))
      clear hrow hfr
      go_wp2
      go_roundw
      case rel => exact ⟨k + 1, by go_num, by omega, by rw [← fill_step l k n H1.out (by have := H1.out; omega)]; exact HR.out, HF.out⟩
      case measure => simp [intOf]; omega
    · have hkn : k = n := by omega
      have HK := Lib.hid hkn
      clear hkn
      go_wp2
      go_ret
      refine ⟨g, ?_, by have := HG.out; omega, ?_, hfr⟩
      · rw [← H1.out]; rfl
      · have e1 := H1.out
        have e2 := HK.out
        rw [e2, e1, List.take_length, Nat.sub_self, List.replicate_zero, List.append_nil] at hrow
        exact hrow


/-- a slice of new memory that holds just the bytes l; room behind it or not -/
def RetOwn (w : World) (l : List UInt8) (e : Ending) (w' : World) : Prop :=
  ∃ a c, e = .returned (.slice a l.length c) ∧ w'.ownsRow w.heap.size 5 1 (.slice a l.length c) l.length (bs l) ∧ Fr [] w w'
theorem RetOwn.returned {w w' : World} {l : List UInt8} {e : Ending} (h : RetOwn w l e w') : ∃ v, e = .returned v ∧ RetOwn w l (.returned v) w' := by
  obtain ⟨a, c, rfl, h⟩ := h
  exact ⟨_, rfl, a, c, rfl, h⟩
theorem RetOwn.fr {w w1 w' : World} {l : List UInt8} {e : Ending} (f : Fr [] w w1) (h : RetOwn w1 l e w') : RetOwn w l e w' := by
  obtain ⟨a, c, he, ho, hf⟩ := h
  refine ⟨a, c, he, ?_, f.trans0 hf⟩
  refine ⟨ho.1, ?_⟩
  rcases ho.2 with h2 | ⟨g, cap, cur, h1, hb, r⟩
  · exact .inl h2
  · exact .inr ⟨g, cap, cur, h1, Nat.le_trans f.size hb, r⟩
theorem RetOwn.open {w w' : World} {l : List UInt8} {e : Ending} (h : RetOwn w l e w') (n : Nat) (hn : n = l.length) :
    ∃ a c, e = .returned (.slice a n c) ∧ n ≤ c ∧ c ≤ maxLen ∧ w'.ownsRow w.heap.size 5 1 (.slice a n c) n (bs l) ∧ BytesAt w' a l ∧ Fr [] w w' := by
  subst hn
  obtain ⟨a, c, he, ho, hf⟩ := h
  obtain ⟨a', c', hv, h1, h2, _, _⟩ := owns_slice ho
  simp only [Value.slice.injEq, true_and] at hv
  obtain ⟨rfl, rfl⟩ := hv
  exact ⟨a, c, he, h1, h2, ho, owns_bytes ho, hf⟩
end Go.Proofs.YtoooflagkhpnkaaDoor
