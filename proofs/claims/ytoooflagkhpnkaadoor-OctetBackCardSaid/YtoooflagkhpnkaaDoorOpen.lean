/- Arguments that came in: a []byte as a list of bytes in memory. -/
import Derived.Test.YtoooflagkhpnkaaDoorProg
import Derived.Test.YtoooflagkhpnkaaDoorBase
import Derived.ProofKit
import Derived.OpenShut
import Derived.ShutString
import Derived.ChangeOld
import Derived.Below
namespace Go.Proofs.YtoooflagkhpnkaaDoor
open Go Go.ChangeShapes Go.WideShapes Go.ChangeAt Go.RowKit

theorem u8_of_wf (n : Int) (h : (Lit.int .u8 n).wf = true) : n = ((UInt8.ofNat n.toNat).toNat : Int) := by
  have := bounds_u8 h
  rw [UInt8.toNat_ofNat']
  omega

theorem bytesAt_of_cells {W : World} {x : Addr} {zs : List Int} {len : Nat} (hl : len ≤ zs.length) (hc : ∀ i, i < zs.length → W.cell? (x.add i) = some (.int .u8 (zs.getD i 0))) (hw : ∀ n ∈ zs, (Lit.int .u8 n).wf = true) :
    ∃ l : List UInt8, l.length = len ∧ BytesAt W (some x) l := by
  refine ⟨(zs.take len).map fun n => UInt8.ofNat n.toNat, by simp; omega, ?_⟩
  by_cases h0 : len = 0
  · subst h0
    exact .inl (by simp)
  · have c0 := hc 0 (by omega)
    obtain ⟨b, off, spot⟩ := x
    have hs : spot = none := by
      cases spot with
      | none => rfl
      | some s =>
        simp only [Addr.add, if_true, World.cell?] at c0
        split at c0 <;> simp at c0
    subst hs
    refine .inr ⟨b, off, rfl, fun i hi => ?_⟩
    have hi' : i < len := by simp at hi; omega
    have c := hc i (by omega)
    have hadd : (⟨b, off, none⟩ : Addr).add i = ⟨b, off + i, none⟩ := by unfold Addr.add; split <;> simp_all
    rw [hadd] at c
    rw [c]
    have hz : zs.getD i 0 = zs[i]'(by omega) := by simp [List.getD, List.getElem?_eq_getElem (show i < zs.length by omega)]
    have := u8_of_wf _ (hw _ (List.getElem_mem (show i < zs.length by omega)))
    rw [hz]
    simp only [List.getElem_map, List.getElem_take]
    rw [← this]

set_option maxRecDepth 100000 in
theorem open_bytes {H : Type} {enc : TypeId × Value → H} {W : World} {base : Nat} {v : Value} {d : DataW H} {p : List MemPlace} {sp : Nat → Bool} {held : Bool} {b2 : Nat}
    (hv : Value.okWide Tryd.prog W .any b2 22 v) (h : DataW.Trod enc Tryd.prog W base sp held 22 v d p) :
    ∃ a l cap, v = .slice a (l : List UInt8).length cap ∧ l.length ≤ cap ∧ cap ≤ maxLen ∧ BytesAt W a l := by
  obtain ⟨a, len, cap, rfl⟩ := okWide_slice Tryd.underlying22 hv
  obtain ⟨fuel, hf⟩ := h
  rcases open_ints Tryd.underlying22 Tryd.underlying5 (by kernel_rfl) hf with ⟨hcs, _⟩ | ⟨x, l, c, zs, hcs, _, hl, hm, hz, _, hcell, hwz⟩
  · simp [Value.cells] at hcs
    obtain ⟨rfl, rfl, rfl⟩ := hcs
    have z : (0 : Nat) ≤ maxLen := by unfold maxLen; omega
    refine ⟨none, [], 0, rfl, ?_, z, BytesAt.nil _ _⟩
    exact Nat.le_refl _
  · simp [Value.cells] at hcs
    obtain ⟨rfl, rfl, rfl⟩ := hcs
    obtain ⟨L, hL, hb⟩ := bytesAt_of_cells (len := len) (by rw [hz]; split <;> omega) hcell hwz
    exact ⟨some x, L, cap, by rw [hL], by omega, hm, hb⟩
end Go.Proofs.YtoooflagkhpnkaaDoor
