/- Arguments that came in: a []int as a list of numbers in memory. -/
import Derived.Test.YtjhemoekmlhlpaaInts
import Derived.ProofKit
import Derived.OpenShut
import Derived.ShutString
import Derived.ChangeOld
import Derived.SizedLaws
import Derived.Below
namespace Go.Proofs.Ytjhemoekmlhlpaa
open Go Go.ChangeShapes Go.WideShapes Go.ChangeAt Go.RowKit

theorem intsAt_of_cells {W : World} {x : Addr} {zs : List Int} {len : Nat} (hl : len ≤ zs.length) (hc : ∀ i, i < zs.length → W.cell? (x.add i) = some (.int .i64 (zs.getD i 0))) : IntsAt W (some x) (zs.take len) := by
  by_cases h0 : len = 0
  · subst h0
    exact .inl (by simp)
  · have c0 := hc 0 (by omega)
    obtain ⟨b, off, spot⟩ := x
    have hs : spot = none := by
      cases spot with
      | none => rfl
      | some s =>
        simp only [Addr.add, if_true, World.cell?] at c0
        split at c0 <;> simp at c0
    subst hs
    refine .inr ⟨b, off, rfl, fun i hi => ?_⟩
    have hi' : i < len := by simp at hi; omega
    have c := hc i (by omega)
    have hadd : (⟨b, off, none⟩ : Addr).add i = ⟨b, off + i, none⟩ := by unfold Addr.add; split <;> simp_all
    rw [hadd] at c
    rw [c]
    have hz : zs.getD i 0 = zs[i]'(by omega) := by simp [List.getD, List.getElem?_eq_getElem (show i < zs.length by omega)]
    rw [hz]
    simp

set_option maxRecDepth 100000 in
theorem open_ints' {H : Type} {enc : TypeId × Value → H} {W : World} {base : Nat} {v : Value} {d : DataW H} {p : List MemPlace} {sp : Nat → Bool} {held : Bool} {b2 : Nat}
    (hv : Value.okWide Try.prog W .any b2 23 v) (h : DataW.Trod enc Try.prog W base sp held 23 v d p) :
    ∃ a L cap, v = .slice a (L : List Int).length cap ∧ L.length ≤ cap ∧ cap ≤ maxLen ∧ IntsAt W a L ∧ (∀ x ∈ L, (Lit.int .i64 x).wf = true) ∧ ((d = .nil ∧ L = []) ∨ ∃ rest, d = .slice (lits .i64 L) rest) := by
  obtain ⟨a, len, cap, rfl⟩ := okWide_slice Try.underlying23 hv
  obtain ⟨fuel, hf⟩ := h
  rcases open_ints Try.underlying23 Try.underlying3 (by kernel_rfl) hf with ⟨hcs, hd⟩ | ⟨x, l, c, zs, hcs, _, hl, hm, hz, hd, hcell, hwz⟩
  · simp [Value.cells] at hcs
    obtain ⟨rfl, rfl, rfl⟩ := hcs
    have z : (0 : Nat) ≤ maxLen := by unfold maxLen; omega
    exact ⟨none, [], 0, rfl, Nat.le_refl _, z, .inl rfl, by simp, .inl ⟨congrArg Prod.fst hd, rfl⟩⟩
  · simp [Value.cells] at hcs
    obtain ⟨rfl, rfl, rfl⟩ := hcs
    have hlz : len ≤ zs.length := by rw [hz]; split <;> omega
    have hlen : (zs.take len).length = len := by simp; omega
    exact ⟨some x, zs.take len, cap, by rw [hlen], by omega, hm, intsAt_of_cells hlz hcell, fun y hy => hwz y (List.mem_of_mem_take hy), .inr ⟨_, congrArg Prod.fst hd⟩⟩
end Go.Proofs.Ytjhemoekmlhlpaa
