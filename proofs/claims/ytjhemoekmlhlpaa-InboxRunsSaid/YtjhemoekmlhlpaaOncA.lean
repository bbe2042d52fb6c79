/- The cells of jotterlaw09.Once: an inbox, its places, what was put and whether it is there, how many are out. No walk. -/
import Derived.Test.YtjhemoekmlhlpaaOrdA
namespace Go.Proofs.Ytjhemoekmlhlpaa
open Go Go.RowKit
set_option linter.unusedVariables false

def updN {α : Type} (f : Nat → α) (q : Nat) (v : α) : Nat → α := fun j => if j = q then v else f j
theorem map_range_set {α : Type} (g : Nat → Value) (n q : Nat) (v : Value) : ((List.range n).map g).set q v = (List.range n).map (updN g q v) := by
  apply List.ext_getElem
  · simp
  · intro i h1 h2
    simp only [List.getElem_set, List.getElem_map, List.getElem_range, updN]
    split
    · rename_i e
      rw [if_pos e.symm]
    · rename_i e
      rw [if_neg (fun h => e h.symm)]
def OncL (p : Value) (r : Nat) (V : Nat → Int) (T : Nat → Bool) (C : Nat) : List Value :=
  p :: .int .i64 r :: ((List.range 4097).map (fun q => Value.int .i64 (V q)) ++ ((List.range 4097).map (fun q => Value.bool (T q)) ++ [.int .i64 C]))
section
variable (p : Value) (r : Nat) (V : Nat → Int) (T : Nat → Bool) (C : Nat)
theorem OncL_get0 : (OncL p r V T C)[0]? = some p := rfl
theorem OncL_get1 : (OncL p r V T C)[1]? = some (.int .i64 r) := rfl
theorem OncL_getV (q : Nat) (hq : q < 4097) : (OncL p r V T C)[2 + q]? = some (.int .i64 (V q)) := by
  rw [show 2 + q = q + 1 + 1 by omega]
  simp only [OncL, List.getElem?_cons_succ]
  rw [List.getElem?_append_left (by simp; omega)]
  simp [hq]
theorem OncL_getT (q : Nat) (hq : q < 4097) : (OncL p r V T C)[4099 + q]? = some (.bool (T q)) := by
  rw [show 4099 + q = (4097 + q) + 1 + 1 by omega]
  simp only [OncL, List.getElem?_cons_succ]
  rw [List.getElem?_append_right (by simp), List.getElem?_append_left (by simp; omega)]
  simp [hq]
theorem OncL_getC : (OncL p r V T C)[8196]? = some (.int .i64 C) := by
  rw [show 8196 = (4097 + 4097) + 1 + 1 by omega]
  simp only [OncL, List.getElem?_cons_succ]
  rw [List.getElem?_append_right (by simp), List.getElem?_append_right (by simp)]
  simp
theorem OncL_setV (q : Nat) (hq : q < 4097) (v : Int) : (OncL p r V T C).set (2 + q) (.int .i64 v) = OncL p r (updN V q v) T C := by
  rw [show 2 + q = q + 1 + 1 by omega]
  simp only [OncL, List.set_cons_succ]
  rw [List.set_append_left _ _ (by simp; omega), map_range_set (α := Int)]
  congr 4
  funext j
  unfold updN
  split <;> rfl
theorem OncL_setT (q : Nat) (hq : q < 4097) (v : Bool) : (OncL p r V T C).set (4099 + q) (.bool v) = OncL p r V (updN T q v) C := by
  rw [show 4099 + q = (4097 + q) + 1 + 1 by omega]
  simp only [OncL, List.set_cons_succ]
  rw [List.set_append_right _ _ (by simp), List.set_append_left _ _ (by simp; omega)]
  simp only [List.length_map, List.length_range, Nat.add_sub_cancel_left]
  rw [map_range_set (α := Bool)]
  congr 5
  funext j
  unfold updN
  split <;> rfl
theorem OncL_setC (n : Nat) : (OncL p r V T C).set 8196 (.int .i64 n) = OncL p r V T n := by
  rw [show 8196 = (4097 + 4097) + 1 + 1 by omega]
  simp only [OncL, List.set_cons_succ]
  rw [List.set_append_right _ _ (by simp), List.set_append_right _ _ (by simp)]
  simp
end
theorem zeroV : Try.zeroCells48 = Array.replicate 4097 (.int .i64 0) := by kernel_rfl
theorem zeroT : Try.zeroCells49 = Array.replicate 4097 (.bool false) := by kernel_rfl

/-- the law's own book: what is held is what is marked above C, with the value that was put; none lies beyond C + r -/
def Onc (w : World) (go gi bi r : Nat) (V : Nat → Int) (T : Nat → Bool) (C : Nat) (f : Int → Option Int) : Prop :=
  Row w go (OncL (.pointer (some ⟨gi, 0, none⟩)) r V T C) 51 ∧ Ibx w gi bi r C f ∧ (∀ q : Nat, C < q → q ≤ 4096 → f (q : Int) = if T q = true then some (V q) else none) ∧
  (∀ j, (f j).isSome = true → ∃ q : Nat, j = (q : Int) ∧ C < q ∧ q ≤ 4096) ∧ (∀ q, C < q → q ≤ 4096 → T q = true → q ≤ C + r) ∧ (∀ q, (Lit.int .i64 (V q)).wf = true)
section
variable {w w' : World} {go gi bi r C : Nat} {V : Nat → Int} {T : Nat → Bool} {f : Int → Option Int}
theorem Onc.ne (h : Onc w go gi bi r V T C f) : go ≠ gi ∧ go ≠ bi := ⟨h.1.ne h.2.1.1 (by decide), h.1.neMap h.2.1.2.1⟩
theorem Onc.fr0 (h : Onc w go gi bi r V T C f) (hf : Fr [] w w') : Onc w' go gi bi r V T C f := ⟨h.1.fr hf (by simp), h.2.1.fr0 hf, h.2.2⟩
/-- is num one that can be put? -/
theorem Onc.code (h : Onc w go gi bi r V T C f) (n : Nat) (h1 : 1 ≤ n) (h2 : n ≤ 4096) : putCode r C f n = if n ≤ C ∨ T n = true then 92 else if C + r < n then 93 else 0 := by
  unfold putCode
  rw [if_neg (by omega)]
  by_cases hc : n ≤ C
  · rw [if_pos (.inr (by omega)), if_pos (.inl hc)]
  · have h3 := h.2.2.1 n (by omega) h2
    by_cases ht : T n = true
    · rw [if_pos (.inl (by rw [h3, if_pos ht]; rfl)), if_pos (.inr ht)]
    · have e1 : ¬ ((f (n : Int)).isSome = true ∨ (n : Int) ≤ C) := by
        rintro (e | e)
        · rw [h3, if_neg ht] at e
          cases e
        · omega
      have e2 : ¬ (n ≤ C ∨ T n = true) := fun e => e.elim hc ht
      rw [if_neg e1, if_neg e2]
      by_cases hb : C + r < n
      · rw [if_pos (show (C : Int) + r < n by omega), if_pos hb]
      · rw [if_neg (show ¬ (C : Int) + r < n by omega), if_neg hb]
theorem Onc.put (h : Onc w go gi bi r V T C f) (n : Nat) (h1 : 1 ≤ n) (h2 : n ≤ 4096) (v : Int) (hv : (Lit.int .i64 v).wf = true) (hc : ¬ (n ≤ C ∨ T n = true)) (hr : n ≤ C + r) {w1 w2 : World} (hi : Ibx w1 gi bi r C (putF r C f n v)) (hf1 : Fr [bi] w w1) (hrow : Row w2 go (OncL (.pointer (some ⟨gi, 0, none⟩)) r (updN V n v) (updN T n true) C) 51) (hf2 : Fr [go] w1 w2) :
    Onc w2 go gi bi r (updN V n v) (updN T n true) C (upd f n (some v)) := by
  have hne := h.ne
  have hcode : putCode r C f n = 0 := by rw [h.code n h1 h2, if_neg hc, if_neg (by omega)]
  rw [putF_yes hcode] at hi
  obtain ⟨k1, k2, k3, k4, k5, k6⟩ := h
  refine ⟨hrow, hi.fr hf2 (by simp; exact fun e => hne.1 e.symm) (by simp; exact fun e => hne.2 e.symm), fun q hq1 hq2 => ?_, fun j hj => ?_, fun q hq1 hq2 hq3 => ?_, fun q => ?_⟩
  · unfold upd updN
    by_cases e : q = n
    · subst e
      simp
    · rw [if_neg (by omega), if_neg e, if_neg e]
      exact k3 q hq1 hq2
  · unfold upd at hj
    split at hj
    · rename_i e
      exact ⟨n, e, by have := fun e => hc (.inl e); omega, h2⟩
    · exact k4 j hj
  · unfold updN at hq3
    split at hq3
    · rename_i e
      omega
    · exact k5 q hq1 hq2 hq3
  · unfold updN
    split
    · exact hv
    · exact k6 q
theorem Onc.pop (h : Onc w go gi bi r V T C f) {w1 w2 : World} (hi : Ibx w1 gi bi r (C + 1) (upd f ((C + 1 : Nat) : Int) none)) (hf1 : Fr [gi, bi] w w1) (hrow : Row w2 go (OncL (.pointer (some ⟨gi, 0, none⟩)) r V T (C + 1)) 51) (hf2 : Fr [go] w1 w2) :
    Onc w2 go gi bi r V T (C + 1) (upd f ((C + 1 : Nat) : Int) none) := by
  have hne := h.ne
  obtain ⟨k1, k2, k3, k4, k5, k6⟩ := h
  refine ⟨hrow, hi.fr hf2 (by simp; exact fun e => hne.1 e.symm) (by simp; exact fun e => hne.2 e.symm), fun q hq1 hq2 => ?_, fun j hj => ?_, fun q hq1 hq2 hq3 => by have := k5 q (by omega) hq2 hq3; omega, k6⟩
  · unfold upd
    rw [if_neg (by omega)]
    exact k3 q (by omega) hq2
  · unfold upd at hj
    split at hj
    · cases hj
    · rename_i hn
      obtain ⟨q, e, a1, a2⟩ := k4 j hj
      refine ⟨q, e, ?_, a2⟩
      rcases Nat.lt_or_ge (C + 1) q with hlt | hge
      · exact hlt
      · exact absurd (by rw [e]; congr 1; omega) hn
theorem Onc.toss (h : Onc w go gi bi r V T C f) {w1 w2 : World} (hi : Ibx w1 gi bi r C (upd f ((C + 1 : Nat) : Int) none)) (hf1 : Fr [bi] w w1) (hrow : Row w2 go (OncL (.pointer (some ⟨gi, 0, none⟩)) r V (updN T (C + 1) false) C) 51) (hf2 : Fr [go] w1 w2) :
    Onc w2 go gi bi r V (updN T (C + 1) false) C (upd f ((C + 1 : Nat) : Int) none) := by
  have hne := h.ne
  obtain ⟨k1, k2, k3, k4, k5, k6⟩ := h
  refine ⟨hrow, hi.fr hf2 (by simp; exact fun e => hne.1 e.symm) (by simp; exact fun e => hne.2 e.symm), fun q hq1 hq2 => ?_, fun j hj => ?_, fun q hq1 hq2 hq3 => ?_, k6⟩
  · unfold upd updN
    by_cases e : q = C + 1
    · subst e
      simp
    · rw [if_neg (by omega), if_neg e]
      exact k3 q hq1 hq2
  · unfold upd at hj
    split at hj
    · cases hj
    · exact k4 j hj
  · unfold updN at hq3
    split at hq3
    · cases hq3
    · exact k5 q hq1 hq2 hq3
end
end Go.Proofs.Ytjhemoekmlhlpaa
