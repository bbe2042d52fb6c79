/- The two inboxes of a Box with the document's: what every step keeps; the contract of Box.step. -/
import Derived.Test.YtjhemoekmlhlpaaBoxG
namespace Go.Proofs.Ytjhemoekmlhlpaa
open Go Go.RowKit
set_option linter.unusedVariables false

/-- the block y holds cells or a map (or nothing yet) -/
def Plain (w : World) (y : Nat) : Prop := ∀ o, w.heap[y]? = some o → o.isCells = true ∨ o.isWalk = true
theorem Plain.ofKd {w : World} {y k : Nat} (h : kd w y = k) (hk : k ≠ 0) : Plain w y := by
  intro o ho
  unfold kd at h
  rw [ho] at h
  cases o with
  | cells c T z => exact .inl rfl
  | _ => exact absurd h.symm hk
theorem Plain.ofMap {w : World} {y : Nat} (h : ∃ es cl, w.heap[y]? = some (.map es cl)) : Plain w y := by
  intro o ho
  obtain ⟨es, cl, he⟩ := h
  rw [he] at ho
  obtain rfl := Option.some.inj ho
  exact .inr rfl
/-- the types of the blocks that a Box's calls write (0: the maps) -/
def KS : List Nat := [0, 74 + 1, 23 + 1, 82 + 1, 105 + 1, 99 + 1, 110 + 1]
/-- w' is w, but for new blocks and a Box's blocks from base on -/
def FrB (base : Nat) (w w' : World) : Prop := ∃ S, Fr S w w' ∧ ∀ y ∈ S, y < w.heap.size → base ≤ y ∧ kd w y ∈ KS ∧ Plain w y
theorem FrB.of {base : Nat} {S : List Nat} {w w' : World} (h : Fr S w w') (hS : ∀ y ∈ S, base ≤ y ∧ kd w y ∈ KS ∧ Plain w y) : FrB base w w' := ⟨S, h, fun y hy _ => hS y hy⟩
theorem FrB.nil {base : Nat} {w w' : World} (h : Fr [] w w') : FrB base w w' := ⟨[], h, fun _ h => by cases h⟩
theorem FrB.trans {base : Nat} {w w1 w2 : World} (h : FrB base w w1) (k : FrB base w1 w2) : FrB base w w2 := by
  obtain ⟨S1, f1, h1⟩ := h
  obtain ⟨S2, f2, h2⟩ := k
  refine ⟨S1 ++ S2, (f1.mono (T := S1 ++ S2) (fun b hb _ => List.mem_append_left _ hb)).trans f2 (fun b hb _ => List.mem_append_right _ hb), fun y hy hl => ?_⟩
  by_cases hy1 : y ∈ S1
  · exact h1 y hy1 hl
  · rcases List.mem_append.1 hy with hy | hy
    · exact absurd hy hy1
    · have h3 := h2 y hy (Nat.lt_of_lt_of_le hl f1.size)
      have hk : kd w1 y = kd w y := by unfold kd; rw [f1.block y hl hy1]
      exact ⟨h3.1, by rw [← hk]; exact h3.2.1, fun o ho => h3.2.2 o ((f1.block y hl hy1).trans ho)⟩
/-- what is written behind it lies in new blocks -/
theorem FrB.new {base : Nat} {S : List Nat} {w w1 w2 : World} (h : FrB base w w1) (k : Fr S w1 w2) (hS : ∀ y ∈ S, w.heap.size ≤ y) : FrB base w w2 := by
  obtain ⟨S1, f1, h1⟩ := h
  exact ⟨S1, f1.trans k (fun b hb hl => absurd (hS b hb) (by omega)), h1⟩
theorem FrB.size {base : Nat} {w w' : World} (h : FrB base w w') : w.heap.size ≤ w'.heap.size := by
  obtain ⟨S, f, _⟩ := h
  exact f.size
theorem FrB.ofK {base : Nat} {ks : List Nat} {w w' : World} (h : FrK base ks [] w w') (h0 : 0 ∉ ks) (hks : ∀ k ∈ ks, k ∈ KS) : FrB base w w' := by
  obtain ⟨S, f, hS⟩ := h
  refine ⟨S, f, fun y hy hl => ?_⟩
  rcases hS y hy hl with h | h
  · cases h
  · exact ⟨h.2, hks _ h.1, Plain.ofKd rfl (fun e => h0 (by rw [← e]; exact h.1))⟩
theorem FrB.fr0 {w0 w w' : World} (h : Fr [] w0 w) (k : FrB w0.heap.size w w') : Fr [] w0 w' := by
  obtain ⟨S, f, hS⟩ := k
  exact h.trans f (fun b hb hl => absurd (hS b hb (Nat.lt_of_lt_of_le hl h.size)).1 (by omega))
/-- a block that holds no cells and no map lies as it lay -/
theorem FrB.keep {base : Nat} {w w' : World} (h : FrB base w w') (y : Nat) (o : Obj) (ho : w.heap[y]? = some o) (h1 : o.isCells = false) (h2 : o.isWalk = false) : w'.heap[y]? = some o := by
  obtain ⟨S, f, hS⟩ := h
  have hl := (Array.getElem?_eq_some_iff.1 ho).1
  refine (f.block y hl (fun hm => ?_)).trans ho
  rcases (hS y hm hl).2.2 o ho with e | e
  · rw [h1] at e; cases e
  · rw [h2] at e; cases e
/-- a row of another type lies as it lay -/
theorem FrB.row {base g : Nat} {w w' : World} {c : List Value} {T : TypeId} (h : FrB base w w') (hr : Row w g c T) (hT : T + 1 ∉ KS) : Row w' g c T := by
  obtain ⟨S, f, hS⟩ := h
  exact hr.fr f fun hm => hT (by rw [← hr.kd]; exact (hS g hm hr.lt).2.1)

def BxP (w : World) (base X gA bA gB bB gp gq : Nat) (vp vq vL vW : Value) (r cA s cB : Nat) (Lp Lq : List (Int × Int)) (xs ys : List Value) (ls : List (List Int)) : Prop :=
  BoxL w base X (ptr gA) (ptr gB) (ptr gp) (ptr gq) vL vW xs ys ls ∧ ls.length ≤ 44 ∧ SideA w base gA bA gp vp r cA Lp ∧ SideB w base gB bB gq vq s cB Lq ∧
  (gp ≠ gq ∧ bA ≠ bB ∧ ∀ y, vp.ownBlock = some y → vq.ownBlock ≠ some y) ∧ (base ≤ X ∧ base ≤ gA ∧ base ≤ bA ∧ base ≤ gB ∧ base ≤ bB ∧ base ≤ gp ∧ base ≤ gq) ∧ base ≤ w.heap.size
/-- none of the lists that were handed out lies in a block of E -/
def OutE (E : List Nat) (xs ys : List Value) : Prop := ∀ x, x ∈ xs ∨ x ∈ ys → ∀ y, x.ownBlock = some y → y ∉ E
def BxI (E : List Nat) (w : World) (base X gA bA r : Nat) : Prop := ∃ gB bB gp gq vp vq vL vW cA s cB Lp Lq xs ys ls, BxP w base X gA bA gB bB gp gq vp vq vL vW r cA s cB Lp Lq xs ys ls ∧ OutE E xs ys
section
variable {w w' : World} {base X gA bA gB bB gp gq : Nat} {vp vq vL vW : Value} {r cA s cB : Nat} {Lp Lq : List (Int × Int)} {xs ys : List Value} {ls : List (List Int)} {E : List Nat}
theorem BxP.fr0 (h : BxP w base X gA bA gB bB gp gq vp vq vL vW r cA s cB Lp Lq xs ys ls) (f : Fr [] w w') : BxP w' base X gA bA gB bB gp gq vp vq vL vW r cA s cB Lp Lq xs ys ls :=
  ⟨h.1.fr0 f, h.2.1, h.2.2.1.fr0 f, h.2.2.2.1.fr0 f, h.2.2.2.2.1, h.2.2.2.2.2.1, Nat.le_trans h.2.2.2.2.2.2 f.size⟩
theorem SideB.frA (h : SideB w base gB bB gq vq s cB Lq) (k : SideA w base gA bA gp vp r cA Lp) (f : Fr (SideS gA bA gp vp) w w') (h1 : gp ≠ gq) (h2 : bA ≠ bB) (h3 : ∀ y, vp.ownBlock = some y → vq.ownBlock ≠ some y) : SideB w' base gB bB gq vq s cB Lq := by
  have e1 : gB ∉ SideS gA bA gp vp := (k.noKd _ (by decide) (by decide) (by decide) (by decide)).not h.kds.1
  have e2 : bB ∉ SideS gA bA gp vp := by
    unfold SideS
    intro hm
    simp only [List.mem_cons, Option.mem_toList] at hm
    rcases hm with e | e | e | e
    · exact kd_ne h.kds.2.1 k.kds.1 (by decide) e
    · exact h2 e.symm
    · exact kd_ne h.kds.2.1 k.kds.2.2.1 (by decide) e
    · exact kd_ne h.kds.2.1 (k.kds.2.2.2 _ e) (by decide) rfl
  have e3 : gq ∉ SideS gA bA gp vp := by
    unfold SideS
    intro hm
    simp only [List.mem_cons, Option.mem_toList] at hm
    rcases hm with e | e | e | e
    · exact kd_ne h.kds.2.2.1 k.kds.1 (by decide) e
    · exact kd_ne h.kds.2.2.1 k.kds.2.1 (by decide) e
    · exact h1 e.symm
    · exact kd_ne h.kds.2.2.1 (k.kds.2.2.2 _ e) (by decide) rfl
  have e4 : ∀ y, vq.ownBlock = some y → y ∉ SideS gA bA gp vp := by
    unfold SideS
    intro y hy hm
    simp only [List.mem_cons, Option.mem_toList] at hm
    rcases hm with e | e | e | e
    · exact kd_ne (h.kds.2.2.2 y hy) k.kds.1 (by decide) e
    · exact kd_ne (h.kds.2.2.2 y hy) k.kds.2.1 (by decide) e
    · exact kd_ne (h.kds.2.2.2 y hy) k.kds.2.2.1 (by decide) e
    · exact h3 y e hy
  exact ⟨h.1.fr f e1 e2, ⟨h.2.1.1.fr f e3, owns_fr h.2.1.2.1 f e4, h.2.1.2.2⟩, h.2.2⟩
theorem SideA.frB (h : SideA w base gA bA gp vp r cA Lp) (k : SideB w base gB bB gq vq s cB Lq) (f : Fr (SideS gB bB gq vq) w w') (h1 : gp ≠ gq) (h2 : bA ≠ bB) (h3 : ∀ y, vp.ownBlock = some y → vq.ownBlock ≠ some y) : SideA w' base gA bA gp vp r cA Lp := by
  have e1 : gA ∉ SideS gB bB gq vq := (k.noKd _ (by decide) (by decide) (by decide) (by decide)).not h.kds.1
  have e2 : bA ∉ SideS gB bB gq vq := by
    unfold SideS
    intro hm
    simp only [List.mem_cons, Option.mem_toList] at hm
    rcases hm with e | e | e | e
    · exact kd_ne h.kds.2.1 k.kds.1 (by decide) e
    · exact h2 e
    · exact kd_ne h.kds.2.1 k.kds.2.2.1 (by decide) e
    · exact kd_ne h.kds.2.1 (k.kds.2.2.2 _ e) (by decide) rfl
  have e3 : gp ∉ SideS gB bB gq vq := by
    unfold SideS
    intro hm
    simp only [List.mem_cons, Option.mem_toList] at hm
    rcases hm with e | e | e | e
    · exact kd_ne h.kds.2.2.1 k.kds.1 (by decide) e
    · exact kd_ne h.kds.2.2.1 k.kds.2.1 (by decide) e
    · exact h1 e
    · exact kd_ne h.kds.2.2.1 (k.kds.2.2.2 _ e) (by decide) rfl
  have e4 : ∀ y, vp.ownBlock = some y → y ∉ SideS gB bB gq vq := by
    unfold SideS
    intro y hy hm
    simp only [List.mem_cons, Option.mem_toList] at hm
    rcases hm with e | e | e | e
    · exact kd_ne (h.kds.2.2.2 y hy) k.kds.1 (by decide) e
    · exact kd_ne (h.kds.2.2.2 y hy) k.kds.2.1 (by decide) e
    · exact kd_ne (h.kds.2.2.2 y hy) k.kds.2.2.1 (by decide) e
    · exact h3 y hy e
  exact ⟨h.1.fr f e1 e2, ⟨h.2.1.1.fr f e3, owns_fr h.2.1.2.1 f e4, h.2.1.2.2⟩, h.2.2⟩
theorem BxP.updA (h : BxP w base X gA bA gB bB gp gq vp vq vL vW r cA s cB Lp Lq xs ys ls) (hE : OutE E xs ys) (k : ∃ vp' c' L', SideA w' base gA bA gp vp' r c' L' ∧ Fr (SideS gA bA gp vp) w w' ∧ (vp'.ownBlock = vp.ownBlock ∨ ∀ y, vp'.ownBlock = some y → w.heap.size ≤ y)) : BxI E w' base X gA bA r ∧ FrB base w w' := by
  obtain ⟨vp', c', L', hs, hf, hv⟩ := k
  have hSA := h.2.2.1
  have hSB := h.2.2.2.1
  have hk : ∀ k, 82 + 1 ≠ k → 0 ≠ k → 99 + 1 ≠ k → 110 + 1 ≠ k → NoKd w (SideS gA bA gp vp) k := fun k h1 h2 h3 h4 => hSA.noKd k h1 h2 h3 h4
  refine ⟨⟨gB, bB, gp, gq, vp', vq, vL, vW, c', s, cB, L', Lq, xs, ys, ls, ⟨h.1.fr hf (hk _ (by decide) (by decide) (by decide) (by decide)) (hk _ (by decide) (by decide) (by decide) (by decide)) (hk _ (by decide) (by decide) (by decide) (by decide)), h.2.1, hs, hSB.frA hSA hf h.2.2.2.2.1.1 h.2.2.2.2.1.2.1 h.2.2.2.2.1.2.2, ⟨h.2.2.2.2.1.1, h.2.2.2.2.1.2.1, fun y hy hz => ?_⟩, h.2.2.2.2.2.1, Nat.le_trans h.2.2.2.2.2.2 hf.size⟩, hE⟩, .of hf fun y hy => ?_⟩
  · rcases hv with e | e
    · exact h.2.2.2.2.1.2.2 y (by rw [← e]; exact hy) hz
    · have := e y hy
      have := (hSB.2.1.2.1.lt y hz).2
      omega
  · unfold SideS at hy
    simp only [List.mem_cons, Option.mem_toList] at hy
    have hb := h.2.2.2.2.2.1
    rcases hy with rfl | rfl | rfl | e
    · exact ⟨hb.2.1, by rw [hSA.kds.1]; decide, .ofKd hSA.kds.1 (by decide)⟩
    · exact ⟨hb.2.2.1, by rw [hSA.kds.2.1]; decide, .ofMap hSA.1.2.1.block⟩
    · exact ⟨hb.2.2.2.2.2.1, by rw [hSA.kds.2.2.1]; decide, .ofKd hSA.kds.2.2.1 (by decide)⟩
    · exact ⟨ownsRow_base hSA.2.1.2.1 y e, by rw [hSA.kds.2.2.2 y e]; decide, .ofKd (hSA.kds.2.2.2 y e) (by decide)⟩
theorem BxP.updB (h : BxP w base X gA bA gB bB gp gq vp vq vL vW r cA s cB Lp Lq xs ys ls) (hE : OutE E xs ys) (k : ∃ vp' c' L', SideB w' base gB bB gq vp' s c' L' ∧ Fr (SideS gB bB gq vq) w w' ∧ (vp'.ownBlock = vq.ownBlock ∨ ∀ y, vp'.ownBlock = some y → w.heap.size ≤ y)) : BxI E w' base X gA bA r ∧ FrB base w w' := by
  obtain ⟨vp', c', L', hs, hf, hv⟩ := k
  have hSA := h.2.2.1
  have hSB := h.2.2.2.1
  have hk : ∀ k, 105 + 1 ≠ k → 0 ≠ k → 99 + 1 ≠ k → 110 + 1 ≠ k → NoKd w (SideS gB bB gq vq) k := fun k h1 h2 h3 h4 => hSB.noKd k h1 h2 h3 h4
  refine ⟨⟨gB, bB, gp, gq, vp, vp', vL, vW, cA, s, c', Lp, L', xs, ys, ls, ⟨h.1.fr hf (hk _ (by decide) (by decide) (by decide) (by decide)) (hk _ (by decide) (by decide) (by decide) (by decide)) (hk _ (by decide) (by decide) (by decide) (by decide)), h.2.1, hSA.frB hSB hf h.2.2.2.2.1.1 h.2.2.2.2.1.2.1 h.2.2.2.2.1.2.2, hs, ⟨h.2.2.2.2.1.1, h.2.2.2.2.1.2.1, fun y hy hz => ?_⟩, h.2.2.2.2.2.1, Nat.le_trans h.2.2.2.2.2.2 hf.size⟩, hE⟩, .of hf fun y hy => ?_⟩
  · rcases hv with e | e
    · exact h.2.2.2.2.1.2.2 y hy (by rw [← e]; exact hz)
    · have := e y hz
      have := (hSA.2.1.2.1.lt y hy).2
      omega
  · unfold SideS at hy
    simp only [List.mem_cons, Option.mem_toList] at hy
    have hb := h.2.2.2.2.2.1
    rcases hy with rfl | rfl | rfl | e
    · exact ⟨hb.2.2.2.1, by rw [hSB.kds.1]; decide, .ofKd hSB.kds.1 (by decide)⟩
    · exact ⟨hb.2.2.2.2.1, by rw [hSB.kds.2.1]; decide, .ofMap hSB.1.2.1.block⟩
    · exact ⟨hb.2.2.2.2.2.2, by rw [hSB.kds.2.2.1]; decide, .ofKd hSB.kds.2.2.1 (by decide)⟩
    · exact ⟨ownsRow_base hSB.2.1.2.1 y e, by rw [hSB.kds.2.2.2 y e]; decide, .ofKd (hSB.kds.2.2.2 y e) (by decide)⟩
theorem BxP.updL (h : BxP w base X gA bA gB bB gp gq vp vq vL vW r cA s cB Lp Lq xs ys ls) (hE : OutE E xs ys) (hlt : ∀ y ∈ E, y < w.heap.size) (hk : FrK base [74 + 1, 23 + 1] [] w w') (k : ∃ vL' vW' xs' ys' ls', BoxL w' base X (ptr gA) (ptr gB) (ptr gp) (ptr gq) vL' vW' xs' ys' ls' ∧ ls'.length ≤ 44 ∧ ∀ x, x ∈ xs' ∨ x ∈ ys' → (x ∈ xs ∨ x ∈ ys) ∨ ∀ y, x.ownBlock = some y → w.heap.size ≤ y) : BxI E w' base X gA bA r ∧ FrB base w w' := by
  obtain ⟨vL', vW', xs', ys', ls', hb, hl, hnew⟩ := k
  have hf := FrB.ofK hk (by decide) (by decide)
  exact ⟨⟨gB, bB, gp, gq, vp, vq, vL', vW', cA, s, cB, Lp, Lq, xs', ys', ls', ⟨hb, hl, h.2.2.1.frK hk, h.2.2.2.1.frK hk, h.2.2.2.2.1, h.2.2.2.2.2.1, Nat.le_trans h.2.2.2.2.2.2 hf.size⟩, fun x hx y hy hm => by
    rcases hnew x hx with h1 | h1
    · exact hE x h1 y hy hm
    · have := h1 y hy; have := hlt y hm; omega⟩, hf⟩
end
theorem BxI.fr0 {E : List Nat} {w w' : World} {base X gA bA r : Nat} (h : BxI E w base X gA bA r) (f : Fr [] w w') : BxI E w' base X gA bA r := by
  obtain ⟨gB, bB, gp, gq, vp, vq, vL, vW, cA, s, cB, Lp, Lq, xs, ys, ls, h, hE⟩ := h
  exact ⟨gB, bB, gp, gq, vp, vq, vL, vW, cA, s, cB, Lp, Lq, xs, ys, ls, h.fr0 f, hE⟩
/-- what a call that answers true leaves -/
def BxPost (E : List Nat) (w : World) (base X gA bA r : Nat) (e : Ending) (w' : World) : Prop := e = .returned (.bool true) ∧ BxI E w' base X gA bA r ∧ FrB base w w'

theorem changes_ok (E : List Nat) (base X gA bA r : Nat) (inV : Value) (kind slot num x : Int) (w : World) (h : BxI E w base X gA bA r) (hk : kind = 1 ∨ kind = 3 ∨ kind = 4 ∨ kind = 7) (hnum : (Lit.int .i64 num).wf = true) (hx : (Lit.int .i64 x).wf = true) :
    Calls Try.prog 42 #[.pointer (some ⟨X, 0, none⟩), .agg #[.int .i64 kind, .int .i64 slot, .int .i64 num, .int .i64 x, inV]] w (BxPost E w base X gA bA r) := by
  obtain ⟨gB, bB, gp, gq, vp, vq, vL, vW, cA, s, cB, Lp, Lq, xs, ys, ls, h, hE⟩ := h
  have hb := h.2.2.2.2.2.2
  rcases (show slot % 2 = 0 ∨ slot % 2 = 1 by omega) with hs | hs
  · rcases hk with rfl | rfl | rfl | rfl
    · exact (changesA_put base X gA bA gp vp _ _ vL vW inV r cA Lp slot num x w h.1.1 h.2.2.1 hb hs hnum hx).mono fun e w' ⟨he, hp⟩ => ⟨he, h.updA hE hp⟩
    · exact (changesA_pop base X gA bA gp vp _ _ vL vW inV r cA Lp slot num x w h.1.1 h.2.2.1 hb hs hnum hx).mono fun e w' ⟨he, hp⟩ => ⟨he, h.updA hE hp⟩
    · exact (changesA_toss base X gA bA gp vp _ _ vL vW inV r cA Lp slot num x w h.1.1 h.2.2.1 hb hs hnum hx).mono fun e w' ⟨he, hp⟩ => ⟨he, h.updA hE hp⟩
    · exact (changesA_reset base X gA bA gp vp _ _ vL vW inV r cA Lp slot num x w h.1.1 h.2.2.1 hb hs hnum hx).mono fun e w' ⟨he, hp⟩ => ⟨he, h.updA hE hp⟩
  · rcases hk with rfl | rfl | rfl | rfl
    · exact (changesB_put base X gB bB gq vq _ _ vL vW inV s cB Lq slot num x w h.1.1 h.2.2.2.1 hb hs hnum hx).mono fun e w' ⟨he, hp⟩ => ⟨he, h.updB hE hp⟩
    · exact (changesB_pop base X gB bB gq vq _ _ vL vW inV s cB Lq slot num x w h.1.1 h.2.2.2.1 hb hs hnum hx).mono fun e w' ⟨he, hp⟩ => ⟨he, h.updB hE hp⟩
    · exact (changesB_toss base X gB bB gq vq _ _ vL vW inV s cB Lq slot num x w h.1.1 h.2.2.2.1 hb hs hnum hx).mono fun e w' ⟨he, hp⟩ => ⟨he, h.updB hE hp⟩
    · exact (changesB_reset base X gB bB gq vq _ _ vL vW inV s cB Lq slot num x w h.1.1 h.2.2.2.1 hb hs hnum hx).mono fun e w' ⟨he, hp⟩ => ⟨he, h.updB hE hp⟩
theorem head_ok (E : List Nat) (base X gA bA r : Nat) (slot : Int) (w : World) (h : BxI E w base X gA bA r) (hs : slot = 0 ∨ slot = 1) : Calls Try.prog 29 #[.pointer (some ⟨X, 0, none⟩), .int .i64 slot] w (BxPost E w base X gA bA r) := by
  obtain ⟨gB, bB, gp, gq, vp, vq, vL, vW, cA, s, cB, Lp, Lq, xs, ys, ls, h, hE⟩ := h
  rcases hs with rfl | rfl
  · exact (head0_any base X gA bA gB gp gq vp vL vW r cA Lp w h.1.1 h.2.2.1).mono fun e w' ⟨he, hf⟩ => ⟨he, ⟨_, _, _, _, _, _, _, _, _, _, _, _, _, _, _, _, h.fr0 hf, hE⟩, .nil hf⟩
  · exact (head1_any base X gA gB bB gp gq vq vL vW s cB Lq w h.1.1 h.2.2.2.1).mono fun e w' ⟨he, hf⟩ => ⟨he, ⟨_, _, _, _, _, _, _, _, _, _, _, _, _, _, _, _, h.fr0 hf, hE⟩, .nil hf⟩
theorem held_ok (E : List Nat) (base X gA bA r : Nat) (slot : Int) (w : World) (hlt : ∀ y ∈ E, y < w.heap.size) (h : BxI E w base X gA bA r) (hs : slot = 0 ∨ slot = 1) : Calls Try.prog 30 #[.pointer (some ⟨X, 0, none⟩), .int .i64 slot] w (BxPost E w base X gA bA r) := by
  obtain ⟨gB, bB, gp, gq, vp, vq, vL, vW, cA, s, cB, Lp, Lq, xs, ys, ls, h, hE⟩ := h
  rcases hs with rfl | rfl
  · exact (held0_any base X gA bA gB bB gp gq vp vq vL vW r cA s cB Lp Lq xs ys ls w h.1 h.2.2.1 h.2.2.2.1 h.2.2.2.2.2.2 h.2.2.2.2.2.1.1 h.2.1).mono fun e w' ⟨he, hp, hf⟩ => ⟨he, h.updL hE hlt hf hp⟩
  · exact (held1_any base X gA bA gB bB gp gq vp vq vL vW r cA s cB Lp Lq xs ys ls w h.1 h.2.2.1 h.2.2.2.1 h.2.2.2.2.2.2 h.2.2.2.2.2.1.1 h.2.1).mono fun e w' ⟨he, hp, hf⟩ => ⟨he, h.updL hE hlt hf hp⟩
theorem calm_ok (E : List Nat) (base X gA bA r : Nat) (w : World) (h : BxI E w base X gA bA r) : Calls Try.prog 28 #[.pointer (some ⟨X, 0, none⟩)] w fun e w' => e = .returned (.bool true) ∧ ∃ n, w' = w.drewN n := by
  obtain ⟨gB, bB, gp, gq, vp, vq, vL, vW, cA, s, cB, Lp, Lq, xs, ys, ls, h, hE⟩ := h
  exact calm_any base X _ _ _ _ vL vW xs ys ls w h.1 (by have := h.2.1; omega)
/-- a block that is new is none of theirs -/
theorem BxI.add {E : List Nat} {w : World} {base X gA bA r n : Nat} (h : BxI E w base X gA bA r) (hn : w.heap.size ≤ n) : BxI (n :: E) w base X gA bA r := by
  obtain ⟨gB, bB, gp, gq, vp, vq, vL, vW, cA, s, cB, Lp, Lq, xs, ys, ls, h, hE⟩ := h
  refine ⟨gB, bB, gp, gq, vp, vq, vL, vW, cA, s, cB, Lp, Lq, xs, ys, ls, h, fun x hx y hy hm => ?_⟩
  rcases List.mem_cons.1 hm with rfl | hm
  · rcases hx with hx | hx
    · have := h.1.2.1.lt x hx y hy; omega
    · have := h.1.2.2.1.lt x hx y hy; omega
  · exact hE x hx y hy hm
theorem BxI.drop {E : List Nat} {w : World} {base X gA bA r n : Nat} (h : BxI (n :: E) w base X gA bA r) : BxI E w base X gA bA r := by
  obtain ⟨gB, bB, gp, gq, vp, vq, vL, vW, cA, s, cB, Lp, Lq, xs, ys, ls, h, hE⟩ := h
  exact ⟨gB, bB, gp, gq, vp, vq, vL, vW, cA, s, cB, Lp, Lq, xs, ys, ls, h, fun x hx y hy hm => hE x hx y hy (List.mem_cons_of_mem _ hm)⟩
end Go.Proofs.Ytjhemoekmlhlpaa
