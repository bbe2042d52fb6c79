/- The two inboxes of a Box with the document's: what every step keeps; the contract of Box.step. -/
import Derived.Test.YtjhemoekmlhlpaaBoxG
namespace Go.Proofs.Ytjhemoekmlhlpaa
open Go Go.RowKit
set_option linter.unusedVariables false

/-- w' is w, but for new blocks and blocks from base on -/
def FrB (base : Nat) (w w' : World) : Prop := ∃ S, Fr S w w' ∧ ∀ y ∈ S, base ≤ y
theorem FrB.of {base : Nat} {S : List Nat} {w w' : World} (h : Fr S w w') (hS : ∀ y ∈ S, base ≤ y) : FrB base w w' := ⟨S, h, hS⟩
theorem FrB.nil {base : Nat} {w w' : World} (h : Fr [] w w') : FrB base w w' := ⟨[], h, fun _ h => by cases h⟩
theorem FrB.trans {base : Nat} {w w1 w2 : World} (h : FrB base w w1) (k : FrB base w1 w2) : FrB base w w2 := by
  obtain ⟨S1, f1, h1⟩ := h
  obtain ⟨S2, f2, h2⟩ := k
  exact ⟨S1 ++ S2, (f1.mono (T := S1 ++ S2) (fun b hb _ => List.mem_append_left _ hb)).trans f2 (fun b hb _ => List.mem_append_right _ hb), fun y hy => (List.mem_append.1 hy).elim (h1 y) (h2 y)⟩
theorem FrB.size {base : Nat} {w w' : World} (h : FrB base w w') : w.heap.size ≤ w'.heap.size := by
  obtain ⟨S, f, _⟩ := h
  exact f.size
theorem FrB.ofK {base : Nat} {ks : List Nat} {w w' : World} (h : FrK base ks [] w w') (hb : base ≤ w.heap.size) : FrB base w w' := by
  obtain ⟨S, f, hS⟩ := h
  refine ⟨S.filter (fun y => decide (base ≤ y)), f.mono (fun y hy hl => ?_), fun y hy => by simpa using (List.mem_filter.1 hy).2⟩
  rcases hS y hy hl with h | h
  · cases h
  · exact List.mem_filter.2 ⟨hy, by simpa using h.2⟩
theorem FrB.fr0 {w0 w w' : World} (h : Fr [] w0 w) (k : FrB w0.heap.size w w') : Fr [] w0 w' := by
  obtain ⟨S, f, hS⟩ := k
  exact h.trans f (fun b hb hl => absurd (hS b hb) (by omega))

def BxP (w : World) (base X gA bA gB bB gp gq : Nat) (vp vq vL vW : Value) (r cA s cB : Nat) (Lp Lq : List (Int × Int)) (xs ys : List Value) (ls : List (List Int)) : Prop :=
  BoxL w base X (ptr gA) (ptr gB) (ptr gp) (ptr gq) vL vW xs ys ls ∧ ls.length ≤ 44 ∧ SideA w base gA bA gp vp r cA Lp ∧ SideB w base gB bB gq vq s cB Lq ∧
  (gp ≠ gq ∧ bA ≠ bB ∧ ∀ y, vp.ownBlock = some y → vq.ownBlock ≠ some y) ∧ (base ≤ X ∧ base ≤ gA ∧ base ≤ bA ∧ base ≤ gB ∧ base ≤ bB ∧ base ≤ gp ∧ base ≤ gq) ∧ base ≤ w.heap.size
def BxI (w : World) (base X : Nat) : Prop := ∃ gA bA gB bB gp gq vp vq vL vW r cA s cB Lp Lq xs ys ls, BxP w base X gA bA gB bB gp gq vp vq vL vW r cA s cB Lp Lq xs ys ls
section
variable {w w' : World} {base X gA bA gB bB gp gq : Nat} {vp vq vL vW : Value} {r cA s cB : Nat} {Lp Lq : List (Int × Int)} {xs ys : List Value} {ls : List (List Int)}
theorem BxP.fr0 (h : BxP w base X gA bA gB bB gp gq vp vq vL vW r cA s cB Lp Lq xs ys ls) (f : Fr [] w w') : BxP w' base X gA bA gB bB gp gq vp vq vL vW r cA s cB Lp Lq xs ys ls :=
  ⟨h.1.fr0 f, h.2.1, h.2.2.1.fr0 f, h.2.2.2.1.fr0 f, h.2.2.2.2.1, h.2.2.2.2.2.1, Nat.le_trans h.2.2.2.2.2.2 f.size⟩
theorem SideB.frA (h : SideB w base gB bB gq vq s cB Lq) (k : SideA w base gA bA gp vp r cA Lp) (f : Fr (SideS gA bA gp vp) w w') (h1 : gp ≠ gq) (h2 : bA ≠ bB) (h3 : ∀ y, vp.ownBlock = some y → vq.ownBlock ≠ some y) : SideB w' base gB bB gq vq s cB Lq := by
  have e1 : gB ∉ SideS gA bA gp vp := (k.noKd _ (by decide) (by decide) (by decide) (by decide)).not h.kds.1
  have e2 : bB ∉ SideS gA bA gp vp := by
    unfold SideS
    intro hm
    simp only [List.mem_cons, Option.mem_toList] at hm
    rcases hm with e | e | e | e
    · exact kd_ne h.kds.2.1 k.kds.1 (by decide) e
    · exact h2 e.symm
    · exact kd_ne h.kds.2.1 k.kds.2.2.1 (by decide) e
    · exact kd_ne h.kds.2.1 (k.kds.2.2.2 _ e) (by decide) rfl
  have e3 : gq ∉ SideS gA bA gp vp := by
    unfold SideS
    intro hm
    simp only [List.mem_cons, Option.mem_toList] at hm
    rcases hm with e | e | e | e
    · exact kd_ne h.kds.2.2.1 k.kds.1 (by decide) e
    · exact kd_ne h.kds.2.2.1 k.kds.2.1 (by decide) e
    · exact h1 e.symm
    · exact kd_ne h.kds.2.2.1 (k.kds.2.2.2 _ e) (by decide) rfl
  have e4 : ∀ y, vq.ownBlock = some y → y ∉ SideS gA bA gp vp := by
    unfold SideS
    intro y hy hm
    simp only [List.mem_cons, Option.mem_toList] at hm
    rcases hm with e | e | e | e
    · exact kd_ne (h.kds.2.2.2 y hy) k.kds.1 (by decide) e
    · exact kd_ne (h.kds.2.2.2 y hy) k.kds.2.1 (by decide) e
    · exact kd_ne (h.kds.2.2.2 y hy) k.kds.2.2.1 (by decide) e
    · exact h3 y e hy
  exact ⟨h.1.fr f e1 e2, ⟨h.2.1.1.fr f e3, owns_fr h.2.1.2.1 f e4, h.2.1.2.2⟩, h.2.2⟩
theorem SideA.frB (h : SideA w base gA bA gp vp r cA Lp) (k : SideB w base gB bB gq vq s cB Lq) (f : Fr (SideS gB bB gq vq) w w') (h1 : gp ≠ gq) (h2 : bA ≠ bB) (h3 : ∀ y, vp.ownBlock = some y → vq.ownBlock ≠ some y) : SideA w' base gA bA gp vp r cA Lp := by
  have e1 : gA ∉ SideS gB bB gq vq := (k.noKd _ (by decide) (by decide) (by decide) (by decide)).not h.kds.1
  have e2 : bA ∉ SideS gB bB gq vq := by
    unfold SideS
    intro hm
    simp only [List.mem_cons, Option.mem_toList] at hm
    rcases hm with e | e | e | e
    · exact kd_ne h.kds.2.1 k.kds.1 (by decide) e
    · exact h2 e
    · exact kd_ne h.kds.2.1 k.kds.2.2.1 (by decide) e
    · exact kd_ne h.kds.2.1 (k.kds.2.2.2 _ e) (by decide) rfl
  have e3 : gp ∉ SideS gB bB gq vq := by
    unfold SideS
    intro hm
    simp only [List.mem_cons, Option.mem_toList] at hm
    rcases hm with e | e | e | e
    · exact kd_ne h.kds.2.2.1 k.kds.1 (by decide) e
    · exact kd_ne h.kds.2.2.1 k.kds.2.1 (by decide) e
    · exact h1 e
    · exact kd_ne h.kds.2.2.1 (k.kds.2.2.2 _ e) (by decide) rfl
  have e4 : ∀ y, vp.ownBlock = some y → y ∉ SideS gB bB gq vq := by
    unfold SideS
    intro y hy hm
    simp only [List.mem_cons, Option.mem_toList] at hm
    rcases hm with e | e | e | e
    · exact kd_ne (h.kds.2.2.2 y hy) k.kds.1 (by decide) e
    · exact kd_ne (h.kds.2.2.2 y hy) k.kds.2.1 (by decide) e
    · exact kd_ne (h.kds.2.2.2 y hy) k.kds.2.2.1 (by decide) e
    · exact h3 y hy e
  exact ⟨h.1.fr f e1 e2, ⟨h.2.1.1.fr f e3, owns_fr h.2.1.2.1 f e4, h.2.1.2.2⟩, h.2.2⟩
theorem BxP.updA (h : BxP w base X gA bA gB bB gp gq vp vq vL vW r cA s cB Lp Lq xs ys ls) (k : ∃ vp' c' L', SideA w' base gA bA gp vp' r c' L' ∧ Fr (SideS gA bA gp vp) w w' ∧ (vp'.ownBlock = vp.ownBlock ∨ ∀ y, vp'.ownBlock = some y → w.heap.size ≤ y)) : BxI w' base X ∧ FrB base w w' := by
  obtain ⟨vp', c', L', hs, hf, hv⟩ := k
  have hSA := h.2.2.1
  have hSB := h.2.2.2.1
  have hk : ∀ k, 82 + 1 ≠ k → 0 ≠ k → 99 + 1 ≠ k → 110 + 1 ≠ k → NoKd w (SideS gA bA gp vp) k := fun k h1 h2 h3 h4 => hSA.noKd k h1 h2 h3 h4
  refine ⟨⟨gA, bA, gB, bB, gp, gq, vp', vq, vL, vW, r, c', s, cB, L', Lq, xs, ys, ls, h.1.fr hf (hk _ (by decide) (by decide) (by decide) (by decide)) (hk _ (by decide) (by decide) (by decide) (by decide)) (hk _ (by decide) (by decide) (by decide) (by decide)), h.2.1, hs, hSB.frA hSA hf h.2.2.2.2.1.1 h.2.2.2.2.1.2.1 h.2.2.2.2.1.2.2, ⟨h.2.2.2.2.1.1, h.2.2.2.2.1.2.1, fun y hy hz => ?_⟩, h.2.2.2.2.2.1, Nat.le_trans h.2.2.2.2.2.2 hf.size⟩, .of hf fun y hy => ?_⟩
  · rcases hv with e | e
    · exact h.2.2.2.2.1.2.2 y (by rw [← e]; exact hy) hz
    · have := e y hy
      have := (hSB.2.1.2.1.lt y hz).2
      omega
  · unfold SideS at hy
    simp only [List.mem_cons, Option.mem_toList] at hy
    have hb := h.2.2.2.2.2.1
    rcases hy with rfl | rfl | rfl | e
    · exact hb.2.1
    · exact hb.2.2.1
    · exact hb.2.2.2.2.2.1
    · exact ownsRow_base hSA.2.1.2.1 y e
theorem BxP.updB (h : BxP w base X gA bA gB bB gp gq vp vq vL vW r cA s cB Lp Lq xs ys ls) (k : ∃ vp' c' L', SideB w' base gB bB gq vp' s c' L' ∧ Fr (SideS gB bB gq vq) w w' ∧ (vp'.ownBlock = vq.ownBlock ∨ ∀ y, vp'.ownBlock = some y → w.heap.size ≤ y)) : BxI w' base X ∧ FrB base w w' := by
  obtain ⟨vp', c', L', hs, hf, hv⟩ := k
  have hSA := h.2.2.1
  have hSB := h.2.2.2.1
  have hk : ∀ k, 105 + 1 ≠ k → 0 ≠ k → 99 + 1 ≠ k → 110 + 1 ≠ k → NoKd w (SideS gB bB gq vq) k := fun k h1 h2 h3 h4 => hSB.noKd k h1 h2 h3 h4
  refine ⟨⟨gA, bA, gB, bB, gp, gq, vp, vp', vL, vW, r, cA, s, c', Lp, L', xs, ys, ls, h.1.fr hf (hk _ (by decide) (by decide) (by decide) (by decide)) (hk _ (by decide) (by decide) (by decide) (by decide)) (hk _ (by decide) (by decide) (by decide) (by decide)), h.2.1, hSA.frB hSB hf h.2.2.2.2.1.1 h.2.2.2.2.1.2.1 h.2.2.2.2.1.2.2, hs, ⟨h.2.2.2.2.1.1, h.2.2.2.2.1.2.1, fun y hy hz => ?_⟩, h.2.2.2.2.2.1, Nat.le_trans h.2.2.2.2.2.2 hf.size⟩, .of hf fun y hy => ?_⟩
  · rcases hv with e | e
    · exact h.2.2.2.2.1.2.2 y hy (by rw [← e]; exact hz)
    · have := e y hz
      have := (hSA.2.1.2.1.lt y hy).2
      omega
  · unfold SideS at hy
    simp only [List.mem_cons, Option.mem_toList] at hy
    have hb := h.2.2.2.2.2.1
    rcases hy with rfl | rfl | rfl | e
    · exact hb.2.2.2.1
    · exact hb.2.2.2.2.1
    · exact hb.2.2.2.2.2.2
    · exact ownsRow_base hSB.2.1.2.1 y e
theorem BxP.updL (h : BxP w base X gA bA gB bB gp gq vp vq vL vW r cA s cB Lp Lq xs ys ls) (hk : FrK base [74 + 1, 23 + 1] [] w w') (k : ∃ vL' vW' xs' ys' ls', BoxL w' base X (ptr gA) (ptr gB) (ptr gp) (ptr gq) vL' vW' xs' ys' ls' ∧ ls'.length ≤ 44) : BxI w' base X ∧ FrB base w w' := by
  obtain ⟨vL', vW', xs', ys', ls', hb, hl⟩ := k
  have hf := FrB.ofK hk h.2.2.2.2.2.2
  exact ⟨⟨gA, bA, gB, bB, gp, gq, vp, vq, vL', vW', r, cA, s, cB, Lp, Lq, xs', ys', ls', hb, hl, h.2.2.1.frK hk, h.2.2.2.1.frK hk, h.2.2.2.2.1, h.2.2.2.2.2.1, Nat.le_trans h.2.2.2.2.2.2 hf.size⟩, hf⟩
end
theorem BxI.fr0 {w w' : World} {base X : Nat} (h : BxI w base X) (f : Fr [] w w') : BxI w' base X := by
  obtain ⟨gA, bA, gB, bB, gp, gq, vp, vq, vL, vW, r, cA, s, cB, Lp, Lq, xs, ys, ls, h⟩ := h
  exact ⟨gA, bA, gB, bB, gp, gq, vp, vq, vL, vW, r, cA, s, cB, Lp, Lq, xs, ys, ls, h.fr0 f⟩
/-- what a call that answers true leaves -/
def BxPost (w : World) (base X : Nat) (e : Ending) (w' : World) : Prop := e = .returned (.bool true) ∧ BxI w' base X ∧ FrB base w w'

theorem changes_ok (base X : Nat) (inV : Value) (kind slot num x : Int) (w : World) (h : BxI w base X) (hk : kind = 1 ∨ kind = 3 ∨ kind = 4 ∨ kind = 7) (hnum : (Lit.int .i64 num).wf = true) (hx : (Lit.int .i64 x).wf = true) :
    Calls Try.prog 42 #[.pointer (some ⟨X, 0, none⟩), .agg #[.int .i64 kind, .int .i64 slot, .int .i64 num, .int .i64 x, inV]] w (BxPost w base X) := by
  obtain ⟨gA, bA, gB, bB, gp, gq, vp, vq, vL, vW, r, cA, s, cB, Lp, Lq, xs, ys, ls, h⟩ := h
  have hb := h.2.2.2.2.2.2
  rcases (show slot % 2 = 0 ∨ slot % 2 = 1 by omega) with hs | hs
  · rcases hk with rfl | rfl | rfl | rfl
    · exact (changesA_put base X gA bA gp vp _ _ vL vW inV r cA Lp slot num x w h.1.1 h.2.2.1 hb hs hnum hx).mono fun e w' ⟨he, hp⟩ => ⟨he, h.updA hp⟩
    · exact (changesA_pop base X gA bA gp vp _ _ vL vW inV r cA Lp slot num x w h.1.1 h.2.2.1 hb hs hnum hx).mono fun e w' ⟨he, hp⟩ => ⟨he, h.updA hp⟩
    · exact (changesA_toss base X gA bA gp vp _ _ vL vW inV r cA Lp slot num x w h.1.1 h.2.2.1 hb hs hnum hx).mono fun e w' ⟨he, hp⟩ => ⟨he, h.updA hp⟩
    · exact (changesA_reset base X gA bA gp vp _ _ vL vW inV r cA Lp slot num x w h.1.1 h.2.2.1 hb hs hnum hx).mono fun e w' ⟨he, hp⟩ => ⟨he, h.updA hp⟩
  · rcases hk with rfl | rfl | rfl | rfl
    · exact (changesB_put base X gB bB gq vq _ _ vL vW inV s cB Lq slot num x w h.1.1 h.2.2.2.1 hb hs hnum hx).mono fun e w' ⟨he, hp⟩ => ⟨he, h.updB hp⟩
    · exact (changesB_pop base X gB bB gq vq _ _ vL vW inV s cB Lq slot num x w h.1.1 h.2.2.2.1 hb hs hnum hx).mono fun e w' ⟨he, hp⟩ => ⟨he, h.updB hp⟩
    · exact (changesB_toss base X gB bB gq vq _ _ vL vW inV s cB Lq slot num x w h.1.1 h.2.2.2.1 hb hs hnum hx).mono fun e w' ⟨he, hp⟩ => ⟨he, h.updB hp⟩
    · exact (changesB_reset base X gB bB gq vq _ _ vL vW inV s cB Lq slot num x w h.1.1 h.2.2.2.1 hb hs hnum hx).mono fun e w' ⟨he, hp⟩ => ⟨he, h.updB hp⟩
theorem head_ok (base X : Nat) (slot : Int) (w : World) (h : BxI w base X) (hs : slot = 0 ∨ slot = 1) : Calls Try.prog 29 #[.pointer (some ⟨X, 0, none⟩), .int .i64 slot] w (BxPost w base X) := by
  obtain ⟨gA, bA, gB, bB, gp, gq, vp, vq, vL, vW, r, cA, s, cB, Lp, Lq, xs, ys, ls, h⟩ := h
  rcases hs with rfl | rfl
  · exact (head0_any base X gA bA gB gp gq vp vL vW r cA Lp w h.1.1 h.2.2.1).mono fun e w' ⟨he, hf⟩ => ⟨he, ⟨_, _, _, _, _, _, _, _, _, _, _, _, _, _, _, _, _, _, _, h.fr0 hf⟩, .nil hf⟩
  · exact (head1_any base X gA gB bB gp gq vq vL vW s cB Lq w h.1.1 h.2.2.2.1).mono fun e w' ⟨he, hf⟩ => ⟨he, ⟨_, _, _, _, _, _, _, _, _, _, _, _, _, _, _, _, _, _, _, h.fr0 hf⟩, .nil hf⟩
theorem held_ok (base X : Nat) (slot : Int) (w : World) (h : BxI w base X) (hs : slot = 0 ∨ slot = 1) : Calls Try.prog 30 #[.pointer (some ⟨X, 0, none⟩), .int .i64 slot] w (BxPost w base X) := by
  obtain ⟨gA, bA, gB, bB, gp, gq, vp, vq, vL, vW, r, cA, s, cB, Lp, Lq, xs, ys, ls, h⟩ := h
  rcases hs with rfl | rfl
  · exact (held0_any base X gA bA gB bB gp gq vp vq vL vW r cA s cB Lp Lq xs ys ls w h.1 h.2.2.1 h.2.2.2.1 h.2.2.2.2.2.2 h.2.2.2.2.2.1.1 h.2.1).mono fun e w' ⟨he, hp, hf⟩ => ⟨he, h.updL hf hp⟩
  · exact (held1_any base X gA bA gB bB gp gq vp vq vL vW r cA s cB Lp Lq xs ys ls w h.1 h.2.2.1 h.2.2.2.1 h.2.2.2.2.2.2 h.2.2.2.2.2.1.1 h.2.1).mono fun e w' ⟨he, hp, hf⟩ => ⟨he, h.updL hf hp⟩
theorem calm_ok (base X : Nat) (w : World) (h : BxI w base X) : Calls Try.prog 28 #[.pointer (some ⟨X, 0, none⟩)] w fun e w' => e = .returned (.bool true) ∧ ∃ n, w' = w.drewN n := by
  obtain ⟨gA, bA, gB, bB, gp, gq, vp, vq, vL, vW, r, cA, s, cB, Lp, Lq, xs, ys, ls, h⟩ := h
  exact calm_any base X _ _ _ _ vL vW xs ys ls w h.1 (by have := h.2.1; omega)
end Go.Proofs.Ytjhemoekmlhlpaa
