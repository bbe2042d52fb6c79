/- A range over inbox.Inbox[int].Run, whatever its body does with the inbox. -/
import Derived.Test.YtjhemoekmlhlpaaRunA
namespace Go.Proofs.Ytjhemoekmlhlpaa
open Go Go.RowKit Go.Maps Go.Sort Go.Shelf
set_option linter.unusedVariables false

theorem Fr.putObj {S : List Nat} {w w' : World} {l : Nat} {o o' : Obj} (h : Fr S w w') (hl : w.heap[l]? = some o) (hl' : w'.heap[l]? = some o) : Fr S (w.putObj l o') (w'.putObj l o') := by
  refine ⟨h.os, h.tape, h.output, by simpa using h.size, fun k hk hS => ?_⟩
  rw [World.putObj_size] at hk
  by_cases e : k = l
  · subst e
    rw [World.putObj_heap_same (Array.getElem?_eq_some_iff.1 hl).1, World.putObj_heap_same (Array.getElem?_eq_some_iff.1 hl').1]
  · rw [World.putObj_heap_other e, World.putObj_heap_other e]
    exact h.block k hk hS
theorem Fr.put1 {w : World} {l : Nat} {o' : Obj} : Fr [l] w (w.putObj l o') := Fr.ofGrown (grownBy_putObj' w l o') (fun b hb _ => by cases hb; simp)
theorem Row.putObj {w : World} {g l : Nat} {c : List Value} {T : TypeId} {o o' : Obj} (h : Row w g c T) (hl : w.heap[l]? = some o) (ho : o.isCells = false) : Row (w.putObj l o') g c T := by
  refine h.fr Fr.put1 ?_
  intro hm
  simp at hm
  subst hm
  unfold Row at h
  rw [hl] at h
  obtain rfl := Option.some.inj h
  cases ho
theorem MapF.putObj {w : World} {b l : Nat} {f : Int → Option Int} {o o' : Obj} (h : MapF w b f) (hl : w.heap[l]? = some o) (ho : o.isWalk = false) : MapF (w.putObj l o') b f := by
  refine h.fr Fr.put1 ?_
  intro hm
  simp at hm
  subst hm
  obtain ⟨es, cl, he⟩ := h.block
  rw [hl] at he
  obtain rfl := Option.some.inj he
  cases ho
theorem Ibx.putObj {w : World} {g b r c l : Nat} {f : Int → Option Int} {o o' : Obj} (h : Ibx w g b r c f) (hl : w.heap[l]? = some o) (ho : o.isCells = false) (ho2 : o.isWalk = false) : Ibx (w.putObj l o') g b r c f :=
  ⟨h.1.putObj hl ho, h.2.1.putObj hl ho2, h.2.2⟩

/-- how the body of a round may be left -/
def RoundPost (B0 m : Nat) (J : Nat → World → Prop) (Ix : Code → World → Prop) (W : World) : Exit → Act → World → Prop
  | .normal, _, W' => (∀ (k : Nat) (o : Obj), B0 ≤ k → W.heap[k]? = some o → o.isCells = false → o.isWalk = false → W'.heap[k]? = some o) ∧ ∃ m', m' < m ∧ J m' W'
  | .ret, _, W' => (∀ (k : Nat) (o : Obj), B0 ≤ k → W.heap[k]? = some o → o.isCells = false → o.isWalk = false → W'.heap[k]? = some o) ∧ Ix .ret W'
  | .exit id, _, W' => (∀ (k : Nat) (o : Obj), B0 ≤ k → W.heap[k]? = some o → o.isCells = false → o.isWalk = false → W'.heap[k]? = some o) ∧ Ix (.exit id) W'
  | .goto t, _, W' => (∀ (k : Nat) (o : Obj), B0 ≤ k → W.heap[k]? = some o → o.isCells = false → o.isWalk = false → W'.heap[k]? = some o) ∧ Ix (.goto t) W'
  | .panic _, _, _ => False
  | .outgrown, _, _ => False

set_option maxHeartbeats 4000000 in
theorem wpIn_range_run {gop : Operand} {ps : Array Tmp} {assign body : Code} {Q : Exit → Act → World → Prop} {a : Act} {w : World} {B g bA r : Nat}
    (hg : a.eval gop = .func (.func 50) #[] #[.pointer (some ⟨B, 0, none⟩)]) (hps : ps.size = 2)
    (J : Nat → World → Prop) (hJf : ∀ m W W', J m W → Fr [] W W' → J m W') (hJp : ∀ m W l o o', J m W → w.heap.size ≤ l → W.heap[l]? = some o → o.isCells = false → o.isWalk = false → J m (W.putObj l o'))
    (hJi : ∀ m W, J m W → ∃ c f, Ibx W g bA r c f ∧ W.cell? ⟨B, 0, none⟩ = some (ptr g) ∧ B ≠ g)
    (Ix : Code → World → Prop) (hIp : ∀ c W l o o', Ix c W → w.heap.size ≤ l → W.heap[l]? = some o → o.isCells = false → o.isWalk = false → Ix c (W.putObj l o'))
    (m0 : Nat) (h0 : J m0 w) (a₁ : Int → Int → Act)
    (hassign : ∀ (l : Nat) (x v : Int) (W : World) (K : Act → World → Prop), K (a₁ x v) W →
      assign.wpIn (Fence.wide.inRound l) 4 Try.prog (Exit.then K (fun _ _ _ => False)) { tmps := (ps.zip #[.int .i64 x, .int .i64 v]).foldl (fun t (p, v) => t.setIfInBounds p v) a.tmps, defers := [] } W)
    (hbody : ∀ (l m : Nat) (W : World) (c : Nat) (f : Int → Option Int) (v : Int), J m W → Ibx W g bA r c f → f ((c + 1 : Nat) : Int) = some v → ∀ W', Fr [g, bA] W W' → Ibx W' g bA r (c + 1) (upd f ((c + 1 : Nat) : Int) none) →
      body.wpIn (Fence.wide.inRound l) 4 Try.prog (RoundPost w.heap.size m J Ix W') (a₁ ((c + 1 : Nat) : Int) v) W')
    (hdone : ∀ (D m : Nat) (W : World) (c : Nat) (f : Int → Option Int), w.heap.size ≤ D → J m W → Ibx W g bA r c f → f ((c + 1 : Nat) : Int) = none → W.heap[D]? = some (.deferred (some [])) → Q .normal { a with defers := { target := .collected D, args := #[] } :: a.defers } W)
    (hstop : ∀ (D : Nat) (c : Code) (W : World), w.heap.size ≤ D → Ix c W → W.heap[D]? = some (.deferred (some [])) → c.wpIn Fence.wide 6 Try.prog Q { a with defers := { target := .collected D, args := #[] } :: a.defers } W) :
    (Code.rangeFunc gop ps assign body).wpIn Fence.wide 6 Try.prog Q a w := by
  refine wpIn_rangeFunc ?_
  intro fn hfn
  obtain ⟨rec, hrec⟩ : ∃ rec : LoopState → Option Code → Loop, rec = fun st pe => { state := st, pending := pe, fn, tmps := a.tmps, params := ps, assign, body, defers := w.heap.size } := ⟨_, rfl⟩
  obtain ⟨W1, hW1⟩ : ∃ W1, (w.alloc (.deferred (some []))).alloc (.loop (rec .ready none)) = W1 := ⟨_, rfl⟩
  have hL1 : W1.heap[w.heap.size + 1]? = some (.loop (rec .ready none)) := by
    rw [← hW1]; have := World.alloc_heap_new (w.alloc (.deferred (some []))) (.loop (rec .ready none)); rwa [World.size_alloc] at this
  have hK1 : W1.heap[w.heap.size]? = some (.deferred (some [])) := by
    rw [← hW1]; exact (Below.heap_alloc _ _ _ (by simp)).trans (World.alloc_heap_new w _)
  have hf1 : Fr [] w W1 := by rw [← hW1]; exact ((Fr.refl [] w).alloc _).alloc _
  refine ⟨w.heap.size + 1, [{ target := .collected w.heap.size, args := #[] }], W1, { target := .fn (.func 50) #[.pointer (some ⟨B, 0, none⟩)], args := #[.func (.yield (w.heap.size + 1)) #[] #[]] }, W1, 50,
    #[.func (.yield (w.heap.size + 1)) #[] #[], .pointer (some ⟨B, 0, none⟩)], W1, ?_, ?_, ?_, ?_, fun _ => by omega, ?_⟩
  · rw [← hW1, hrec]; exact run_enterLoop_outer _ _ _ _ _
  · simp only [resolve, hg]
    simp [go_sem]
  · intro f' hf'; trivial
  · simp [invoke, go_sem]
  · -- the loop's own record and block beside the caller's invariant
    have hl0 : ∀ (o : Obj) (S : List Nat) (W W' : World), Fr S W W' → (∀ y ∈ S, ∀ o', W.heap[y]? = some o' → o'.isCells = true ∨ o'.isWalk = true) → ∀ k, W.heap[k]? = some o → o.isCells = false → o.isWalk = false → W'.heap[k]? = some o := fun o S W W' hf hS k hk h1 h2 => by
      refine (hf.block k (Array.getElem?_eq_some_iff.1 hk).1 (fun hm => ?_)).trans hk
      rcases hS k hm o hk with e | e
      · rw [h1] at e; cases e
      · rw [h2] at e; cases e
    have hgb : ∀ (W : World) (c : Nat) (f : Int → Option Int), Ibx W g bA r c f → ∀ y ∈ [g, bA], ∀ o', W.heap[y]? = some o' → o'.isCells = true ∨ o'.isWalk = true := fun W c f hi y hy o' ho' => by
      simp at hy
      rcases hy with rfl | rfl
      · have h5 := hi.1
        unfold Row at h5
        rw [h5] at ho'
        obtain rfl := Option.some.inj ho'
        exact .inl rfl
      · obtain ⟨es, cl, he⟩ := hi.2.1.block
        rw [he] at ho'
        obtain rfl := Option.some.inj ho'
        exact .inr rfl
    refine (run1_in (w.heap.size + 1) B g bA r
      (fun m W => J m W ∧ W.heap[w.heap.size + 1]? = some (.loop (rec .ready none)) ∧ W.heap[w.heap.size]? = some (.deferred (some [])))
      (fun W => ∃ c, Ix c W ∧ W.heap[w.heap.size + 1]? = some (.loop (rec .done (some c))) ∧ W.heap[w.heap.size]? = some (.deferred (some [])))
      (fun m W W' h hf => ⟨hJf m W W' h.1 hf, (hf.block _ (Array.getElem?_eq_some_iff.1 h.2.1).1 (by simp)).trans h.2.1, (hf.block _ (Array.getElem?_eq_some_iff.1 h.2.2).1 (by simp)).trans h.2.2⟩)
      (fun m W h => hJi m W h.1) ?_ m0 W1 ⟨hJf m0 w W1 h0 hf1, hL1, hK1⟩).mono ?_
    · -- one round
      rintro m W c f v ⟨hj, hl, hk⟩ hi hfc W' hf hi'
      have hl' := hl0 _ _ W W' hf (hgb W c f hi) _ hl rfl rfl
      have hk' := hl0 _ _ W W' hf (hgb W c f hi) _ hk rfl rfl
      have hlt : w.heap.size + 1 < W'.heap.size := (Array.getElem?_eq_some_iff.1 hl').1
      have hy := run_yield (P := Try.prog) (args := #[.int .i64 ((c + 1 : Nat) : Int), .int .i64 v]) hl' (by rw [hrec]; exact hps.symm)
      rw [hrec] at hy
      refine ⟨fn, _, assign, body, hy, roundIn_of_wpIn hfn (hassign _ _ v W' _ ⟨_, run_beginRound hl' (by rw [hrec]), ?_⟩)⟩
      have hl2 : (W'.putObj (w.heap.size + 1) (.loop { rec .ready none with state := .busy })).heap[w.heap.size + 1]? = some (.loop { rec .ready none with state := .busy }) := World.putObj_heap_same hlt
      have hk2 : (W'.putObj (w.heap.size + 1) (.loop { rec .ready none with state := .busy })).heap[w.heap.size]? = some (.deferred (some [])) := (World.putObj_heap_other (by omega)).trans hk'
      refine wpIn_mono (hbody _ m (W.putObj (w.heap.size + 1) (.loop { rec .ready none with state := .busy })) c f v (hJp m W _ _ _ hj (by omega) hl rfl rfl) (hi.putObj hl rfl rfl) hfc _ (hf.putObj hl hl') (hi'.putObj hl' rfl rfl)) ?_
      have fin : ∀ (jump : Option Code) (W3 : World), (∀ (k : Nat) (o : Obj), w.heap.size ≤ k → (W'.putObj (w.heap.size + 1) (.loop { rec .ready none with state := .busy })).heap[k]? = some o → o.isCells = false → o.isWalk = false → W3.heap[k]? = some o) →
          (Instr.endRound (w.heap.size + 1) jump).run Try.prog W3 = .ok (.bool jump.isNone) (W3.putObj (w.heap.size + 1) (.loop (rec (if jump.isNone then .ready else .done) jump))) ∧
          W3.heap[w.heap.size + 1]? = some (.loop { rec .ready none with state := .busy }) ∧
          (W3.putObj (w.heap.size + 1) (.loop (rec (if jump.isNone then .ready else .done) jump))).heap[w.heap.size + 1]? = some (.loop (rec (if jump.isNone then .ready else .done) jump)) ∧
          (W3.putObj (w.heap.size + 1) (.loop (rec (if jump.isNone then .ready else .done) jump))).heap[w.heap.size]? = some (.deferred (some [])) := fun jump W3 hk3 => by
        have hl3 := hk3 _ _ (by omega) hl2 rfl rfl
        have := run_endRound (P := Try.prog) jump hl3
        rw [hrec] at this ⊢
        exact ⟨this, by rw [hrec] at hl3; exact hl3, World.putObj_heap_same (Array.getElem?_eq_some_iff.1 hl3).1, (World.putObj_heap_other (by omega)).trans (hk3 _ _ (by omega) hk2 rfl rfl)⟩
      rintro e a3 W3 hp
      cases e with
      | normal =>
        obtain ⟨hk3, m', hm', hj3⟩ := hp
        obtain ⟨hr, hl3, hl4, hk4⟩ := fin none W3 hk3
        exact ⟨_, _, hr, .inl ⟨rfl, m', hm', hJp m' _ _ _ _ hj3 (by omega) hl3 rfl rfl, hl4, hk4⟩⟩
      | ret =>
        obtain ⟨hk3, hi3⟩ := hp
        obtain ⟨hr, hl3, hl4, hk4⟩ := fin (some .ret) W3 hk3
        exact ⟨_, _, hr, .inr ⟨rfl, .ret, hIp _ _ _ _ _ hi3 (by omega) hl3 rfl rfl, hl4, hk4⟩⟩
      | exit id =>
        obtain ⟨hk3, hi3⟩ := hp
        obtain ⟨hr, hl3, hl4, hk4⟩ := fin (some (.exit id)) W3 hk3
        exact ⟨_, _, hr, .inr ⟨rfl, .exit id, hIp _ _ _ _ _ hi3 (by omega) hl3 rfl rfl, hl4, hk4⟩⟩
      | goto t =>
        obtain ⟨hk3, hi3⟩ := hp
        obtain ⟨hr, hl3, hl4, hk4⟩ := fin (some (.goto t)) W3 hk3
        exact ⟨_, _, hr, .inr ⟨rfl, .goto t, hIp _ _ _ _ _ hi3 (by omega) hl3 rfl rfl, hl4, hk4⟩⟩
      | panic ch => exact hp.elim
      | outgrown => exact hp.elim
    · -- behind the iterator
      rintro e W2 ⟨⟨v, rfl⟩, (⟨m, c, f, ⟨hj, hl, hk⟩, hi, hfc⟩ | ⟨c, hi, hl, hk⟩)⟩
      · exact ⟨none, _, by have := run_endLoop (P := Try.prog) hl (by rw [hrec]; simp); rw [hrec] at this; exact this, hdone _ m _ c f (Nat.le_refl _) (hJp m _ _ _ _ hj (by omega) hl rfl rfl) (hi.putObj hl rfl rfl) hfc ((World.putObj_heap_other (by omega)).trans hk)⟩
      · exact ⟨some c, _, by have := run_endLoop (P := Try.prog) hl (by rw [hrec]; simp); rw [hrec] at this; exact this, hstop _ c _ (Nat.le_refl _) (hIp c _ _ _ _ hi (by omega) hl rfl rfl) ((World.putObj_heap_other (by omega)).trans hk)⟩
end Go.Proofs.Ytjhemoekmlhlpaa
