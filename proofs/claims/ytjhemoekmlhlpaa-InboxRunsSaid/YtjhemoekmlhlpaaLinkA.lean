/- The link's invariant (jotterlaw09.InboxLink), and how each call keeps it. No walk. -/
import Derived.Test.YtjhemoekmlhlpaaOuta
import Derived.Test.YtjhemoekmlhlpaaInb
import Derived.Test.YtjhemoekmlhlpaaInts
namespace Go.Proofs.Ytjhemoekmlhlpaa
open Go Go.RowKit
set_option linter.unusedVariables false

/-- pushed p, popped cum, acknowledged acked, sent; v: the outbox's slice, gv: what was got -/
def LinkI (w wr : World) (base g gi bi win r : Nat) (T : List Int) (p cum acked sent : Nat) (v gv : Value) (f : Int → Option Int) : Prop :=
  Obx wr base g v win acked sent ((T.take p).drop acked) ∧ Ibx wr gi bi r cum f ∧ wr.ownsRow base 3 1 gv cum (is (T.take cum)) ∧ (∀ y, v.ownBlock = some y → gv.ownBlock ≠ some y) ∧
  acked ≤ cum ∧ cum ≤ sent ∧ sent ≤ p ∧ p ≤ T.length ∧ (∀ j x, f j = some x → ∃ q : Nat, j = (q : Int) ∧ cum < q ∧ q ≤ sent ∧ T[q - 1]? = some x) ∧ Fr [] w wr ∧ w.heap.size ≤ base ∧ base ≤ wr.heap.size ∧ w.heap.size ≤ g ∧ w.heap.size ≤ gi ∧ w.heap.size ≤ bi

theorem Row.ne {w : World} {g g' : Nat} {c c' : List Value} {T T' : TypeId} (h : Row w g c T) (k : Row w g' c' T') (hT : T ≠ T') : g ≠ g' := by
  rintro rfl
  unfold Row at h k
  rw [h] at k
  exact hT (Obj.cells.inj (Option.some.inj k)).2.1
theorem own_lt {w : World} {base n : Nat} {e : TypeId} {size : Nat} {v : Value} {xs : List Value} (h : w.ownsRow base e size v n xs) : ∀ y, v.ownBlock = some y → base ≤ y ∧ y < w.heap.size := by
  intro y hy
  rcases h.2 with ⟨rfl, _⟩ | ⟨g, cap, cur, rfl, hb, hg, _⟩
  · cases hy
  · obtain rfl := Option.some.inj hy
    exact ⟨hb, (Array.getElem?_eq_some_iff.1 hg).1⟩
theorem own_neMap {w : World} {base n b : Nat} {e : TypeId} {size : Nat} {v : Value} {xs : List Value} {f : Int → Option Int} (h : w.ownsRow base e size v n xs) (k : MapF w b f) : v.ownBlock ≠ some b := by
  intro hy
  rcases h.2 with ⟨rfl, _⟩ | ⟨g, cap, cur, rfl, hb, hg, _⟩
  · cases hy
  · obtain rfl := Option.some.inj hy
    obtain ⟨es, cl, he⟩ := k.block
    rw [hg] at he
    cases Option.some.inj he
theorem mem_own {v : Value} {y : Nat} (h : y ∈ v.ownBlock.toList) : v.ownBlock = some y := by
  cases hv : v.ownBlock with
  | none => rw [hv] at h; simp at h
  | some z => rw [hv] at h; simp at h; rw [h]
theorem drop_take_snoc (T : List Int) (p a : Nat) (hp : p < T.length) (ha : a ≤ p) : (T.take (p + 1)).drop a = (T.take p).drop a ++ [T[p]] := by
  rw [List.take_succ_eq_append_getElem hp, List.drop_append_of_le_length (by rw [List.length_take]; omega)]
theorem left_length (T : List Int) (p a : Nat) (hp : p ≤ T.length) : ((T.take p).drop a).length = p - a := by rw [List.length_drop, List.length_take]; omega

section
variable {w wr w' : World} {base g gi bi win r : Nat} {T : List Int} {p cum acked sent : Nat} {v gv : Value} {f : Int → Option Int}
theorem LinkI.ne (h : LinkI w wr base g gi bi win r T p cum acked sent v gv f) : g ≠ gi ∧ g ≠ bi ∧ gi ≠ bi := by
  obtain ⟨ho, hi, _⟩ := h
  exact ⟨ho.1.ne hi.1 (by decide), ho.1.neMap hi.2.1, hi.1.neMap hi.2.1⟩
theorem LinkI.push {v' : Value} (h : LinkI w wr base g gi bi win r T p cum acked sent v gv f) (hp : p < T.length)
    (ho : Obx w' base g v' win acked sent ((T.take p).drop acked ++ [T[p]])) (hf : Fr (g :: v.ownBlock.toList) wr w') (hat : v'.ownBlock = v.ownBlock ∨ ∃ y, v'.ownBlock = some y ∧ wr.heap.size ≤ y) :
    LinkI w w' base g gi bi win r T (p + 1) cum acked sent v' gv f := by
  have hne := h.ne
  obtain ⟨h1, h2, h3, h4, h5, h6, h7, h8, h9, h10, h11, h12, h13, h14, h15⟩ := h
  have n1 : gi ∉ g :: v.ownBlock.toList := by
    intro hm
    rcases List.mem_cons.1 hm with e | e
    · exact hne.1 e.symm
    · exact (h2.1.neOwn h1.2.1 (by decide)) _ (mem_own e) rfl
  have n2 : bi ∉ g :: v.ownBlock.toList := by
    intro hm
    rcases List.mem_cons.1 hm with e | e
    · exact hne.2.1 e.symm
    · exact own_neMap h1.2.1 h2.2.1 (mem_own e)
  have n3 : ∀ b, gv.ownBlock = some b → b ∉ g :: v.ownBlock.toList := by
    intro b hb hm
    rcases List.mem_cons.1 hm with e | e
    · exact (h1.1.neOwn h3 (by decide)) _ hb e.symm
    · exact h4 b (mem_own e) hb
  refine ⟨by rw [drop_take_snoc T p acked hp (by omega)]; exact ho, h2.fr hf n1 n2, owns_fr h3 hf n3, ?_, h5, h6, by omega, by omega, h9, ?_, h11, Nat.le_trans h12 hf.size, h13, h14, h15⟩
  · intro y hy hg
    rcases hat with e | ⟨z, hz, hlt⟩
    · exact h4 y (by rw [← e]; exact hy) hg
    · rw [hz] at hy
      obtain rfl := Option.some.inj hy
      have := (own_lt h3 _ hg).2
      omega
  · refine h10.trans hf (fun b hb hlt => ?_)
    rcases List.mem_cons.1 hb with e | e
    · omega
    · have := (own_lt h1.2.1 _ (mem_own e)).1
      omega
theorem LinkI.fr0 (h : LinkI w wr base g gi bi win r T p cum acked sent v gv f) (hf : Fr [] wr w') : LinkI w w' base g gi bi win r T p cum acked sent v gv f := by
  obtain ⟨h1, h2, h3, h4, h5, h6, h7, h8, h9, h10, h11, h12, h13, h14, h15⟩ := h
  exact ⟨h1.fr0 hf, h2.fr0 hf, owns_fr0 h3 hf, h4, h5, h6, h7, h8, h9, h10.trans0 hf, h11, Nat.le_trans h12 hf.size, h13, h14, h15⟩
theorem LinkI.due {sent' : Nat} (h : LinkI w wr base g gi bi win r T p cum acked sent v gv f) (hs : sent' = acked + min win ((T.take p).drop acked).length)
    (ho : Obx w' base g v win acked sent' ((T.take p).drop acked)) (hf : Fr [g] wr w') : LinkI w w' base g gi bi win r T p cum acked sent' v gv f := by
  have hne := h.ne
  obtain ⟨h1, h2, h3, h4, h5, h6, h7, h8, h9, h10, h11, h12, h13, h14, h15⟩ := h
  have hle : sent ≤ sent' := by rw [hs]; exact h1.2.2.2.2.2.2
  refine ⟨ho, h2.fr hf (by simpa using hne.1.symm) (by simpa using hne.2.1.symm), owns_fr h3 hf (fun b hb => by simpa using fun e => (h1.1.neOwn h3 (by decide)) _ hb e.symm), h4, h5, by omega, ?_, h8, fun j x hj => ?_, h10.trans hf (fun b hb hlt => by simp at hb; omega), h11, Nat.le_trans h12 hf.size, h13, h14, h15⟩
  · rw [hs, left_length T p acked h8]; omega
  · obtain ⟨q, e, a1, a2, a3⟩ := h9 j x hj
    exact ⟨q, e, a1, by omega, a3⟩
theorem LinkI.putOne {q : Nat} {x : Int} (h : LinkI w wr base g gi bi win r T p cum acked sent v gv f) (h1 : q ≤ sent) (hx : T[q - 1]? = some x)
    (hi : Ibx w' gi bi r cum (putF r cum f q x)) (hf : Fr [bi] wr w') : LinkI w w' base g gi bi win r T p cum acked sent v gv (putF r cum f q x) := by
  have hne := h.ne
  obtain ⟨k1, k2, h3, h4, h5, h6, h7, h8, h9, h10, h11, h12, h13, h14, h15⟩ := h
  refine ⟨k1.fr hf (by simpa using hne.2.1) (fun b hb => by simpa using fun e => own_neMap k1.2.1 k2.2.1 (by rw [hb, e])), hi, owns_fr h3 hf (fun b hb => by simpa using fun e => own_neMap h3 k2.2.1 (by rw [hb, e])), h4, h5, h6, h7, h8, fun j y hj => ?_, h10.trans hf (fun b hb hlt => by simp at hb; omega), h11, Nat.le_trans h12 hf.size, h13, h14, h15⟩
  by_cases hc : putCode r cum f q = 0
  · rw [putF_yes hc] at hj
    unfold upd at hj
    split at hj
    · rename_i e
      obtain rfl := Option.some.inj hj
      refine ⟨q, e, ?_, h1, hx⟩
      unfold putCode at hc
      split at hc
      · cases hc
      · split at hc
        · cases hc
        · rename_i hn
          have : ¬ ((q : Int) ≤ cum) := fun hh => hn (.inr hh)
          omega
    · exact h9 j y hj
  · rw [putF, if_neg hc] at hj
    exact h9 j y hj
/-- a second thing with the same number changes nothing -/
theorem putF_twice (r cum : Nat) (f : Int → Option Int) (q x y : Int) : putF r cum (putF r cum f q x) q y = putF r cum f q x := by
  by_cases hc : putCode r cum f q = 0
  · have h2 : putCode r cum (putF r cum f q x) q = 92 := by
      rw [putF_yes hc]
      unfold putCode at hc ⊢
      split at hc
      · cases hc
      · rename_i h1
        rw [if_neg h1, if_pos (.inl (by simp [upd]))]
    exact putF_no h2 (by decide)
  · have e : putF r cum f q x = f := by rw [putF, if_neg hc]
    rw [e, putF, if_neg hc]
theorem LinkI.head {x : Int} (h : LinkI w wr base g gi bi win r T p cum acked sent v gv f) (hx : f ((cum + 1 : Nat) : Int) = some x) : cum < sent ∧ T[cum]? = some x := by
  obtain ⟨k1, k2, h3, h4, h5, h6, h7, h8, h9, h10, h11, h12, h13, h14, h15⟩ := h
  obtain ⟨q, e, a1, a2, a3⟩ := h9 _ x hx
  obtain rfl : q = cum + 1 := by omega
  exact ⟨by omega, by simpa using a3⟩
theorem LinkI.got (h : LinkI w wr base g gi bi win r T p cum acked sent v gv f) (hf : Fr [gi, bi] wr w') : w'.ownsRow base 3 1 gv cum (is (T.take cum)) := by
  obtain ⟨k1, k2, h3, h4, h5, h6, h7, h8, h9, h10, h11, h12, h13, h14, h15⟩ := h
  refine owns_fr h3 hf (fun b hb hm => ?_)
  simp only [List.mem_cons, List.not_mem_nil, or_false] at hm
  rcases hm with rfl | rfl
  · exact (k2.1.neOwn h3 (by decide)) _ hb rfl
  · exact own_neMap h3 k2.2.1 hb
theorem LinkI.popGot {w1 w2 : World} {gv' : Value} {x : Int} (h : LinkI w wr base g gi bi win r T p cum acked sent v gv f) (hx : f ((cum + 1 : Nat) : Int) = some x)
    (hi : Ibx w1 gi bi r (cum + 1) (upd f ((cum + 1 : Nat) : Int) none)) (hf1 : Fr [gi, bi] wr w1) (hf2 : Fr gv.ownBlock.toList w1 w2) (ho : w2.ownsRow base 3 1 gv' (cum + 1) (is (T.take cum) ++ [.int .i64 x]))
    (hat : gv'.ownBlock = gv.ownBlock ∨ ∃ y, gv'.ownBlock = some y ∧ wr.heap.size ≤ y) : LinkI w w2 base g gi bi win r T p (cum + 1) acked sent v gv' (upd f ((cum + 1 : Nat) : Int) none) := by
  have hne := h.ne
  have hh := h.head hx
  obtain ⟨k1, k2, h3, h4, h5, h6, h7, h8, h9, h10, h11, h12, h13, h14, h15⟩ := h
  have m1 : g ∉ [gi, bi] := by simp; exact ⟨hne.1, hne.2.1⟩
  have m2 : ∀ b, v.ownBlock = some b → b ∉ [gi, bi] := by
    intro b hb hm
    simp only [List.mem_cons, List.not_mem_nil, or_false] at hm
    rcases hm with rfl | rfl
    · exact (k2.1.neOwn k1.2.1 (by decide)) _ hb rfl
    · exact own_neMap k1.2.1 k2.2.1 hb
  have n1 : g ∉ gv.ownBlock.toList := fun hm => (k1.1.neOwn h3 (by decide)) _ (mem_own hm) rfl
  have n2 : ∀ b, v.ownBlock = some b → b ∉ gv.ownBlock.toList := fun b hb hm => h4 b hb (mem_own hm)
  have n3 : gi ∉ gv.ownBlock.toList := fun hm => (k2.1.neOwn h3 (by decide)) _ (mem_own hm) rfl
  have n4 : bi ∉ gv.ownBlock.toList := fun hm => own_neMap h3 k2.2.1 (mem_own hm)
  have hT : is (T.take (cum + 1)) = is (T.take cum) ++ [.int .i64 x] := by
    have hlt : cum < T.length := by omega
    rw [List.take_succ_eq_append_getElem hlt, is_append]
    have : T[cum] = x := by
      have := hh.2
      rw [List.getElem?_eq_getElem hlt] at this
      exact Option.some.inj this
    rw [this]; rfl
  refine ⟨(k1.fr hf1 m1 m2).fr hf2 n1 n2, hi.fr hf2 n3 n4, by rw [hT]; exact ho, ?_, by omega, by omega, h7, h8, fun j y hj => ?_, ?_, h11, Nat.le_trans h12 (Nat.le_trans hf1.size hf2.size), h13, h14, h15⟩
  · intro y hy hg
    rcases hat with e | ⟨z, hz, hlt⟩
    · exact h4 y hy (by rw [← e]; exact hg)
    · rw [hz] at hg
      obtain rfl := Option.some.inj hg
      have := (own_lt k1.2.1 _ hy).2
      omega
  · unfold upd at hj
    split at hj
    · cases hj
    · rename_i hne2
      obtain ⟨q, e, a1, a2, a3⟩ := h9 j y hj
      refine ⟨q, e, ?_, a2, a3⟩
      rcases Nat.lt_or_ge (cum + 1) q with hlt | hge
      · exact hlt
      · exact absurd (by rw [e]; congr 1; omega) hne2
  · refine (h10.trans hf1 (fun b hb hlt => ?_)).trans hf2 (fun b hb hlt => ?_)
    · simp only [List.mem_cons, List.not_mem_nil, or_false] at hb
      rcases hb with rfl | rfl <;> omega
    · have := (own_lt h3 _ (mem_own hb)).1
      omega
theorem LinkI.ack {v' : Value} (h : LinkI w wr base g gi bi win r T p cum acked sent v gv f)
    (ho : Obx w' base g v' win cum sent (((T.take p).drop acked).drop (cum - acked))) (hf : Fr [g] wr w') (hv : ∀ y, v'.ownBlock = some y → wr.heap.size ≤ y) :
    LinkI w w' base g gi bi win r T p cum cum sent v' gv f := by
  have hne := h.ne
  obtain ⟨k1, k2, h3, h4, h5, h6, h7, h8, h9, h10, h11, h12, h13, h14, h15⟩ := h
  rw [List.drop_drop, show acked + (cum - acked) = cum by omega] at ho
  refine ⟨ho, k2.fr hf (by simpa using hne.1.symm) (by simpa using hne.2.1.symm), owns_fr h3 hf (fun b hb => by simpa using fun e => (k1.1.neOwn h3 (by decide)) _ hb e.symm), ?_, Nat.le_refl _, h6, h7, h8, h9, h10.trans hf (fun b hb hlt => by simp at hb; omega), h11, Nat.le_trans h12 hf.size, h13, h14, h15⟩
  intro y hy hg
  have h1 := hv y hy
  have h2 := (own_lt h3 _ hg).2
  omega
end
end Go.Proofs.Ytjhemoekmlhlpaa
