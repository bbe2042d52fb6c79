/- Facts of the link's round: what Due hands out, whose blocks are whose, the bits of a choice. No walk. -/
import Derived.Test.YtjhemoekmlhlpaaLinkA
namespace Go.Proofs.Ytjhemoekmlhlpaa
open Go Go.RowKit
set_option linter.unusedVariables false

theorem own_ne {w : World} {b1 n1 s1 b2 n2 s2 : Nat} {e1 e2 : TypeId} {v1 v2 : Value} {x1 x2 : List Value} (h : w.ownsRow b1 e1 s1 v1 n1 x1) (k : w.ownsRow b2 e2 s2 v2 n2 x2) (he : e1 ≠ e2) : ∀ y, v1.ownBlock = some y → v2.ownBlock ≠ some y := by
  intro y h1 h2
  rcases h.2 with ⟨rfl, _⟩ | ⟨g, cap, cur, rfl, _, hg, _⟩
  · cases h1
  · rcases k.2 with ⟨rfl, _⟩ | ⟨g2, cap2, cur2, rfl, _, hg2, _⟩
    · cases h2
    · have e1 : g = y := Option.some.inj h1
      have e2 : g2 = y := Option.some.inj h2
      rw [e1] at hg
      rw [e2, hg] at hg2
      exact he (Obj.cells.inj (Option.some.inj hg2)).2.1
theorem items_get (acked : Nat) (L : List Int) (q : Nat) (hq : q < L.length) :
    (items acked L)[2 * q]? = some (.int .i64 ((acked + q + 1 : Nat) : Int)) ∧ (items acked L)[2 * q + 1]? = some (.int .i64 L[q]) := by
  induction L generalizing acked q with
  | nil => simp at hq
  | cons x L ih =>
    cases q with
    | zero => simp [items]
    | succ q =>
      have := ih (acked + 1) q (by simpa using hq)
      rw [show 2 * (q + 1) = 2 * q + 1 + 1 by omega, show 2 * q + 1 + 1 + 1 = (2 * q + 1) + 1 + 1 by omega]
      simp only [items, List.getElem?_cons_succ, List.getElem_cons_succ]
      rw [show acked + (q + 1) + 1 = acked + 1 + q + 1 by omega]
      exact this
theorem due_cells {w : World} {base d c : Nat} {a : Option Addr} {acked : Nat} {L : List Int} (h : w.ownsRow base 37 2 (.slice a d c) d (items acked L)) (hd : d = L.length) (q : Nat) (hq : q < d) :
    ∃ b, a = some ⟨b, 0, none⟩ ∧ w.cell? ⟨b, q * 2, none⟩ = some (.int .i64 ((acked + q + 1 : Nat) : Int)) ∧ w.cell? ⟨b, q * 2 + 1, none⟩ = some (.int .i64 (L[q]'(by omega))) := by
  rcases h.2 with ⟨_, hn⟩ | ⟨g, cap, cur, hv, hb, hg, hn, hc, _, ht⟩
  · omega
  · simp only [Value.slice.injEq] at hv
    obtain ⟨rfl, _, _⟩ := hv
    refine ⟨g, rfl, ?_⟩
    have hrow : Row w g cur.toList 37 := by unfold Row; simpa using hg
    have h2 := items_get acked L q (by omega)
    rw [← ht, List.getElem?_take, List.getElem?_take, if_pos (by omega), if_pos (by omega)] at h2
    rw [hrow.cell, hrow.cell, Nat.mul_comm q 2]
    exact h2
/-- the slice of what was taken off, of the things at num = acked + q + 1 -/
theorem left_get (T : List Int) (p acked d q : Nat) (hp : p ≤ T.length) (hd : d ≤ p - acked) (hq : q < d) :
    ∃ (h : q < (((T.take p).drop acked).take d).length), T[acked + q + 1 - 1]? = some ((((T.take p).drop acked).take d)[q]) := by
  have h : q < (((T.take p).drop acked).take d).length := by rw [List.length_take, left_length T p acked hp]; omega
  refine ⟨h, ?_⟩
  simp only [List.getElem_take, List.getElem_drop]
  rw [Nat.add_sub_cancel]
  have h2 : acked + q < T.length := by omega
  rw [List.getElem?_eq_getElem h2]
/-- the link keeps its slice of things -/
theorem ints_keep {w1 w2 : World} {a : Option Addr} {n c : Nat} {T : List Int} {g gi bi : Nat} (h : IntsAt w1 a T) (hb : ∀ y, (Value.slice a n c).ownBlock = some y → y ∉ [g, gi, bi]) (hf : Fr [g, gi, bi] w1 w2) : IntsAt w2 a T := by
  refine h.fr hf (fun x hx => hb x.block ?_)
  subst hx
  rfl
theorem putF_there {r cum : Nat} {f : Int → Option Int} {x : Int} (hr : 1 ≤ r) (hc : cum < 4096) : (putF r cum f ((cum + 1 : Nat) : Int) x ((cum + 1 : Nat) : Int)).isSome = true := by
  unfold putF
  split
  · simp [upd]
  · rename_i h
    unfold putCode at h
    rw [if_neg (by omega)] at h
    split at h
    · rename_i h2
      rcases h2 with h2 | h2
      · exact h2
      · omega
    · rw [if_neg (by omega)] at h
      exact absurd rfl h
theorem putF_keeps {r cum : Nat} {f : Int → Option Int} {q x j : Int} (h : (f j).isSome = true) : (putF r cum f q x j).isSome = true := by
  unfold putF
  split
  · unfold upd
    split
    · rfl
    · exact h
  · exact h
/-- what a push writes lies among the link's own blocks -/
theorem LinkI.pushFr {w wr w' wc : World} {base g gi bi win r : Nat} {T : List Int} {p cum acked sent : Nat} {v gv : Value} {f : Int → Option Int} (h : LinkI w wr base g gi bi win r T p cum acked sent v gv f) (hb : base = wc.heap.size)
    (h1 : Fr [g, gi, bi] wc wr) (h2 : Fr (g :: v.ownBlock.toList) wr w') : Fr [g, gi, bi] wc w' := by
  refine h1.trans h2 (fun b hb2 hlt => ?_)
  rcases List.mem_cons.1 hb2 with e | e
  · simp [e]
  · have := (own_lt h.1.2.1 _ (mem_own e)).1
    omega
/-- what is appended to what was got lies among the call's own blocks -/
theorem LinkI.gotFr {w wr w1 w2 wc : World} {base g gi bi win r : Nat} {T : List Int} {p cum acked sent : Nat} {v gv : Value} {f : Int → Option Int} (h : LinkI w wr base g gi bi win r T p cum acked sent v gv f) (hb : base = wc.heap.size)
    (h1 : Fr [g, gi, bi] wc wr) (h2 : Fr [gi, bi] wr w1) (h3 : Fr gv.ownBlock.toList w1 w2) : Fr [g, gi, bi] wc w2 := by
  refine (h1.trans h2 (fun b hb2 _ => ?_)).trans h3 (fun b hb2 hlt => ?_)
  · simp only [List.mem_cons, List.not_mem_nil, or_false] at hb2 ⊢
    exact .inr hb2
  · have := (own_lt h.2.2.1 _ (mem_own hb2)).1
    omega
theorem LinkI.putTwo {w wr w' : World} {base g gi bi win r : Nat} {T : List Int} {p cum acked sent : Nat} {v gv : Value} {f : Int → Option Int} {q : Nat} {x y : Int} (h : LinkI w wr base g gi bi win r T p cum acked sent v gv (putF r cum f q x)) (h1 : q ≤ sent) (hx : T[q - 1]? = some x)
    (hi : Ibx w' gi bi r cum (putF r cum (putF r cum f q x) q y)) (hf : Fr [bi] wr w') : LinkI w w' base g gi bi win r T p cum acked sent v gv (putF r cum f q x) := by
  have h2 := h.putOne h1 hx (w' := w') (by rw [putF_twice] at hi ⊢; exact hi) hf
  rwa [putF_twice] at h2
theorem LinkI.dueKeep {w wr w' : World} {base g gi bi win r : Nat} {T : List Int} {p cum acked sent : Nat} {v gv : Value} {f : Int → Option Int} {bo d : Nat} {dv : Value} {xs : List Value} (h : LinkI w wr base g gi bi win r T p cum acked sent v gv f)
    (k : wr.ownsRow bo 37 2 dv d xs) (hf : Fr [gi, bi] wr w') : w'.ownsRow bo 37 2 dv d xs := by
  refine owns_fr k hf (fun b hb hm => ?_)
  simp only [List.mem_cons, List.not_mem_nil, or_false] at hm
  rcases hm with rfl | rfl
  · exact (h.2.1.1.neOwn k (by decide)) _ hb rfl
  · exact own_neMap k h.2.1.2.1 hb
theorem fr_bi {g gi bi : Nat} {wz wr w' : World} (h : Fr [g, gi, bi] wz wr) (k : Fr [bi] wr w') : Fr [g, gi, bi] wz w' := h.trans k (fun b hb _ => by simp at hb; simp [hb])
theorem fr_two {gi bi : Nat} {wr w' : World} (k : Fr [bi] wr w') : Fr [gi, bi] wr w' := k.mono (fun b hb _ => by simp at hb; simp [hb])
def lenOf : Value → Nat
  | .slice _ n _ => n
  | _ => 0
theorem got_ints {w : World} {base n c : Nat} {a : Option Addr} {T : List Int} (h : w.ownsRow base 3 1 (.slice a n c) n (is (T.take n))) (hn : n ≤ T.length) : IntsAt w a (T.take n) := by
  have hl : (T.take n).length = n := by rw [List.length_take]; omega
  by_cases h0 : 0 < n
  · obtain ⟨b, rfl, _, hc⟩ := owns_cells (n := n) (c := c) (a := a) (L := T.take n) (by rw [hl]; exact h) (by omega)
    exact .inr ⟨b, 0, rfl, fun i hi => by rw [Nat.zero_add]; exact hc i hi⟩
  · exact .inl (List.eq_nil_of_length_eq_zero (by omega))
theorem bit16 (m : Nat) (h : m < 16) : (bits BinOp.and IntKind.i64 65535 (wrap64 (2 ^ m)) != 0) = true := by
  revert m
  decide +kernel
theorem bit20 : (bits BinOp.and IntKind.i64 65535 1048576 != 0) = false := by decide +kernel
/-- what was popped is acknowledged -/
theorem ack_link {w wr : World} {base g gi bi win r : Nat} {T : List Int} {p cum acked sent : Nat} {v gv : Value} {f : Int → Option Int} (h : LinkI w wr base g gi bi win r T p cum acked sent v gv f) :
    Calls Try.prog 20 #[.pointer (some ⟨g, 0, none⟩), .int .i64 cum] wr fun e w' => e = .returned (.int .i64 0) ∧ ∃ v', LinkI w w' base g gi bi win r T p cum cum sent v' gv f ∧ Fr [g] wr w' := by
  have h1 := h.2.2.2.2.1
  by_cases he : acked = cum
  · subst he
    refine (ack_same base g v win acked sent _ wr h.1).mono ?_
    rintro e w' ⟨rfl, rfl⟩
    exact ⟨rfl, v, h, Fr.refl _ _⟩
  · refine (ack_more base g v win acked sent cum _ wr h.1 h.2.2.2.2.2.2.2.2.2.2.2.1 (by omega) h.2.2.2.2.2.1).mono ?_
    rintro e w' ⟨rfl, v', ho, hf, hv⟩
    exact ⟨rfl, v', h.ack ho hf hv, hf⟩
end Go.Proofs.Ytjhemoekmlhlpaa
