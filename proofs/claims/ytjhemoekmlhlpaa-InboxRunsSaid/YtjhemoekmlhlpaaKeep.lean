/- append onto a slice of the call's own, what is appended nil or not; the elder slice still reads as it did. -/
import Derived.Test.YtjhemoekmlhlpaaBase
import Derived.Maps.AppendAt
import Derived.Laws.OwnMore
namespace Go.Proofs.Ytjhemoekmlhlpaa
open Go Go.RowKit
set_option linter.unusedVariables false

/-- what append takes of a list of ints -/
def Src (w : World) (a : Option Addr) (m c : Nat) (news : List Value) : Prop :=
  (a = none ∧ m = 0 ∧ c = 0 ∧ news = []) ∨ ∃ ad, a = some ad ∧ ∀ j u, news[j]? = some u → w.cell? (ad.add j) = some u
theorem Src.fr0 {w w' : World} {a : Option Addr} {m c : Nat} {news : List Value} (h : Src w a m c news) (f : Fr [] w w') : Src w' a m c news := by
  rcases h with h | ⟨ad, rfl, h⟩
  · exact .inl h
  · exact .inr ⟨ad, rfl, fun j u hj => f.cell (h j u hj) (by simp)⟩

theorem run_append_keep {P : Program} {w : World} (base : Nat) (t ty e : TypeId) (z : Value) (size bytes : Nat) (ht : P.underlying t = some (.slice e)) (hi : (P.info? e).map (fun i => (i.zero, i.size, i.bytes)) = some (some z, size, bytes)) (hzs : z.cells.size = size) (hsz : 0 < size)
    (v : Value) (n : Nat) (xs : List Value) (hown : w.ownsRow base e size v n xs) (a : Option Addr) (m c : Nat) (news : List Value) (hl : news.length = m * size) (hs : Src w a m c news) (h1 : ∀ u ∈ news, u.oneCell' = true)
    (h63 : n + m ≤ maxLen) (hbytes : (n + m) * bytes ≤ 140737488355328) (hbase : base ≤ w.heap.size) :
    ∃ v' w', (Builtin.append_ #[t, t] ty #[v, .slice a m c]).run P w = .ok v' w' ∧ w'.ownsRow base e size v' (n + m) (xs ++ news) ∧ w'.ownsRow base e size v n xs ∧
      ((v'.ownBlock = v.ownBlock ∧ Fr v.ownBlock.toList w w') ∨ (v'.ownBlock = some w.heap.size ∧ Fr [] w w')) := by
  obtain ⟨i, h2, h3, h4, h5⟩ := info_parts hi
  rcases hs with ⟨rfl, rfl, rfl, rfl⟩ | ⟨ad, rfl, hs⟩
  · exact ⟨v, w, run_append_owned_none (w := w) base t ty e i size ht h2 v n xs hown, by simpa using hown, hown, .inl ⟨rfl, Fr.refl _ _⟩⟩
  · obtain ⟨v', w', hrun, r1, r2, r3, r4⟩ := run_append_own_at (P := P) w base t ty e i z size bytes ht h2 h3 h4 h5 hzs hsz v n xs hown ad m c news hl hs h1 h63 hbytes hbase
    have hf : Fr v.ownBlock.toList w w' := Fr.ofGrown r2 (fun b hb _ => by rw [hb]; simp)
    refine ⟨v', w', hrun, r1, ?_⟩
    rcases hown.2 with ⟨rfl, rfl⟩ | ⟨g, cap, cur, rfl, hbg, hg, hnc, hcm, hcs, htake⟩
    · have hx : xs = [] := List.eq_nil_of_length_eq_zero (by simpa using hown.1)
      subst hx
      refine ⟨World.ownsRow_nil _ _ _ _, ?_⟩
      rcases r4 with r4 | r4
      · exact .inl ⟨r4, hf⟩
      · exact .inr ⟨r4, hf⟩
    · by_cases hroom : n + m ≤ cap
      · have hfit : n * i.size + news.length ≤ cur.size := by rw [h4, hl, hcs, ← Nat.add_mul]; exact Nat.mul_le_mul_right _ hroom
        have hr := run_append_room (P := P) w t ty e i ht h2 g n cap cur hg ad m c news (by rw [h4]; exact hl) hs h1 hroom hfit
        rw [hrun] at hr
        have hw := (Result.ok.inj hr).2
        have hv := (Result.ok.inj hr).1
        refine ⟨⟨hown.1, .inr ⟨g, cap, (cur.toList.take (n * i.size) ++ news ++ cur.toList.drop (n * i.size + news.length)).toArray, rfl, hbg, ?_, hnc, hcm, ?_, ?_⟩⟩, .inl ⟨by rw [hv]; rfl, hf⟩⟩
        · rw [hw]; exact setRow_heap w g cur _ e _ hg
        · simp only [List.size_toArray, List.length_append, List.length_take, List.length_drop, Array.length_toList]
          omega
        · rw [h4, htake, List.append_assoc]
          simp only
          exact (List.take_append_of_le_length (by rw [hown.1]; exact Nat.le_refl _)).trans (List.take_of_length_le (by rw [hown.1]; exact Nat.le_refl _))
      · have holds : ∀ j u, xs[j]? = some u → w.cell? ((⟨g, 0, none⟩ : Addr).add j) = some u := hown.cells (g := g) rfl
        have hr := run_append_grow (P := P) w t ty e i z ht h2 h3 ⟨g, 0, none⟩ n cap xs (by rw [h4]; exact hown.1) holds ad m c news (by rw [h4]; exact hl) hs (by omega) (by simp only [maxLen] at h63; omega) (growslice_fits (by omega) (by rw [h5]; exact hbytes))
        rw [hrun] at hr
        have hw := (Result.ok.inj hr).2
        have hv := (Result.ok.inj hr).1
        have hf0 : Fr [] w w' := by rw [hw]; exact (Fr.refl [] w).drew.alloc _
        exact ⟨owns_fr0 hown hf0, .inr ⟨by rw [hv]; rfl, hf0⟩⟩
theorem wpList_append_keep {P : Program} {w : World} {ops : Array Oper} {rest : List Oper} {o : Oper} {a : Act} {Q : Exit → Act → World → Prop} (hgd : o.guard = none) (s x : Operand) (t : TypeId)
    (ho : o.op = .call { callee := .builtin .append, args := #[s, x], argTypes := #[t, t] })
    (base : Nat) (e : TypeId) (z : Value) (size bytes : Nat) (ht : P.underlying t = some (.slice e)) (hi : (P.info? e).map (fun i => (i.zero, i.size, i.bytes)) = some (some z, size, bytes)) (hzs : z.cells.size = size) (hsz : 0 < size)
    (v : Value) (n : Nat) (xs : List Value) (hs : a.eval s = v) (hown : w.ownsRow base e size v n xs)
    (ad : Option Addr) (m c : Nat) (news : List Value) (hx : a.eval x = .slice ad m c) (hl : news.length = m * size) (hsrc : Src w ad m c news) (h1 : ∀ u ∈ news, u.oneCell' = true)
    (h63 : n + m ≤ maxLen) (hbytes : (n + m) * bytes ≤ 140737488355328) (hbase : base ≤ w.heap.size)
    (h : ∀ v' w', w'.ownsRow base e size v' (n + m) (xs ++ news) → w'.ownsRow base e size v n xs → ((v'.ownBlock = v.ownBlock ∧ Fr v.ownBlock.toList w w') ∨ (v'.ownBlock = some w.heap.size ∧ Fr [] w w')) → wpList P ops Q rest (a.put o.dst v') w') : wpList P ops Q (o :: rest) a w := by
  refine wpList_plain hgd fun K' hK' => ?_
  obtain ⟨v', w', hrun, r1, r2, r3⟩ := run_append_keep (P := P) (w := w) base t o.type e z size bytes ht hi hzs hsz v n xs hown ad m c news hl hsrc h1 h63 hbytes hbase
  unfold Oper.wp
  simp [execOp, ho, resolve, invoke, builtin, hs, hx, hrun, Result.andThen]
  exact hK' _ _ (h v' w' r1 r2 r3)
theorem run_append_src {P : Program} {w : World} (base : Nat) (t ty e : TypeId) (z : Value) (size bytes : Nat) (ht : P.underlying t = some (.slice e)) (hi : (P.info? e).map (fun i => (i.zero, i.size, i.bytes)) = some (some z, size, bytes)) (hzs : z.cells.size = size) (hsz : 0 < size)
    (v : Value) (n : Nat) (xs : List Value) (hown : w.ownsRow base e size v n xs) (a : Option Addr) (m c : Nat) (news : List Value) (hl : news.length = m * size) (hs : Src w a m c news) (h1 : ∀ u ∈ news, u.oneCell' = true)
    (h63 : n + m ≤ maxLen) (hbytes : (n + m) * bytes ≤ 140737488355328) (hbase : base ≤ w.heap.size) :
    ∃ v' w', (Builtin.append_ #[t, t] ty #[v, .slice a m c]).run P w = .ok v' w' ∧ w'.ownsRow base e size v' (n + m) (xs ++ news) ∧ Fr v.ownBlock.toList w w' ∧ (v'.ownBlock = v.ownBlock ∨ v'.ownBlock = some w.heap.size) := by
  obtain ⟨i, h2, h3, h4, h5⟩ := info_parts hi
  rcases hs with ⟨rfl, rfl, rfl, rfl⟩ | ⟨ad, rfl, hs⟩
  · exact ⟨v, w, run_append_owned_none (w := w) base t ty e i size ht h2 v n xs hown, by simpa using hown, Fr.refl _ _, .inl rfl⟩
  · obtain ⟨v', w', hrun, r1, r2, _, r4⟩ := run_append_own_at (P := P) w base t ty e i z size bytes ht h2 h3 h4 h5 hzs hsz v n xs hown ad m c news hl hs h1 h63 hbytes hbase
    exact ⟨v', w', hrun, r1, Fr.ofGrown r2 (fun b hb _ => by rw [hb]; simp), r4⟩
theorem wpList_append_src {P : Program} {w : World} {ops : Array Oper} {rest : List Oper} {o : Oper} {a : Act} {Q : Exit → Act → World → Prop} (hgd : o.guard = none) (s x : Operand) (t : TypeId)
    (ho : o.op = .call { callee := .builtin .append, args := #[s, x], argTypes := #[t, t] })
    (base : Nat) (e : TypeId) (z : Value) (size bytes : Nat) (ht : P.underlying t = some (.slice e)) (hi : (P.info? e).map (fun i => (i.zero, i.size, i.bytes)) = some (some z, size, bytes)) (hzs : z.cells.size = size) (hsz : 0 < size)
    (v : Value) (n : Nat) (xs : List Value) (hs : a.eval s = v) (hown : w.ownsRow base e size v n xs)
    (ad : Option Addr) (m c : Nat) (news : List Value) (hx : a.eval x = .slice ad m c) (hl : news.length = m * size) (hsrc : Src w ad m c news) (h1 : ∀ u ∈ news, u.oneCell' = true)
    (h63 : n + m ≤ maxLen) (hbytes : (n + m) * bytes ≤ 140737488355328) (hbase : base ≤ w.heap.size)
    (h : ∀ v' w', w'.ownsRow base e size v' (n + m) (xs ++ news) → Fr v.ownBlock.toList w w' → (v'.ownBlock = v.ownBlock ∨ v'.ownBlock = some w.heap.size) → wpList P ops Q rest (a.put o.dst v') w') : wpList P ops Q (o :: rest) a w := by
  refine wpList_plain hgd fun K' hK' => ?_
  obtain ⟨v', w', hrun, r1, r2, r3⟩ := run_append_src (P := P) (w := w) base t o.type e z size bytes ht hi hzs hsz v n xs hown ad m c news hl hsrc h1 h63 hbytes hbase
  unfold Oper.wp
  simp [execOp, ho, resolve, invoke, builtin, hs, hx, hrun, Result.andThen]
  exact hK' _ _ (h v' w' r1 r2 r3)
theorem step_append_src {P : Program} {ops : Array Oper} {o : Oper} {a : Act} {w : World} {K : Act → World → Prop} {Q : Exit → Act → World → Prop} {E : Prop}
    (hg : o.guard = none) (s x : Operand) (t : TypeId) (hop : o.op = Op.call { callee := Callee.builtin Builtin.append, args := #[s, x], argTypes := #[t, t] })
    (base : Nat) (e : TypeId) (z : Value) (size bytes : Nat) (ht : P.underlying t = some (.slice e)) (hi : (P.info? e).map (fun i => (i.zero, i.size, i.bytes)) = some (some z, size, bytes)) (hzs : z.cells.size = size) (hsz : 0 < size)
    (v : Value) (n : Nat) (xs : List Value) (hs : a.eval s = v) (hown : w.ownsRow base e size v n xs)
    (ad : Option Addr) (m c : Nat) (news : List Value) (hx : a.eval x = .slice ad m c) (hl : news.length = m * size) (hsrc : Src w ad m c news) (h1 : ∀ u ∈ news, u.oneCell' = true)
    (h63 : n + m ≤ maxLen) (hbytes : (n + m) * bytes ≤ 140737488355328) (hbase : base ≤ w.heap.size)
    (hK : ∀ v' w', w'.ownsRow base e size v' (n + m) (xs ++ news) → Fr v.ownBlock.toList w w' → (v'.ownBlock = v.ownBlock ∨ v'.ownBlock = some w.heap.size) → K (a.put o.dst v') w') :
    if Region.wanted o (yielded ops a.tmps) = true then Oper.wp P o a w K Q else E := by
  have hw : Region.wanted o (yielded ops a.tmps) = true := by simp [Region.wanted, hg]
  rw [if_pos hw]
  obtain ⟨v', w', hrun, r1, r2, r3⟩ := run_append_src (P := P) (w := w) base t o.type e z size bytes ht hi hzs hsz v n xs hown ad m c news hl hsrc h1 h63 hbytes hbase
  unfold Oper.wp
  simp [execOp, hop, resolve, invoke, builtin, hs, hx, hrun, Result.andThen]
  exact hK v' w' r1 r2 r3
end Go.Proofs.Ytjhemoekmlhlpaa
