/- Vocabulary of this claim: worlds that keep what was there (Fr), rows of cells known whole (Row), byte lists in memory (BytesAt); no program is named. -/
import Derived.WalkKit
import Derived.BigQuiet
import Derived.Deep.QuietTactic
import Derived.Deep.Draws
import Derived.Lib.Hide
import Derived.Laws.CopyOwn
import Derived.Laws.MakeOwn
import Derived.Laws.OwnMore
namespace Go.Proofs.Ytjhemoekmlhlpaa
open Go Go.RowKit

/-- the bytes as cells -/
def bs (l : List UInt8) : List Value := l.map fun c => .int .u8 (c.toNat : Int)
theorem bs_length (l : List UInt8) : (bs l).length = l.length := by simp [bs]
theorem bs_append (l m : List UInt8) : bs (l ++ m) = bs l ++ bs m := by simp [bs]
theorem bs_get (l : List UInt8) (i : Nat) (h : i < l.length) : (bs l)[i]? = some (.int .u8 (l[i].toNat : Int)) := by simp [bs, h]
theorem bs_one (l : List UInt8) : ∀ v ∈ bs l, v.oneCell' = true := by
  intro v hv
  simp only [bs, List.mem_map] at hv
  obtain ⟨c, _, rfl⟩ := hv
  rfl

/-- w' is w, but for new blocks and for what happened to the blocks of S -/
structure Fr (S : List Nat) (w w' : World) : Prop where
  os : w'.os = w.os
  tape : w'.tape = w.tape
  output : w'.output = w.output
  size : w.heap.size ≤ w'.heap.size
  block : ∀ k, k < w.heap.size → k ∉ S → w'.heap[k]? = w.heap[k]?

namespace Fr
variable {S T : List Nat} {w w1 w2 : World}
theorem refl (S : List Nat) (w : World) : Fr S w w := ⟨rfl, rfl, rfl, Nat.le_refl _, fun _ _ _ => rfl⟩
theorem trans (h : Fr S w w1) (k : Fr T w1 w2) (hT : ∀ b ∈ T, b < w.heap.size → b ∈ S) : Fr S w w2 :=
  ⟨k.os.trans h.os, k.tape.trans h.tape, k.output.trans h.output, Nat.le_trans h.size k.size, fun i hi hS =>
    (k.block i (Nat.lt_of_lt_of_le hi h.size) (fun hT' => hS (hT i hT' hi))).trans (h.block i hi hS)⟩
theorem trans0 (h : Fr S w w1) (k : Fr [] w1 w2) : Fr S w w2 := h.trans k (by simp)
theorem trans1 (h : Fr S w w1) (k : Fr S w1 w2) : Fr S w w2 := h.trans k (fun _ h _ => h)
theorem mono (h : Fr S w w1) (hS : ∀ b ∈ S, b < w.heap.size → b ∈ T) : Fr T w w1 :=
  ⟨h.os, h.tape, h.output, h.size, fun k hk hT => h.block k hk (fun hs => hT (hS k hs hk))⟩
theorem nil (h : Fr [] w w1) (S : List Nat) : Fr S w w1 := h.mono (by simp)
theorem drewN (h : Fr S w w1) (n : Nat) : Fr S w (w1.drewN n) := ⟨h.os, h.tape, h.output, h.size, h.block⟩
theorem drew (h : Fr S w w1) : Fr S w w1.drew := ⟨h.os, h.tape, h.output, h.size, h.block⟩
theorem alloc (h : Fr S w w1) (o : Obj) : Fr S w (w1.alloc o) :=
  h.trans0 ⟨rfl, rfl, rfl, by simp, fun k hk _ => Below.heap_alloc _ _ _ hk⟩
theorem setCell (h : Fr S w w1) {a : Addr} (v : Value) (ha : a.block < w.heap.size → a.block ∈ S) : Fr S w (w1.setCell a v) :=
  h.trans (T := [a.block]) ⟨rfl, rfl, rfl, by simp [World.setCell], fun k _ hk => Below.heap_setCell _ _ _ _ (by simpa using hk)⟩ (by simp; exact ha)
theorem setRow (h : Fr S w w1) {g : Nat} (cs : Array Value) (ha : g < w.heap.size → g ∈ S) : Fr S w (w1.setRow g cs) :=
  h.trans (T := [g]) ⟨rfl, rfl, rfl, by simp [World.setRow], fun k _ hk => setRow_other w1 g k cs (by simpa using hk)⟩ (by simp; exact ha)
theorem below (h : Fr [] w w1) : Below w.heap.size w w1 := ⟨h.os, h.tape, h.output, h.size, fun k hk => h.block k hk (by simp)⟩
theorem ofBelow (h : Below w.heap.size w w1) : Fr [] w w1 := ⟨h.os, h.tape, h.output, h.size, fun k hk _ => h.block k hk⟩
theorem ofGrown {row : Option Nat} (h : w.grownBy w1 row) (hr : ∀ b, row = some b → b < w.heap.size → b ∈ S) : Fr S w w1 :=
  ⟨h.os, h.tape, h.output, h.size, fun k hk hS => h.block k hk (fun e => hS (hr k e.symm hk))⟩
theorem cell (h : Fr S w w1) {a : Addr} {v : Value} (hc : w.cell? a = some v) (ha : a.block ∉ S) : w1.cell? a = some v :=
  (World.cell?_of_block (h.block a.block (World.block_lt_of_cell? w a hc) ha)).trans hc
theorem frozen (h : Fr S w w1) {a : Addr} (hl : a.block < w.heap.size) (ha : a.block ∉ S) : w1.frozen? a = w.frozen? a :=
  World.frozen?_of_block (h.block a.block hl ha)
end Fr

/-- block g is a row of just these cells -/
def Row (w : World) (g : Nat) (c : List Value) (T : TypeId) : Prop := w.heap[g]? = some (.cells c.toArray T (0, 0))

namespace Row
variable {w w1 : World} {g : Nat} {c : List Value} {T : TypeId}
theorem lt (h : Row w g c T) : g < w.heap.size := (Array.getElem?_eq_some_iff.1 h).1
theorem cell (h : Row w g c T) (j : Nat) : w.cell? ⟨g, j, none⟩ = c[j]? := by
  rw [cell_of_row w g j _ _ _ h]; simp
theorem cell' (h : Row w g c T) {j : Nat} {v : Value} (hj : c[j]? = some v) : w.cell? ⟨g, j, none⟩ = some v := (h.cell j).trans hj
theorem free (h : Row w g c T) (j : Nat) : w.frozen? ⟨g, j, none⟩ = false := by
  unfold Row at h
  simp [World.frozen?, h]
theorem fr {S : List Nat} (h : Row w g c T) (f : Fr S w w1) (hg : g ∉ S) : Row w1 g c T := (f.block g h.lt hg).trans h
theorem new (w : World) (c : List Value) (T : TypeId) : Row (w.alloc (.cells c.toArray T)) w.heap.size c T := heap_alloc_new w _
theorem set (h : Row w g c T) (i : Nat) (v : Value) : Row (w.setCell ⟨g, i, none⟩ v) g (c.set i v) T := by
  unfold Row at h ⊢
  simp [World.setCell, Array.getElem?_modify, h]
theorem set_other (h : Row w g c T) {a : Addr} (ha : g ≠ a.block) (v : Value) : Row (w.setCell a v) g c T :=
  (Below.heap_setCell _ _ _ _ ha).trans h
theorem alloc (h : Row w g c T) (o : Obj) : Row (w.alloc o) g c T := h.fr ((Fr.refl [] w).alloc o) (by simp)
theorem drewN (h : Row w g c T) (n : Nat) : Row (w.drewN n) g c T := h
theorem drew (h : Row w g c T) : Row w.drew g c T := h
theorem setRow (h : Row w g c T) (c' : List Value) : Row (w.setRow g c'.toArray) g c' T := setRow_heap w g _ _ T _ h
theorem unique {c' : List Value} {T' : TypeId} (h : Row w g c T) (k : Row w g c' T') : c = c' := by
  unfold Row at h k
  rw [h] at k
  simpa using (Obj.cells.inj (Option.some.inj k)).1
end Row

/-- from the address a on (a slice's) the bytes l lie in w -/
def BytesAt (w : World) (a : Option Addr) (l : List UInt8) : Prop :=
  l = [] ∨ ∃ b off, a = some ⟨b, off, none⟩ ∧ ∀ i (h : i < l.length), w.cell? ⟨b, off + i, none⟩ = some (.int .u8 (l[i].toNat : Int))

/-- the slice's array is none of the blocks S -/
def Off (a : Option Addr) (S : List Nat) : Prop := ∀ x, a = some x → x.block ∉ S
theorem Off.nil (a : Option Addr) : Off a [] := fun _ _ => by simp

namespace BytesAt
variable {w w1 : World} {a : Option Addr} {l : List UInt8}
theorem get (h : BytesAt w a l) (i : Nat) (hi : i < l.length) : ∃ b off, a = some ⟨b, off, none⟩ ∧ w.cell? ⟨b, off + i, none⟩ = some (.int .u8 (l[i].toNat : Int)) := by
  rcases h with rfl | ⟨b, off, rfl, h⟩
  · simp at hi
  · exact ⟨b, off, rfl, h i hi⟩
theorem nil (w : World) (a : Option Addr) : BytesAt w a [] := .inl rfl
theorem fr {S : List Nat} (h : BytesAt w a l) (f : Fr S w w1) (ha : Off a S) : BytesAt w1 a l := by
  rcases h with rfl | ⟨b, off, rfl, h⟩
  · exact .inl rfl
  · exact .inr ⟨b, off, rfl, fun i hi => f.cell (h i hi) (show b ∉ S from ha ⟨b, off, none⟩ rfl)⟩
theorem fr0 (h : BytesAt w a l) (f : Fr [] w w1) : BytesAt w1 a l := h.fr f (Off.nil a)
theorem drewN (h : BytesAt w a l) (n : Nat) : BytesAt (w.drewN n) a l := h
theorem take (h : BytesAt w a l) (k : Nat) : BytesAt w a (l.take k) := by
  rcases h with rfl | ⟨b, off, rfl, h⟩
  · exact .inl (by simp)
  · exact .inr ⟨b, off, rfl, fun i hi => by
      have hi' : i < l.length := by simp at hi; omega
      simpa using h i hi'⟩
theorem drop {b off : Nat} (h : BytesAt w (some ⟨b, off, none⟩) l) (k : Nat) : BytesAt w (some ⟨b, off + k, none⟩) (l.drop k) := by
  rcases h with rfl | ⟨b', off', he, h⟩
  · exact .inl (by simp)
  · simp only [Option.some.injEq, Addr.mk.injEq, and_true] at he
    obtain ⟨rfl, rfl⟩ := he
    exact .inr ⟨b, off + k, rfl, fun i hi => by
      have hi' : k + i < l.length := by simp at hi; omega
      have := h (k + i) hi'
      rw [← Nat.add_assoc] at this
      simpa using this⟩
theorem row {g : Nat} {T : TypeId} {c : List Value} (h : Row w g c T) (hc : c.take l.length = bs l) : BytesAt w (some ⟨g, 0, none⟩) l := by
  refine .inr ⟨g, 0, rfl, fun i hi => ?_⟩
  rw [Nat.zero_add, h.cell i]
  have := bs_get l i hi
  rw [← hc, List.getElem?_take, if_pos hi] at this
  exact this
theorem ofRow {g : Nat} {T : TypeId} (h : Row w g (bs l) T) : BytesAt w (some ⟨g, 0, none⟩) l := row h (by rw [← bs_length l]; simp)
/-- what the copy law asks of its source -/
theorem src (h : BytesAt w a l) (hl : 0 < l.length) : ∃ ad, a = some ad ∧ ∀ j v, (bs l)[j]? = some v → w.cell? (ad.add j) = some v := by
  rcases h with rfl | ⟨b, off, rfl, h⟩
  · simp at hl
  · refine ⟨_, rfl, fun j v hv => ?_⟩
    have hj : j < l.length := by
      have := List.getElem?_eq_some_iff.1 hv
      simpa [bs_length] using this.1
    rw [bs_get l j hj] at hv
    obtain rfl := Option.some.inj hv
    have hadd : (⟨b, off, none⟩ : Addr).add j = ⟨b, off + j, none⟩ := by unfold Addr.add; split <;> simp_all
    rw [hadd]
    exact h j hj
end BytesAt

theorem ret_bool {x y : Bool} (h : x = y) : Ending.returned (.bool x) = Ending.returned (.bool y) := by rw [h]
theorem ret_int {k : IntKind} {x y : Int} (h : x = y) : Ending.returned (.int k x) = Ending.returned (.int k y) := by rw [h]

theorem take_step {α : Type} {la lb : List α} {k : Nat} (ha : k < la.length) (hb : k < lb.length) (h : la.take k = lb.take k) (he : la[k] = lb[k]) : la.take (k + 1) = lb.take (k + 1) := by
  rw [List.take_succ_eq_append_getElem ha, List.take_succ_eq_append_getElem hb, h, he]

theorem madeCells_one (z : Value) (n : Nat) (hz : z.cells = #[z]) : madeCells z.cells n = (List.replicate n z).toArray := by
  rw [hz]
  apply Array.ext
  · simp [madeCells]
  · intro i h1 h2
    simp [madeCells, Nat.mod_one]

/-- make([]T, n), T of one cell: a new row of n zeros -/
theorem wpList_make {P : Program} {w : World} {ops : Array Oper} {rest : List Oper} {o : Oper} {a : Act} {Q : Exit → Act → World → Prop} (hgd : o.guard = none) (x y : Operand) (t e : TypeId)
    (ho : o.op = .makeSlice t x y) (ht : P.underlying t = some (.slice e)) (z : Value) (bytes : Nat) (hi : (P.info? e).map (fun i => (i.zero, i.size, i.bytes)) = some (some z, 1, bytes)) (hz : z.cells = #[z])
    (n : Nat) (hx : a.eval x = .int .i64 (n : Int)) (hy : a.eval y = .int .i64 (n : Int)) (hb : n * bytes ≤ 281474976710656) (hm : n ≤ maxLen)
    (h : wpList P ops Q rest (a.put o.dst (.slice (some ⟨w.heap.size, 0, none⟩) n n)) (w.alloc (.cells (List.replicate n z).toArray e))) : wpList P ops Q (o :: rest) a w := by
  refine wpList_plain hgd fun K hK => ?_
  obtain ⟨i, hi0, hzero, hsize, hbytes⟩ := info_parts hi
  have hbb : (i.bytes : Int) * (n : Int) ≤ 281474976710656 := by
    have h2 : ((i.bytes * n : Nat) : Int) ≤ 281474976710656 := by rw [hbytes, Nat.mul_comm]; omega
    rwa [Int.natCast_mul] at h2
  have h63 : (n : Int) ≤ 9223372036854775807 := by simp [maxLen] at hm; omega
  have hr := run_make (P := P) w t e i z ht hi0 hzero .i64 .i64 n n (by omega) (Int.le_refl _) hbb h63
  simp only [Int.toNat_natCast, hsize, Nat.mul_one, madeCells_one z n hz] at hr
  unfold Oper.wp
  simp only [execOp, ho, hx, hy, Sem.run_bind, hr, Result.andThen_ok, Oper.upon]
  exact hK _ _ h

/-- the same, the new world and its block under names of their own -/
theorem wpList_make' {P : Program} {w : World} {ops : Array Oper} {rest : List Oper} {o : Oper} {a : Act} {Q : Exit → Act → World → Prop} (hgd : o.guard = none) (x y : Operand) (t e : TypeId)
    (ho : o.op = .makeSlice t x y) (ht : P.underlying t = some (.slice e)) (z : Value) (bytes : Nat) (hi : (P.info? e).map (fun i => (i.zero, i.size, i.bytes)) = some (some z, 1, bytes)) (hz : z.cells = #[z])
    (n : Nat) (hx : a.eval x = .int .i64 (n : Int)) (hy : a.eval y = .int .i64 (n : Int)) (hb : n * bytes ≤ 281474976710656) (hm : n ≤ maxLen)
    (h : ∀ w' g, Row w' g (List.replicate n z) e → w.heap.size ≤ g → Fr [] w w' → wpList P ops Q rest (a.put o.dst (.slice (some ⟨g, 0, none⟩) n n)) w') : wpList P ops Q (o :: rest) a w :=
  wpList_make hgd x y t e ho ht z bytes hi hz n hx hy hb hm (h _ _ (Row.new w _ e) (Nat.le_refl _) ((Fr.refl _ _).alloc _))

/-- append of elements of one cell onto a slice of the call's own -/
theorem wpList_append_fr {P : Program} {w : World} {ops : Array Oper} {rest : List Oper} {o : Oper} {a : Act} {Q : Exit → Act → World → Prop} (hgd : o.guard = none) (s x : Operand) (t : TypeId)
    (ho : o.op = .call { callee := .builtin .append, args := #[s, x], argTypes := #[t, t] })
    (base : Nat) (e : TypeId) (z : Value) (bytes : Nat) (ht : P.underlying t = some (.slice e)) (hi : (P.info? e).map (fun i => (i.zero, i.size, i.bytes)) = some (some z, 1, bytes)) (hz : z.cells = #[z])
    (v : Value) (n : Nat) (xs : List Value) (hs : a.eval s = v) (hown : w.ownsRow base e 1 v n xs)
    (ad : Addr) (m c : Nat) (news : List Value) (hx : a.eval x = .slice (some ad) m c) (hl : news.length = m) (hnews : ∀ j u, news[j]? = some u → w.cell? (ad.add j) = some u) (h1 : ∀ u ∈ news, u.oneCell' = true)
    (h63 : n + m ≤ maxLen) (hbytes : (n + m) * bytes ≤ 140737488355328) (hbase : base ≤ w.heap.size)
    (h : ∀ v' w', w'.ownsRow base e 1 v' (n + m) (xs ++ news) → Fr v.ownBlock.toList w w' → wpList P ops Q rest (a.put o.dst v') w') : wpList P ops Q (o :: rest) a w := by
  obtain ⟨i, hi0, hzero, hsize, hby⟩ := info_parts hi
  exact wpList_append_own w hgd s x t ho base e i z 1 bytes ht hi0 hzero hsize hby (by rw [hz]; rfl) (by omega) v n xs hs hown ad m c news hx (by simpa using hl) hnews h1 h63 hbytes hbase
    fun v' w' h2 h3 _ => h v' w' h2 (Fr.ofGrown h3 fun b hb _ => by rw [hb]; simp)

theorem Fr.own {W w w' : World} {base : Nat} {e : TypeId} {size n : Nat} {v : Value} {xs : List Value} {S : List Nat} (f : Fr S W w) (hb : W.heap.size ≤ base) (ho : w.ownsRow base e size v n xs) (k : Fr v.ownBlock.toList w w') : Fr S W w' :=
  f.trans k fun b h1 h2 => by
    cases hv : v.ownBlock with
    | none => rw [hv] at h1; simp at h1
    | some g =>
      rw [hv] at h1
      have := ho.lt g hv
      simp at h1
      omega
theorem owns_slice {w : World} {base : Nat} {e : TypeId} {n : Nat} {v : Value} {xs : List Value} (h : w.ownsRow base e 1 v n xs) :
    ∃ a c, v = .slice a n c ∧ n ≤ c ∧ c ≤ maxLen ∧ (∀ x, a = some x → base ≤ x.block ∧ x.off = 0 ∧ x.spot = none) ∧ xs.length = n := by
  have hl : xs.length = n := by simpa using h.1
  rcases h.2 with ⟨rfl, rfl⟩ | ⟨g, cap, cur, rfl, hb, hg, hn, hc, _, _⟩
  · exact ⟨none, 0, rfl, Nat.le_refl _, Nat.zero_le _, by simp, hl⟩
  · refine ⟨_, cap, rfl, hn, hc, fun x hx => ?_, hl⟩
    obtain rfl := Option.some.inj hx
    exact ⟨hb, rfl, rfl⟩
theorem owns_bytes {w : World} {base : Nat} {e : TypeId} {n c : Nat} {a : Option Addr} {l : List UInt8} (h : w.ownsRow base e 1 (.slice a n c) n (bs l)) : BytesAt w a l := by
  rcases h.2 with ⟨hv, hn⟩ | ⟨g, cap, cur, hv, hb, hg, hn, hc, _, ht⟩
  · subst hn
    have := h.1
    simp [bs_length] at this
    exact .inl this
  · simp only [Value.slice.injEq] at hv
    obtain ⟨rfl, _, rfl⟩ := hv
    have hl : n = l.length := by have := h.1; simp [bs_length] at this; exact this.symm
    refine BytesAt.row (c := cur.toList) (T := e) (show _ = _ by simpa using hg) ?_
    rw [← hl, ← ht]
    simp
/-- a row that a make has laid is owned -/
theorem owns_row {w : World} {base g : Nat} {T : TypeId} {c : List Value} (h : Row w g c T) (hb : base ≤ g) (hm : c.length ≤ maxLen) : w.ownsRow base T 1 (.slice (some ⟨g, 0, none⟩) c.length c.length) c.length c :=
  ⟨by simp, .inr ⟨g, c.length, c.toArray, rfl, hb, h, Nat.le_refl _, hm, by simp, by simp⟩⟩
theorem owns_fr {w w' : World} {base : Nat} {e : TypeId} {size n : Nat} {v : Value} {xs : List Value} {S : List Nat} (h : w.ownsRow base e size v n xs) (f : Fr S w w') (hS : ∀ b, v.ownBlock = some b → b ∉ S) : w'.ownsRow base e size v n xs := by
  refine ⟨h.1, ?_⟩
  rcases h.2 with h2 | ⟨g, cap, cur, rfl, hb, hg, rest⟩
  · exact .inl h2
  · exact .inr ⟨g, cap, cur, rfl, hb, (f.block g (Array.getElem?_eq_some_iff.1 hg).1 (hS g rfl)).trans hg, rest⟩
theorem owns_fr0 {w w' : World} {base : Nat} {e : TypeId} {size n : Nat} {v : Value} {xs : List Value} (h : w.ownsRow base e size v n xs) (f : Fr [] w w') : w'.ownsRow base e size v n xs := owns_fr h f (by simp)
end Go.Proofs.Ytjhemoekmlhlpaa
