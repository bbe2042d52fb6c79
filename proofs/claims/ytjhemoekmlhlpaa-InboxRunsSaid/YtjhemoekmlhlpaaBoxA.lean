/- Lists of lists of ints that were handed out (Box.L, Box.WL); the contract of Box.keep. -/
import Derived.Test.YtjhemoekmlhlpaaHeldO
import Derived.Test.YtjhemoekmlhlpaaOuta
import Derived.Test.YtjhemoekmlhlpaaRfE
import Derived.Test.YtjhemoekmlhlpaaKeep
import Derived.Deep.RegionHeld3
namespace Go.Proofs.Ytjhemoekmlhlpaa
open Go Go.RowKit
set_option linter.unusedVariables false

/-- of what type the cells of a block are (0: none) -/
def kd (w : World) (b : Nat) : Nat := match w.heap[b]? with | some (.cells _ T _) => T + 1 | _ => 0
theorem Row.kd {w : World} {g : Nat} {c : List Value} {T : TypeId} (h : Row w g c T) : kd w g = T + 1 := by
  unfold Row at h
  unfold Go.Proofs.Ytjhemoekmlhlpaa.kd
  rw [h]
theorem cells_kd {w : World} {g : Nat} {c : Array Value} {T : TypeId} {z : Nat × Nat} (h : w.heap[g]? = some (.cells c T z)) : kd w g = T + 1 := by
  unfold kd
  rw [h]
theorem MapF.kd {w : World} {b : Nat} {f : Int → Option Int} (h : MapF w b f) : kd w b = 0 := by
  obtain ⟨es, cl, he⟩ := h.block
  unfold Go.Proofs.Ytjhemoekmlhlpaa.kd
  rw [he]
theorem MapO.kd {w : World} {b : Nat} {f : Int → Option Int} (h : MapO w b f) : kd w b = 0 := by
  obtain ⟨es, cl, he⟩ := h.block
  unfold Go.Proofs.Ytjhemoekmlhlpaa.kd
  rw [he]
theorem own_kd {w : World} {base n size : Nat} {e : TypeId} {v : Value} {xs : List Value} (h : w.ownsRow base e size v n xs) : ∀ y, v.ownBlock = some y → kd w y = e + 1 := by
  intro y hy
  rcases h.2 with ⟨rfl, _⟩ | ⟨g, cap, cur, rfl, _, hg, _⟩
  · cases hy
  · obtain rfl := Option.some.inj hy
    exact cells_kd hg
theorem kd_ne {w : World} {a b x y : Nat} (h1 : kd w a = x) (h2 : kd w b = y) (h : x ≠ y) : a ≠ b := by
  rintro rfl
  exact h (h1.symm.trans h2)
/-- none of the blocks S is of the type k -/
def NoKd (w : World) (S : List Nat) (k : Nat) : Prop := ∀ y ∈ S, kd w y ≠ k
theorem NoKd.not {w : World} {S : List Nat} {k b : Nat} (h : NoKd w S k) (hb : kd w b = k) : b ∉ S := fun hm => h b hm hb
theorem NoKd.nil (w : World) (k : Nat) : NoKd w [] k := fun _ h => by cases h
theorem NoKd.cons {w : World} {S : List Nat} {k a x : Nat} (ha : kd w a = x) (hx : x ≠ k) (h : NoKd w S k) : NoKd w (a :: S) k := fun y hy => by
  rcases List.mem_cons.1 hy with rfl | hy
  · rw [ha]; exact hx
  · exact h y hy
theorem NoKd.own {w : World} {S : List Nat} {k base n size : Nat} {e : TypeId} {v : Value} {xs : List Value} (ho : w.ownsRow base e size v n xs) (hx : e + 1 ≠ k) (h : NoKd w S k) : NoKd w (v.ownBlock.toList ++ S) k := fun y hy => by
  rcases List.mem_append.1 hy with hy | hy
  · rw [own_kd ho y (by simpa using hy)]; exact hx
  · exact h y hy

/-- x is a slice that holds the ints l -/
def SlotAt (w : World) (x : Value) (l : List Int) : Prop :=
  l.length ≤ 5000 ∧ ((x = .slice none 0 0 ∧ l = []) ∨ ∃ b c cs, x = .slice (some ⟨b, 0, none⟩) l.length c ∧ w.heap[b]? = some (.cells cs 3 (0, 0)) ∧ ∀ i (h : i < l.length), cs[i]? = some (.int .i64 l[i]))
theorem SlotAt.fr {w w' : World} {x : Value} {l : List Int} {S : List Nat} (h : SlotAt w x l) (f : Fr S w w') (hS : NoKd w S (3 + 1)) : SlotAt w' x l := by
  refine ⟨h.1, ?_⟩
  rcases h.2 with h | ⟨b, c, cs, rfl, hb, hc⟩
  · exact .inl h
  · exact .inr ⟨b, c, cs, rfl, (f.block b (Array.getElem?_eq_some_iff.1 hb).1 (hS.not (cells_kd hb))).trans hb, hc⟩
theorem SlotAt.fr0 {w w' : World} {x : Value} {l : List Int} (h : SlotAt w x l) (f : Fr [] w w') : SlotAt w' x l := h.fr f (NoKd.nil _ _)
theorem SlotAt.fr' {w w' : World} {x : Value} {l : List Int} {S : List Nat} (h : SlotAt w x l) (f : Fr S w w') (hS : ∀ y, x.ownBlock = some y → y ∉ S) : SlotAt w' x l := by
  refine ⟨h.1, ?_⟩
  rcases h.2 with h | ⟨b, c, cs, rfl, hb, hc⟩
  · exact .inl h
  · exact .inr ⟨b, c, cs, rfl, (f.block b (Array.getElem?_eq_some_iff.1 hb).1 (hS b rfl)).trans hb, hc⟩
theorem SlotAt.ints {w : World} {x : Value} {l : List Int} (h : SlotAt w x l) : ∃ a c, x = .slice a l.length c ∧ IntsAt w a l := by
  rcases h.2 with ⟨rfl, rfl⟩ | ⟨b, c, cs, rfl, hb, hc⟩
  · exact ⟨none, 0, rfl, .inl rfl⟩
  · refine ⟨_, c, rfl, .inr ⟨b, 0, rfl, fun i hi => ?_⟩⟩
    rw [Nat.zero_add, cell_of_row w b i _ _ _ hb]
    exact hc i hi
theorem SlotAt.own {w : World} {base n : Nat} {v : Value} {l : List Int} (h : w.ownsRow base 3 1 v n (is l)) (hl : l.length ≤ 5000) : SlotAt w v l := by
  refine ⟨hl, ?_⟩
  have hn : n = l.length := by have := h.1; rw [is_length] at this; omega
  rcases h.2 with ⟨rfl, h0⟩ | ⟨g, cap, cur, rfl, _, hg, hc, _, _, ht⟩
  · exact .inl ⟨rfl, List.eq_nil_of_length_eq_zero (by omega)⟩
  · subst hn
    refine .inr ⟨g, cap, cur, rfl, hg, fun i hi => ?_⟩
    have h1 : (is l)[i]? = some (.int .i64 l[i]) := by simp [is, hi]
    rw [← ht, List.getElem?_take, if_pos (by omega)] at h1
    simpa using h1
theorem SlotAt.src {w : World} {x : Value} {l : List Int} (h : SlotAt w x l) : ∃ a c, x = .slice a l.length c ∧ Src w a l.length c (is l) := by
  rcases h.2 with ⟨rfl, rfl⟩ | ⟨b, c, cs, rfl, hb, hc⟩
  · exact ⟨none, 0, rfl, .inl ⟨rfl, rfl, rfl, rfl⟩⟩
  · refine ⟨_, c, rfl, .inr ⟨_, rfl, fun j u hj => ?_⟩⟩
    have hjl : j < l.length := by have := (List.getElem?_eq_some_iff.1 hj).1; rwa [is_length] at this
    have hu : u = .int .i64 l[j] := by
      have h1 : (is l)[j]? = some (.int .i64 l[j]) := by simp [is, hjl]
      rw [h1] at hj
      exact (Option.some.inj hj).symm
    have hadd : (⟨b, 0, none⟩ : Addr).add j = ⟨b, j, none⟩ := by unfold Addr.add; split <;> simp_all
    rw [hadd, cell_of_row w b j _ _ _ hb, hu]
    exact hc j hjl
theorem infoS : (Try.prog.info? 23).map (fun i => (i.zero, i.size, i.bytes)) = some (some (.slice none 0 0), 1, 24) := by kernel_rfl

/-- the slice v holds the slices xs, which hold the lists ls -/
def Lists (w : World) (base : Nat) (v : Value) (xs : List Value) (ls : List (List Int)) : Prop :=
  w.ownsRow base 23 1 v ls.length xs ∧ ∀ i (h : i < ls.length), ∃ x, xs[i]? = some x ∧ SlotAt w x ls[i]
theorem Lists.fr {w w' : World} {base : Nat} {v : Value} {xs : List Value} {ls : List (List Int)} {S : List Nat} (h : Lists w base v xs ls) (f : Fr S w w') (hS : NoKd w S (3 + 1)) (hv : ∀ y, v.ownBlock = some y → y ∉ S) : Lists w' base v xs ls :=
  ⟨owns_fr h.1 f hv, fun i hi => by obtain ⟨x, hx, hs⟩ := h.2 i hi; exact ⟨x, hx, hs.fr f hS⟩⟩
/-- the same, a block of ints among S, of which the slots are told -/
theorem Lists.fr' {w w' : World} {base : Nat} {v : Value} {xs : List Value} {ls : List (List Int)} {S : List Nat} (h : Lists w base v xs ls) (f : Fr S w w') (hv : ∀ y, v.ownBlock = some y → y ∉ S) (hs : ∀ (x : Value) (l : List Int), x ∈ xs → SlotAt w x l → SlotAt w' x l) : Lists w' base v xs ls :=
  ⟨owns_fr h.1 f hv, fun i hi => by obtain ⟨x, hx, hs'⟩ := h.2 i hi; exact ⟨x, hx, hs x _ (List.mem_of_getElem? hx) hs'⟩⟩
theorem Lists.kd {w : World} {base : Nat} {v : Value} {xs : List Value} {ls : List (List Int)} (h : Lists w base v xs ls) : ∀ y, v.ownBlock = some y → kd w y = 23 + 1 := own_kd h.1
theorem Lists.length {w : World} {base : Nat} {v : Value} {xs : List Value} {ls : List (List Int)} (h : Lists w base v xs ls) : xs.length = ls.length := by have := h.1.1; omega
theorem Lists.lt {w : World} {base : Nat} {v : Value} {xs : List Value} {ls : List (List Int)} (h : Lists w base v xs ls) : ∀ x ∈ xs, ∀ y, x.ownBlock = some y → y < w.heap.size := by
  intro x hx y hy
  obtain ⟨i, hi, rfl⟩ := List.getElem_of_mem hx
  obtain ⟨x', hx', hs⟩ := h.2 i (by rw [← h.length]; exact hi)
  rw [List.getElem?_eq_getElem hi] at hx'
  obtain rfl := Option.some.inj hx'
  rcases hs.2 with ⟨he, _⟩ | ⟨b, c, cs, he, hb, _⟩
  · rw [he] at hy; cases hy
  · rw [he] at hy
    obtain rfl := Option.some.inj hy
    exact (Array.getElem?_eq_some_iff.1 hb).1
/-- what a Box has handed out -/
def BoxL (w : World) (base X : Nat) (h0 h1 h2 h3 vL vW : Value) (xs ys : List Value) (ls : List (List Int)) : Prop :=
  Row w X [h0, h1, h2, h3, vL, vW] 74 ∧ Lists w base vL xs ls ∧ Lists w base vW ys ls ∧ (∀ y, vL.ownBlock = some y → vW.ownBlock ≠ some y)
def BoxL.S (X : Nat) (vL vW : Value) : List Nat := X :: (vL.ownBlock.toList ++ (vW.ownBlock.toList ++ []))
theorem BoxL.noKd {w : World} {base X : Nat} {h0 h1 h2 h3 vL vW : Value} {xs ys : List Value} {ls : List (List Int)} (h : BoxL w base X h0 h1 h2 h3 vL vW xs ys ls) (k : Nat) (hk1 : 74 + 1 ≠ k) (hk2 : 23 + 1 ≠ k) : NoKd w (BoxL.S X vL vW) k :=
  NoKd.cons h.1.kd hk1 (NoKd.own h.2.1.1 hk2 (NoKd.own h.2.2.1.1 hk2 (NoKd.nil _ _)))
theorem BoxL.fr {w w' : World} {base X : Nat} {h0 h1 h2 h3 vL vW : Value} {xs ys : List Value} {ls : List (List Int)} {S : List Nat} (h : BoxL w base X h0 h1 h2 h3 vL vW xs ys ls) (f : Fr S w w') (hS1 : NoKd w S (3 + 1)) (hS2 : NoKd w S (23 + 1)) (hS3 : NoKd w S (74 + 1)) : BoxL w' base X h0 h1 h2 h3 vL vW xs ys ls :=
  ⟨h.1.fr f (hS3.not h.1.kd), h.2.1.fr f hS1 (fun y hy => hS2.not (h.2.1.kd y hy)), h.2.2.1.fr f hS1 (fun y hy => hS2.not (h.2.2.1.kd y hy)), h.2.2.2⟩
theorem BoxL.fr0 {w w' : World} {base X : Nat} {h0 h1 h2 h3 vL vW : Value} {xs ys : List Value} {ls : List (List Int)} (h : BoxL w base X h0 h1 h2 h3 vL vW xs ys ls) (f : Fr [] w w') : BoxL w' base X h0 h1 h2 h3 vL vW xs ys ls := h.fr f (NoKd.nil _ _) (NoKd.nil _ _) (NoKd.nil _ _)
end Go.Proofs.Ytjhemoekmlhlpaa
