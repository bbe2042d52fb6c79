/- inbox.Inbox[int]'s Held: a new slice of the numbers that are held, rising. -/
import Derived.Test.YtjhemoekmlhlpaaInb
import Derived.Test.YtjhemoekmlhlpaaOutb
import Derived.Test.YtjhemoekmlhlpaaKeysI
import Derived.RangeFuncFrom
import Derived.Sort.OwnSortedInts
import Derived.OwnWalkIn
import Derived.TacticsInMore
import Derived.RegionIn
import Derived.LoopNIn
import Derived.LoopIn
namespace Go.Proofs.Ytjhemoekmlhlpaa
open Go Go.RowKit Go.Maps Go.Sort Go.Shelf
set_option linter.unusedVariables false

theorem intKeys_nodup {D : DataW Unit} (hT : Tidy D) (hk : ∀ l, Maps.has D l = true → ∃ k : Nat, 1 ≤ k ∧ k ≤ 4096 ∧ l = .int .i64 k) (hE : ∃ es, D = .map es ∧ ∀ p ∈ es, WideAt.IsKeyLit p.1) : (intKeys D).Nodup := by
  obtain ⟨es, rfl, hp⟩ := hT
  obtain ⟨es', he, hkl⟩ := hE
  have he2 : es = es' := by injection he
  subst he2
  have hk2 : ∀ p ∈ es, ∃ k : Nat, p.1 = .int .i64 k := fun p hp' => by
    obtain ⟨k, _, _, h⟩ := hk p.1 (by rw [has_eq, List.any_eq_true]; exact ⟨p, hp', WideAt.sameKey_self (hkl p hp')⟩)
    exact ⟨k, h⟩
  unfold intKeys
  refine List.pairwise_map.2 (hp.imp_of_mem fun {p q} hp' hq' hne e => hne ?_)
  obtain ⟨a, ha⟩ := hk2 p hp'
  obtain ⟨b, hb⟩ := hk2 q hq'
  rw [ha, hb] at e ⊢
  exact congrArg _ e
theorem sorted_of_perm {xs : List Int} (hn : xs.Nodup) : (xs.mergeSort leI).Pairwise (· < ·) := by
  have tr : ∀ a b c : Int, leI a b = true → leI b c = true → leI a c = true := fun a b c h1 h2 => by simp only [leI, decide_eq_true_eq] at *; exact Int.le_trans h1 h2
  have to : ∀ a b : Int, (leI a b || leI b a) = true := fun a b => by simp only [leI, Bool.or_eq_true, decide_eq_true_eq]; exact Int.le_total a b
  have h1 := List.pairwise_mergeSort tr to xs
  have h2 : (xs.mergeSort leI).Nodup := (List.mergeSort_perm xs leI).nodup_iff.2 hn
  refine List.Pairwise.imp_of_mem ?_ (h1.and h2)
  rintro a b _ _ ⟨h3, h4⟩
  simp only [leI, decide_eq_true_eq] at h3
  omega

theorem ownsRow_base {w : World} {base n size : Nat} {e : TypeId} {v : Value} {xs : List Value} (h : w.ownsRow base e size v n xs) : ∀ y, v.ownBlock = some y → base ≤ y := by
  intro y hy
  rcases h.2 with ⟨rfl, _⟩ | ⟨g, cap, cur, rfl, hb, _⟩
  · cases hy
  · obtain rfl := Option.some.inj hy
    exact hb
/-- what the loop keeps: the list's cell, the list's own row, all that lay before -/
def HeldAt (w : World) (pre : List Int) (W : World) : Prop :=
  ∃ v, W.heap[w.heap.size]? = some (.cells #[v] 23 (0, 0)) ∧ W.ownsRow (w.heap.size + 2) 3 1 v pre.length (is pre) ∧ Fr [] w W ∧ w.heap.size + 2 ≤ W.heap.size
theorem HeldAt.kept {w W W' : World} {pre : List Int} {row : Option Nat} (h : HeldAt w pre W) (hg : W.grownBy W' row) (hr : ∀ r, row = some r → w.heap.size + 2 ≤ r ∧ ∃ o : Obj, W.heap[r]? = some o ∧ o.isCells = false) : HeldAt w pre W' := by
  obtain ⟨v, h1, h2, h3, h4⟩ := h
  have hf : Fr row.toList W W' := Fr.ofGrown hg (fun b hb _ => by rw [hb]; simp)
  have n1 : ∀ (k : Nat) (c : Array Value) (T : TypeId) (z : Nat × Nat), W.heap[k]? = some (.cells c T z) → k ∉ row.toList := by
    intro k c T z hk hm
    cases row with
    | none => simp at hm
    | some r =>
      simp at hm
      obtain ⟨_, o, ho, hc⟩ := hr r rfl
      rw [hm, ho] at hk
      obtain rfl := Option.some.inj hk
      cases hc
  refine ⟨v, (hf.block _ (by omega) (n1 _ _ _ _ h1)).trans h1, owns_fr h2 hf (fun b hb => ?_), h3.trans hf (fun b hb hlt => ?_), Nat.le_trans h4 hf.size⟩
  · rcases h2.2 with ⟨rfl, _⟩ | ⟨g, cap, cur, rfl, _, hgb, _⟩
    · cases hb
    · obtain rfl := Option.some.inj hb
      exact n1 _ _ _ _ hgb
  · cases row with
    | none => simp at hb
    | some r =>
      simp at hb
      have := (hr r rfl).1
      omega
theorem keepsOthers_own {W W' : World} {base n : Nat} {v : Value} {xs : List Value} (ho : W.ownsRow base 3 1 v n xs) (hg : W.grownBy W' v.ownBlock) : KeepsOthers W W' := by
  refine ⟨hg.size, fun k o hk hc => (hg.block k (Array.getElem?_eq_some_iff.1 hk).1 (fun e => ?_)).trans hk⟩
  rcases ho.2 with ⟨rfl, _⟩ | ⟨g, cap, cur, rfl, _, hgb, _⟩
  · cases e
  · have e1 : k = g := Option.some.inj e
    rw [← e1, hk] at hgb
    rw [Option.some.inj hgb] at hc
    cases hc
theorem keepsWalks_of {W W' : World} (h : KeepsOthers W W') : KeepsWalks W W' := ⟨h.size, fun k o hk hw => h.same k o hk (by cases o <;> first | rfl | cases hw)⟩

set_option maxRecDepth 100000 in
set_option maxHeartbeats 4000000 in
theorem held_any (g b r cum : Nat) (f : Int → Option Int) (w : World) (h : Ibx w g b r cum f) :
    Calls Try.prog 24 #[.pointer (some ⟨g, 0, none⟩)] w fun e w' => ∃ (a : Option Addr) (c : Nat) (L : List Int), e = .returned (.slice a L.length c) ∧ w'.ownsRow w.heap.size 3 1 (.slice a L.length c) L.length (is L) ∧ L.Pairwise (· < ·) ∧ (∀ k, k ∈ L ↔ (f k).isSome = true) ∧ Fr [] w w' := by
  refine (callsIn_wide (n := 6)).1 ?_
  obtain ⟨D, ⟨nn, hown⟩, hhas, hat, hkeys⟩ := h.2.1
  have hT := hown.tidy lawI
  have hE : ∃ es, D = .map es ∧ ∀ p ∈ es, WideAt.IsKeyLit p.1 := by obtain ⟨es, he, _, hk⟩ := hown.entries lawI; exact ⟨es, he, hk⟩
  have hsz := size_bound 4096 D hT hE hkeys
  have hnd := intKeys_nodup hT hkeys hE
  have c2 := h.1.cell' (j := 2) rfl
  have hbl := hown.lt
  have c2' := ((Fr.refl [] w).alloc (.cells #[.slice none 0 0] 23)).cell c2 (by simp)
  clear c2
  have cK : ∀ mb W, CallsIn Fence.wide 5 Try.prog 38 #[.map mb] W fun e w' => e = .returned (.func (.func 52) #[] #[.pointer (some ⟨W.heap.size, 0, none⟩)]) ∧ w' = W.alloc (.cells #[.map mb] 80) := fun mb W => AnyZI.keys_in keysLaid Fence.wide 5 trivial rfl mb W
  have HK := Lib.hid hkeys; have HN := Lib.hid hnd; have HH := Lib.hid hhas; have HT := Lib.hid hT; have HO := Lib.hid hown
  clear hkeys hnd hhas hat hT hE hown h
  have hfK : Fence.wide.fn 38 := trivial
  refine callsIn_of_wp_marks Try.func24 rfl trivial ?_ rfl
  simp only [Try.ntmps24, List.size_toArray, List.length_cons, List.length_nil, Nat.reduceAdd, Nat.reduceSub, Array.replicate_succ, Array.replicate_zero, List.push_toArray, List.append_toArray, List.nil_append, List.cons_append]
  gi_wp2_with (gi_at_call 38; refine (cK _ _).mono ?_; rintro e w' ⟨rfl, rfl⟩)
  obtain ⟨W0, hW0⟩ : ∃ W0, (w.alloc (.cells #[.slice none 0 0] 23)).alloc (.cells #[.map (some b)] 80) = W0 := ⟨_, rfl⟩
  have hs0 : W0.heap.size = w.heap.size + 2 := by rw [← hW0]; simp
  have hB0 : W0.heap[w.heap.size]? = some (.cells #[.slice none 0 0] 23 (0, 0)) := by
    rw [← hW0]; exact (Below.heap_alloc _ _ _ (by simp)).trans (World.alloc_heap_new w _)
  have hB1 : W0.heap[w.heap.size + 1]? = some (.cells #[.map (some b)] 80 (0, 0)) := by
    rw [← hW0]; have := World.alloc_heap_new (w.alloc (.cells #[.slice none 0 0] 23)) (.cells #[.map (some b)] 80); rwa [World.size_alloc] at this
  have hF0 : Fr [] w W0 := by rw [← hW0]; exact ((Fr.refl [] w).alloc _).alloc _
  have hown0 : W0.ownsMap Try.prog 3 (plainElem Try.prog 3) b nn D := by
    obtain ⟨es, clock, hb, Ft, hs, hD⟩ := HO.out
    exact ⟨es, clock, (hF0.block b hbl (by simp)).trans hb, Ft, hs, hD⟩
  rw [hW0]
  have hseq : SeqStopsK Fence.wide 5 Try.prog 52 #[.pointer (some ⟨w.heap.size + 1, 0, none⟩)] (fun x => #[encZ x]) KeepsWalks (fun ss => ss.Perm (intKeys D) ∧ ∀ x, x ∈ ss ↔ Maps.has D (.int .i64 x) = true) (fun pre => pre.Nodup ∧ ∀ x ∈ pre, Maps.has D (.int .i64 x) = true) (Maps.size D) W0 :=
    AnyZI.keys_stops (ρ := keysRen) { keysLaid with } Fence.wide 5 trivial rfl (by omega) (w.heap.size + 1) b nn D W0 (by omega) (by rw [cell_of_row W0 (w.heap.size + 1) 0 _ _ _ hB1]; rfl) hown0
  refine wpIn_rangeFunc_ownF rfl (by omega) (gf := 52) (lb := #[.pointer (some ⟨w.heap.size + 1, 0, none⟩)]) rfl trivial (enters_of Try.func52 (by kernel_rfl) rfl)
    hseq walksK_t (walksK_b (w := W0)) (Below.refl _ _) (fun _ => rfl) (HeldAt w) (fun _ _ _ => False)
    (fun s A B row hs hg hr => hs.kept hg (fun r e => ⟨by have := (hr r e).1; omega, (hr r e).2⟩)) (fun c s A B row hs hg hr => hs)
    ⟨.slice none 0 0, hB0, World.ownsRow_nil _ _ _ _, hF0, by omega⟩
    (fun x => { tmps := #[.pointer (some ⟨g, 0, none⟩), undef, .slice none 0 0, .pointer (some ⟨w.heap.size, 0, none⟩), .int .i64 x, .pointer (some ⟨g, 0, none⟩), .pointer (some ⟨g, 0, none⟩), .pointer (some ⟨g, 2, none⟩), .map (some b), .func (.func 52) #[] #[.pointer (some ⟨w.heap.size + 1, 0, none⟩)], .int .i64 x, undef, undef, undef, undef, undef, undef, undef], defers := [] }) ?assign ?body ?done ?stop
  case assign =>
    intro l x W K hK
    gi_wp2_with (rw [Oper.semAt_eq _ _ _ (fun c h => by cases h)]; go_simp; try go_bits)
    exact hK
  case body =>
    rintro l pre x W ⟨v, h1, h2, h3, h4⟩ hlt
    have hc : W.cell? ⟨w.heap.size, 0, none⟩ = some v := by rw [cell_of_row W w.heap.size 0 _ _ _ h1]; rfl
    have hc' := ((Fr.refl [] W).alloc (.cells #[.int .i64 x] 3)).cell hc (by simp)
    obtain ⟨i0, hi, hz0, hz1, hz2⟩ := info_parts infoI
    have H1 := Lib.hid h1; have H2 := Lib.hid h2; have H3 := Lib.hid h3; have H4 := Lib.hid h4; have HI := Lib.hid hi; have HZ0 := Lib.hid hz0; have HZ1 := Lib.hid hz1; have HZ2 := Lib.hid hz2
    have HLT := Lib.hid hlt
    clear h1 h2 h3 h4 hi hz0 hz1 hz2 hlt hW0 hs0 hB0 hB1 hF0 hown0 hseq hfK cK c2'
    gi_wp2_with (first
      | (gi_at_builtin; refine wpListIn_append_own _ rfl _ _ 23 rfl (w.heap.size + 2) 3 i0 (.int .i64 0) 1 8 Try.underlying23 HI.out HZ0.out HZ1.out HZ2.out rfl (by decide) v pre.length (is pre) rfl (owns_fr0 H2.out ((Fr.refl [] W).alloc _)) ⟨W.heap.size, 0, none⟩ 1 1 [.int .i64 x] rfl rfl (lit1 _ _ _) (by intro u hu; simp at hu; subst hu; rfl) (by have := HLT.out; unfold maxLen; omega) (by have := HLT.out; omega) (by have := H4.out; simp; omega) ?_; intro v' w3 ho3 hg3 _; obtain ⟨a3, cap3, rfl, _, _, _, _⟩ := owns_slice ho3
         have HG3 : Hid (Fr v.ownBlock.toList (W.alloc (.cells #[.int .i64 x] 3)) w3) := Lib.hid (Fr.ofGrown hg3 (fun b hb _ => by rw [hb]; simp))
         have HK3 : Hid (KeepsOthers (W.alloc (.cells #[.int .i64 x] 3)) w3) := Lib.hid (keepsOthers_own (owns_fr0 H2.out ((Fr.refl [] W).alloc _)) hg3)
         have HO3 := Lib.hid ho3
         have hnm : w.heap.size ∉ v.ownBlock.toList := fun hm => by
           cases hv : v.ownBlock with
           | none => rw [hv] at hm; simp at hm
           | some z => rw [hv] at hm; simp at hm; have := H2.out.lt z hv; subst hm; have h5 := (ownsRow_base H2.out) _ hv; omega
         have hB3 : w3.heap[w.heap.size]? = some (.cells #[v] 23 (0, 0)) := (HG3.out.block _ (by have := H4.out; simp; omega) hnm).trans ((Below.heap_alloc _ _ _ (by have := H4.out; omega)).trans H1.out)
         have HB3 := Lib.hid hB3
         have hc3 : w3.cell? ⟨w.heap.size, 0, none⟩ = some v := by rw [cell_of_row w3 w.heap.size 0 _ _ _ hB3]; rfl
         have hf3 : w3.frozen? ⟨w.heap.size, 0, none⟩ = false := by simp [World.frozen?, hB3]
         clear ho3 hg3 hnm hB3 hc hc')
      | (rw [Oper.semAt_eq _ _ _ (fun c h => by cases h)]; go_simp; try go_bits))
    have hKO : KeepsOthers W (w3.setCell ⟨w.heap.size, 0, none⟩ (.slice a3 (pre.length + 1) cap3)) := ((KeepsOthers.alloc W _).trans HK3.out).trans (KeepsOthers.setCell _ _ _)
    refine ⟨hKO, keepsWalks_of hKO, .slice a3 (pre.length + 1) cap3, ?_, ?_, ?_, ?_⟩
    · have h5 := HB3.out
      simp [World.setCell, Array.getElem?_modify, h5]
    · have h5 := HO3.out
      have hne : ∀ b, (Value.slice a3 (pre.length + 1) cap3).ownBlock = some b → b ∉ [w.heap.size] := fun b hb hm => by
        simp at hm
        subst hm
        have := (ownsRow_base h5) _ hb
        omega
      have := owns_fr h5 (S := [w.heap.size]) ((Fr.refl _ w3).setCell (a := ⟨w.heap.size, 0, none⟩) (.slice a3 (pre.length + 1) cap3) (fun _ => by simp)) hne
      simpa [is_append, is] using this
    · refine ((H3.out.alloc _).trans HG3.out (fun b hb hlt => ?_)).setCell (.slice a3 (pre.length + 1) cap3) (fun h => by simp at h)
      cases hv : v.ownBlock with
      | none => rw [hv] at hb; simp at hb
      | some z => rw [hv] at hb; simp at hb; subst hb; have := (ownsRow_base H2.out) _ hv; omega
    · have := HG3.out.size; have := H4.out; simp at *; omega
  case done =>
    rintro D' xs W hD ⟨hperm, hmem⟩ ⟨v, h1, h2, h3, h4⟩ hK
    have hc : W.cell? ⟨w.heap.size, 0, none⟩ = some v := by rw [cell_of_row W w.heap.size 0 _ _ _ h1]; rfl
    have hnx : xs.Nodup := hperm.nodup_iff.2 HN.out
    have hfS : Fence.wide.fn 39 := trivial
    have HS := Lib.hid (sorted_of_perm hnx)
    have HM : Hid (∀ k, k ∈ xs.mergeSort leI ↔ (f k).isSome = true) := Lib.hid (fun k => by rw [(List.mergeSort_perm xs leI).mem_iff, hmem, HH.out])
    have HD2 : Hid (w.heap.size + 2 ≤ D') := Lib.hid (by omega)
    have hxl : xs.length ≤ 4096 := by
      have h5 : (intKeys D).length = Maps.size D := by
        obtain ⟨es, he, _⟩ := HT.out
        rw [he]
        simp [intKeys, size_eq]
      rw [hperm.length_eq, h5]
      exact hsz
    clear hW0 hs0 hB0 hB1 hF0 hown0 hseq hfK cK c2' hmem hperm hnx hD
    rcases h2.2 with ⟨rfl, hn⟩ | ⟨gq, cap, cur, rfl, hb, hg, hn, hcap, hcs, ht⟩
    · obtain rfl := List.eq_nil_of_length_eq_zero hn
      have cS : ∀ p cap W, CallsIn Fence.wide 5 Try.prog 39 #[.slice p 0 cap] W fun e w' => e = .returned (.tuple #[]) ∧ w' = W := fun p cap W => callsIn_wide.2 (AnyM.slices_Sort_int_none sortLaid p cap W)
      gi_wp2_with (gi_at_call 39; refine (cS _ _ _).mono ?_; rintro e w' ⟨rfl, hw⟩; rw [hw]; clear hw)
      refine ⟨by simp, .inl ⟨_, _, rfl, run_takeDeferred hK, ?_⟩⟩
      refine ⟨.slice none 0 0, ?_, none, 0, [], rfl, World.ownsRow_nil _ _ _ _, List.Pairwise.nil, fun k => by simpa using HM.out k, ?_⟩
      · simp [results, Try.f24, go_sem]
      · exact h3.trans (T := [D']) (Fr.ofGrown (grownBy_putObj' W D' (.deferred none)) (fun b hb _ => by cases hb; simp)) (fun b hb hlt => by simp at hb; have := HD2.out; omega)
    · have cS : CallsIn Fence.wide 5 Try.prog 39 #[.slice (some ⟨gq, 0, none⟩) xs.length cap] W fun e w' => e = .returned (.tuple #[]) ∧ ∃ n os, w' = grow (putRow (Value.int .i64) (Sort.ahead W n) gq 0 (xs.mergeSort fun x y => decide (x ≤ y)).toArray) os :=
        callsIn_wide.2 (AnyM.slices_Sort_int sortLaid gq 0 cap xs W (holds_of_blockI hg (by simpa [is] using ht)) (Array.getElem?_eq_some_iff.1 hg).1 (by omega))
      have hlen : (xs.mergeSort leI).length = xs.length := List.length_mergeSort _
      have HG := Lib.hid hg; have HCC := Lib.hid hcs; have HB := Lib.hid hb; have H1 := Lib.hid h1; have H3 := Lib.hid h3; have H4 := Lib.hid h4; have HK5 := Lib.hid hK; have HL := Lib.hid hlen
      have HDQ : Hid (D' ≠ gq) := Lib.hid (by rintro rfl; rw [hK] at hg; cases hg)
      clear hg hcs hb h1 h2 h3 h4 hK hlen ht
      gi_wp2_with (gi_at_call 39; refine cS.mono ?_; rintro e w5 ⟨rfl, nq, os, hw5⟩
                   have HG5 : Hid (Fr [gq] W w5) := Lib.hid (Fr.ofGrown (row := some gq) (by rw [hw5]; exact grownBy_sortedI _) (fun b hb _ => by cases hb; simp))
                   have HO5 : Hid (w5.ownsRow w.heap.size 3 1 (.slice (some ⟨gq, 0, none⟩) xs.length cap) xs.length ((xs.mergeSort leI).map (Value.int .i64))) := Lib.hid (by rw [hw5]; exact ownsRow_sortedI HL.out (by have := HB.out; omega) HG.out hn hcap HCC.out)
                   have hB5 : w5.heap[w.heap.size]? = some (.cells #[.slice (some ⟨gq, 0, none⟩) xs.length cap] 23 (0, 0)) := (HG5.out.block _ (by have := H4.out; omega) (by have := HB.out; simp; omega)).trans H1.out
                   have HK6 : Hid (w5.heap[D']? = some (.deferred (some []))) := Lib.hid ((HG5.out.block _ (Array.getElem?_eq_some_iff.1 HK5.out).1 (by simpa using HDQ.out)).trans HK5.out)
                   have hc5 : w5.cell? ⟨w.heap.size, 0, none⟩ = some (.slice (some ⟨gq, 0, none⟩) xs.length cap) := by rw [cell_of_row w5 w.heap.size 0 _ _ _ hB5]; rfl
                   clear hw5 hB5 hc cS)
      refine ⟨by simp, .inl ⟨_, _, rfl, run_takeDeferred HK6.out, ?_⟩⟩
      have hfD : Fr [D'] w5 (w5.putObj D' (.deferred none)) := Fr.ofGrown (grownBy_putObj' w5 D' (.deferred none)) (fun b hb _ => by cases hb; simp)
      refine ⟨.slice (some ⟨gq, 0, none⟩) xs.length cap, ?_, some ⟨gq, 0, none⟩, cap, xs.mergeSort leI, by rw [HL.out], ?_, HS.out, HM.out, ?_⟩
      · simp [results, Try.f24, go_sem]
      · rw [HL.out]
        exact owns_fr HO5.out hfD (fun b hb hm => by simp at hm; cases hb; exact HDQ.out hm.symm)
      · refine (H3.out.trans HG5.out (fun b hb hlt => ?_)).trans hfD (fun b hb hlt => ?_)
        · simp at hb; have := HB.out; omega
        · simp at hb; have := HD2.out; omega
  case stop =>
    rintro D' c pre W _ _ hf
    exact hf.elim
end Go.Proofs.Ytjhemoekmlhlpaa
