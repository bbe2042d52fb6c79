/- The contract of Box.scrawl. -/
import Derived.Test.YtjhemoekmlhlpaaBoxB
namespace Go.Proofs.Ytjhemoekmlhlpaa
open Go Go.RowKit
set_option linter.unusedVariables false

theorem owns_set {w : World} {base n c b : Nat} {e : TypeId} {xs : List Value} (h : w.ownsRow base e 1 (.slice (some ⟨b, 0, none⟩) n c) n xs) (i : Nat) (u : Value) :
    (w.setCell ⟨b, i, none⟩ u).ownsRow base e 1 (.slice (some ⟨b, 0, none⟩) n c) n (xs.set i u) := by
  refine ⟨by rw [List.length_set]; exact h.1, ?_⟩
  rcases h.2 with ⟨hv, _⟩ | ⟨g, cap, cur, hv, hb, hg, hn, hc, hs, ht⟩
  · cases hv
  · simp only [Value.slice.injEq, Option.some.injEq, Addr.mk.injEq, and_true, true_and] at hv
    obtain ⟨rfl, rfl⟩ := hv
    refine .inr ⟨b, c, cur.setIfInBounds i u, rfl, hb, ?_, hn, hc, by simpa using hs, ?_⟩
    · simp [World.setCell, Array.getElem?_modify, hg]
    · rw [Array.toList_setIfInBounds, List.take_set, ht]
theorem owns_there {w : World} {base n : Nat} {v : Value} {e : TypeId} {xs : List Value} (h : w.ownsRow base e 1 v n xs) (i : Nat) (hi : i < n) :
    ∃ b c u, v = .slice (some ⟨b, 0, none⟩) n c ∧ w.cell? ⟨b, i, none⟩ = some u ∧ w.frozen? ⟨b, i, none⟩ = false := by
  rcases h.2 with ⟨_, h0⟩ | ⟨g, cap, cur, hv, hb, hg, hn, hc, hs, ht⟩
  · omega
  · have hrow : Row w g cur.toList e := by unfold Row; simpa using hg
    refine ⟨g, cap, cur[i]'(by omega), hv, ?_, hrow.free i⟩
    rw [hrow.cell i]
    simp [show i < cur.size by omega]
theorem lit3 (w : World) (x y z : Value) (T : TypeId) : ∀ j u, [x, y, z][j]? = some u → (w.alloc (.cells #[x, y, z] T)).cell? ((⟨w.heap.size, 0, none⟩ : Addr).add j) = some u := by
  intro j u hj
  match j, hj with
  | 0, hj => simp at hj; subst hj; simp [Addr.add]
  | 1, hj => simp at hj; subst hj; simp [Addr.add]
  | 2, hj => simp at hj; subst hj; simp [Addr.add]
/-- w' is w, but for new blocks, the blocks T and blocks of the types ks -/
def FrK (bs : Nat) (ks T : List Nat) (w w' : World) : Prop := ∃ S, Fr S w w' ∧ ∀ y ∈ S, y < w.heap.size → y ∈ T ∨ (kd w y ∈ ks ∧ bs ≤ y)
theorem FrK.of {bs : Nat} {ks T S : List Nat} {w w' : World} (h : Fr S w w') (hS : ∀ y ∈ S, y < w.heap.size → y ∈ T ∨ (kd w y ∈ ks ∧ bs ≤ y)) : FrK bs ks T w w' := ⟨S, h, hS⟩
theorem FrK.nil {bs : Nat} {ks T : List Nat} {w w' : World} (h : Fr [] w w') : FrK bs ks T w w' := ⟨[], h, fun _ h => by cases h⟩
theorem FrK.trans {bs : Nat} {ks T : List Nat} {w w1 w2 : World} (h : FrK bs ks T w w1) (k : FrK bs ks T w1 w2) : FrK bs ks T w w2 := by
  obtain ⟨S1, f1, h1⟩ := h
  obtain ⟨S2, f2, h2⟩ := k
  refine ⟨S1 ++ S2, (f1.mono (T := S1 ++ S2) (fun b hb _ => List.mem_append_left _ hb)).trans f2 (fun b hb _ => List.mem_append_right _ hb), fun y hy hl => ?_⟩
  by_cases hy1 : y ∈ S1
  · exact h1 y hy1 hl
  · rcases List.mem_append.1 hy with hy | hy
    · exact absurd hy hy1
    · have hk : kd w1 y = kd w y := by unfold kd; rw [f1.block y hl hy1]
      rw [← hk]
      exact h2 y hy (Nat.lt_of_lt_of_le hl f1.size)
theorem FrK.mono {bs : Nat} {ks ks' T T' : List Nat} {w w' : World} (h : FrK bs ks T w w') (hk : ∀ k ∈ ks, k ∈ ks') (hT : ∀ y ∈ T, y < w.heap.size → y ∈ T') : FrK bs ks' T' w w' := by
  obtain ⟨S, f, hS⟩ := h
  exact ⟨S, f, fun y hy hl => (hS y hy hl).elim (fun h => .inl (hT y h hl)) (fun h => .inr ⟨hk _ h.1, h.2⟩)⟩
theorem BoxL.frK {w w' : World} {base X : Nat} {h0 h1 h2 h3 vL vW : Value} {xs ys : List Value} {ls : List (List Int)} {T : List Nat} (h : BoxL w base X h0 h1 h2 h3 vL vW xs ys ls) (f : Fr (BoxL.S X vL vW) w w') (hX : base ≤ X) : FrK base [74 + 1, 23 + 1] T w w' := by
  refine .of f fun y hy _ => .inr ?_
  unfold BoxL.S at hy
  rcases List.mem_cons.1 hy with rfl | hy
  · rw [h.1.kd]; simpa using hX
  · rcases List.mem_append.1 hy with hy | hy
    · rw [h.2.1.kd y (by simpa using hy)]; simpa using ownsRow_base h.2.1.1 y (by simpa using hy)
    · rcases List.mem_append.1 hy with hy | hy
      · rw [h.2.2.1.kd y (by simpa using hy)]; simpa using ownsRow_base h.2.2.1.1 y (by simpa using hy)
      · cases hy
theorem SlotAt.same {w w' : World} {base n : Nat} {v : Value} {zs : List Value} {l : List Int} (h : SlotAt w v l) (h1 : w.ownsRow base 3 1 v n zs) (h2 : w'.ownsRow base 3 1 v n zs) : SlotAt w' v l := by
  refine ⟨h.1, ?_⟩
  rcases h.2 with h | ⟨b, c, cs, rfl, hb, hc⟩
  · exact .inl h
  · rcases h1.2 with ⟨hv, _⟩ | ⟨g, cap, cur, hv, _, hg, hn, _, _, ht⟩
    · cases hv
    · simp only [Value.slice.injEq, Option.some.injEq, Addr.mk.injEq, and_true, true_and] at hv
      obtain ⟨rfl, rfl, rfl⟩ := hv
      rw [hb] at hg
      obtain ⟨rfl, _⟩ := Obj.cells.inj (Option.some.inj hg)
      rcases h2.2 with ⟨hv, _⟩ | ⟨g', cap', cur', hv, _, hg', hn', _, _, ht'⟩
      · cases hv
      · simp only [Value.slice.injEq, Option.some.injEq, Addr.mk.injEq, and_true, true_and] at hv
        obtain ⟨rfl, rfl⟩ := hv
        refine .inr ⟨b, c, cur', rfl, hg', fun i hi => ?_⟩
        have e : (cur'.toList.take (l.length * 1))[i]? = (cs.toList.take (l.length * 1))[i]? := by rw [ht', ht]
        simp only [List.getElem?_take] at e
        rw [if_pos (by omega), if_pos (by omega)] at e
        have e2 : cur'[i]? = cs[i]? := by simpa using e
        rw [e2]
        exact hc i hi
set_option maxRecDepth 100000 in
set_option maxHeartbeats 4000000 in
theorem scrawl_any (base X : Nat) (h0 h1 h2 h3 vL vW v : Value) (xs ys : List Value) (ls : List (List Int)) (M : List Int) (b0 : Nat) (w : World) (h : BoxL w base X h0 h1 h2 h3 vL vW xs ys ls)
    (ho : w.ownsRow b0 3 1 v M.length (is M)) (hb0 : b0 ≤ w.heap.size) (hd : ∀ x, x ∈ xs ∨ x ∈ ys → ∀ y, x.ownBlock = some y → v.ownBlock ≠ some y) (hb : base ≤ w.heap.size) (hX : base ≤ X) (hls : ls.length ≤ 50) (hM : M.length ≤ 4096) :
    Calls Try.prog 49 #[.pointer (some ⟨X, 0, none⟩), v] w fun e w' => e = .returned (.tuple #[]) ∧ (∃ vL' vW' xs' ys' ls', BoxL w' base X h0 h1 h2 h3 vL' vW' xs' ys' ls' ∧ ls'.length = ls.length + 2 ∧ ∀ x, x ∈ xs' ∨ x ∈ ys' → (x ∈ xs ∨ x ∈ ys) ∨ ∀ y, x.ownBlock = some y → w.heap.size ≤ y ∨ v.ownBlock = some y) ∧ FrK base [74 + 1, 23 + 1] v.ownBlock.toList w w' := by
  have H := Lib.hid h; have HO := Lib.hid ho; have HB := Lib.hid hb; have HB0 := Lib.hid hb0; have HD := Lib.hid hd; have HXB := Lib.hid hX
  obtain ⟨aL, cL, rfl⟩ := h.2.1.slice
  obtain ⟨a, c, rfl, _, hc, ha, _⟩ := owns_slice ho
  obtain ⟨n, hn⟩ : ∃ n, n = M.length := ⟨_, rfl⟩
  obtain ⟨k, hk⟩ : ∃ k, k = ls.length := ⟨_, rfl⟩
  have c4 := h.1.cell' (j := 4) rfl
  rw [← hk] at c4 hls
  rw [← hn] at hM
  rw [← hn]
  have HN := Lib.hid hn; have HK := Lib.hid hk; have HA := Lib.hid ha
  obtain ⟨s, hs⟩ : ∃ s : Int, s = -1 - (k : Int) := ⟨_, rfl⟩
  have hsi : (-1 : Int) - (k : Int) = s := hs.symm
  have hs1 : s ≤ -1 := by omega
  have hs2 : -60 ≤ s := by omega
  have q1 : IntKind.i64.wrap s = s := IntWalk.i64_in _ (by omega)
  have q2 : IntKind.i64.wrap (s - 1000) = s - 1000 := IntWalk.i64_in _ (by omega)
  have q3 : IntKind.i64.wrap (s - 2000) = s - 2000 := IntWalk.i64_in _ (by omega)
  clear h ho hb hb0 hd hn hk ha hs hX
  go_enter Try.func49, Try.ntmps49
  go_wp2_with fail
  go_loopw [5] (fun i wr => ∃ j : Nat, i = .int .i64 j ∧ j ≤ n ∧ Hid (Fr (Value.slice a n c).ownBlock.toList w wr) ∧ Hid (∃ M', wr.ownsRow b0 3 1 (.slice a n c) n (is M') ∧ M'.length = n)) (fun i _ => n - (intOf i).toNat)
  case atStart => exact ⟨0, rfl, Nat.zero_le _, Lib.hid (Fr.refl _ _), Lib.hid ⟨M, by rw [HN.out]; exact HO.out, HN.out.symm⟩⟩
  case round =>
    obtain ⟨j, rfl, hj, HFR, HM'⟩ := hrel
    by_cases hlt : j < n
    · obtain ⟨M', ho', hM'⟩ := HM'.out
      obtain ⟨b, c', u, hv, hcell, hfree⟩ := owns_there ho' j hlt
      obtain ⟨rfl, rfl⟩ : a = some ⟨b, 0, none⟩ ∧ c = c' := by simpa using hv
      have HO' := Lib.hid ho'; have HM2 := Lib.hid hM'
      clear ho' hM' hv HM'
      have hjn : (j : Int) < (n : Int) := by omega
      go_wp2_with fail
      go_roundw
      case rel =>
        refine ⟨j + 1, by go_num, by omega, Lib.hid (HFR.out.setCell (a := ⟨b, j, none⟩) _ (fun _ => by simp [Value.ownBlock])), Lib.hid ⟨M'.set j s, ?_, by rw [List.length_set]; exact HM2.out⟩⟩
        have := owns_set HO'.out j (.int .i64 s)
        unfold is at this ⊢
        rw [List.map_set]
        exact this
      case measure => simp [intOf]; omega
    · obtain ⟨M', ho', hM'⟩ := HM'.out
      have hvv : (Value.slice a n c).ownBlock = (Value.slice a M.length c).ownBlock := by rw [HN.out]
      have hnk : ∀ k, k ≠ 3 + 1 → NoKd w (Value.slice a n c).ownBlock.toList k := fun k hk y hy => by rw [own_kd HO.out y (by rw [← hvv]; simpa using hy)]; exact fun e => hk e.symm
      have hbl : BoxL wr base X h0 h1 h2 h3 (.slice aL ls.length cL) vW xs ys ls :=
        ⟨H.out.1.fr HFR.out ((hnk _ (by decide)).not H.out.1.kd), H.out.2.1.fr' HFR.out (fun y hy => (hnk _ (by decide)).not (H.out.2.1.kd y hy)) (fun x l hx hs => hs.fr' HFR.out fun y hy hm => HD.out x (.inl hx) y hy (by rw [← hvv]; simpa using hm)),
          H.out.2.2.1.fr' HFR.out (fun y hy => (hnk _ (by decide)).not (H.out.2.2.1.kd y hy)) (fun x l hx hs => hs.fr' HFR.out fun y hy hm => HD.out x (.inr hx) y hy (by rw [← hvv]; simpa using hm)), H.out.2.2.2⟩
      have hM2 : M'.length ≤ 5000 := by omega
      have HBL := Lib.hid hbl
      have HS := Lib.hid (SlotAt.own ho' hM2)
      have HO' := Lib.hid ho'; have HM2 := Lib.hid hM'; have HVV := Lib.hid hvv
      clear ho' hM' hM2 hbl hvv hnk HM'
      go_wp2_with fail
      refine (keep_any base X h0 h1 h2 h3 _ vW _ xs ys ls M' _ HBL.out HS.out (by have := HB.out; have := HFR.out.size; omega) (by rw [← HK.out]; omega)).mono ?_
      rintro e w5 ⟨rfl, ⟨vL5, vW5, y5, hb5, hy5⟩, hf5⟩
      have ho5 : w5.ownsRow b0 3 1 (.slice a n c) n (is M') := owns_fr HO'.out hf5 (fun y hy hm => HBL.out.noKd _ (by decide) (by decide) y hm (own_kd HO'.out y hy))
      have HB5 := Lib.hid hb5; have HY5 := Lib.hid hy5; have HF5 := Lib.hid hf5; have HO5 := Lib.hid ho5
      clear hb5 hy5 hf5 ho5
      go_wp2_with (at_builtin; refine wpList_append_keep rfl (.tmp 26) (.tmp 32) 23 rfl b0 3 (.int .i64 0) 1 8 Try.underlying23 infoI rfl (by decide) (.slice a n c) n (is M') rfl (owns_fr0 HO5.out ((Fr.refl _ _).alloc _)) (some ⟨w5.heap.size, 0, none⟩) 3 3 [.int .i64 s, .int .i64 (s - 1000), .int .i64 (s - 2000)] rfl rfl (.inr ⟨_, rfl, lit3 _ _ _ _ _⟩) (by intro u hu; simp at hu; rcases hu with rfl | rfl | rfl <;> rfl) (by unfold maxLen; omega) (by omega) (by have := HB0.out; have := HFR.out.size; have := HF5.out.size; simp; omega) ?_; intro v6 w6 ho6 hk6 hat6; have HO6 := Lib.hid ho6; have HK6 := Lib.hid hk6; have HAT6 := Lib.hid hat6; clear ho6 hk6 hat6)
      have hvl : ∀ y, (Value.slice a n c).ownBlock = some y → y < wr.heap.size := fun y hy => (HO'.out.lt y hy).2
      have hf56 : Fr (Value.slice a n c).ownBlock.toList w5 w6 := by
        rcases HAT6.out with ⟨_, h⟩ | ⟨_, h⟩
        · exact (((Fr.refl [] w5).alloc _).nil _).trans h (fun b hb _ => hb)
        · exact ((((Fr.refl [] w5).alloc _).trans0 h)).nil _
      have hkv : ∀ y, (Value.slice a n c).ownBlock = some y → kd w5 y = 3 + 1 := own_kd HO5.out
      have hnk : ∀ k, k ≠ 3 + 1 → NoKd w5 (Value.slice a n c).ownBlock.toList k := fun k hk y hy => by rw [hkv y (by simpa using hy)]; exact fun e => hk e.symm
      have hb6 : BoxL w6 base X h0 h1 h2 h3 vL5 vW5 (xs ++ [.slice a n c]) (ys ++ [y5]) (ls ++ [M']) := by
        refine ⟨HB5.out.1.fr hf56 ((hnk _ (by decide)).not HB5.out.1.kd), HB5.out.2.1.fr' hf56 (fun y hy => (hnk _ (by decide)).not (HB5.out.2.1.kd y hy)) (fun x l hx hs => ?_), HB5.out.2.2.1.fr' hf56 (fun y hy => (hnk _ (by decide)).not (HB5.out.2.2.1.kd y hy)) (fun x l hx hs => ?_), HB5.out.2.2.2⟩
        · rcases List.mem_append.1 hx with hx | hx
          · refine hs.fr' hf56 fun y hy hm => ?_
            exact HD.out x (.inl hx) y hy (by rw [← HVV.out]; simpa using hm)
          · obtain rfl := List.mem_singleton.1 hx
            exact hs.same HO5.out HK6.out
        · rcases List.mem_append.1 hx with hx | hx
          · refine hs.fr' hf56 fun y hy hm => ?_
            exact HD.out x (.inr hx) y hy (by rw [← HVV.out]; simpa using hm)
          · obtain rfl := List.mem_singleton.1 hx
            refine hs.fr' hf56 fun y hy hm => ?_
            have h1 := HY5.out y hy
            have h2 := hvl y (by simpa using hm)
            omega
      have hs6 : SlotAt w6 v6 (M' ++ [s, s - 1000, s - 2000]) := SlotAt.own (n := n + 3) (by have := HO6.out; simpa [is] using this) (by rw [List.length_append, HM2.out]; simp; omega)
      refine (keep_any base X h0 h1 h2 h3 _ _ _ _ _ _ _ _ hb6 hs6 (by have := HB.out; have := HFR.out.size; have := HF5.out.size; have := hf56.size; omega) (by rw [List.length_append, ← HK.out]; simp; omega)).mono ?_
      rintro e w7 ⟨rfl, ⟨vL7, vW7, y7, hb7, hy7⟩, hf7⟩
      have hT : ∀ W : World, (∀ y, (Value.slice a n c).ownBlock = some y → True) → ∀ S : List Nat, ∀ W', Fr (Value.slice a n c).ownBlock.toList W W' → FrK base [74 + 1, 23 + 1] (Value.slice a n c).ownBlock.toList W W' := fun W _ S W' hW => .of hW fun y hy _ => .inl hy
      have hF := (((hT w (fun _ _ => trivial) [] wr HFR.out).trans (HBL.out.frK HF5.out HXB.out)).trans (hT w5 (fun _ _ => trivial) [] w6 hf56)).trans (hb6.frK hf7 HXB.out)
      have hnew : ∀ x, x ∈ (xs ++ [.slice a n c]) ++ [v6] ∨ x ∈ (ys ++ [y5]) ++ [y7] → (x ∈ xs ∨ x ∈ ys) ∨ ∀ y, x.ownBlock = some y → w.heap.size ≤ y ∨ (Value.slice a n c).ownBlock = some y := by
        intro x hx
        simp only [List.mem_append, List.mem_singleton] at hx
        have z1 := HFR.out.size
        have z2 := HF5.out.size
        have z3 := hf56.size
        rcases hx with ((hx | rfl) | rfl) | ((hx | rfl) | rfl)
        · exact .inl (.inl hx)
        · exact .inr fun y hy => .inr hy
        · refine .inr fun y hy => ?_
          rcases HAT6.out with ⟨e, _⟩ | ⟨e, _⟩
          · exact .inr (by rw [← e]; exact hy)
          · rw [hy] at e
            have e2 := Option.some.inj e
            rw [World.size_alloc] at e2
            exact .inl (by omega)
        · exact .inl (.inr hx)
        · exact .inr fun y hy => .inl (by have := HY5.out y hy; omega)
        · exact .inr fun y hy => .inl (by have := hy7 y hy; omega)
      have HB7 := Lib.hid hb7; have HFK := Lib.hid hF; have HNEW := Lib.hid hnew
      clear hb7 hF hf7 hy7 hs6 hb6 hnk hkv hf56 hvl hT hnew
      go_wp2_with fail
      first | go_end0 | go_ret
      exact ⟨rfl, ⟨_, _, _, _, _, HB7.out, by simp, HNEW.out⟩, HFK.out⟩
end Go.Proofs.Ytjhemoekmlhlpaa
