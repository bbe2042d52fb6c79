/- jotterref09.Inbox: Toss. -/
import Derived.Test.YtjhemoekmlhlpaaRfB
namespace Go.Proofs.Ytjhemoekmlhlpaa
open Go Go.RowKit
set_option linter.unusedVariables false

theorem th_src {w : World} {base g r c n k : Nat} {b : Nat} {L : List (Int × Int)} (h : Rf w base g (.slice (some ⟨b, 0, none⟩) n k) r c L) (i m : Nat) (hm : i + m ≤ L.length) :
    ∀ j u, (th ((L.drop i).take m))[j]? = some u → w.cell? ((⟨b, i * 2, none⟩ : Addr).add j) = some u := by
  intro j u hj
  have hlen : ((L.drop i).take m).length = m := by rw [List.length_take, List.length_drop]; omega
  have hjl : j < m * 2 := by
    have := (List.getElem?_eq_some_iff.1 hj).1
    rwa [th_length, hlen] at this
  have hadd : (⟨b, i * 2, none⟩ : Addr).add j = ⟨b, i * 2 + j, none⟩ := by unfold Addr.add; split <;> simp_all
  rw [hadd]
  have hq : i + j / 2 < L.length := by omega
  obtain ⟨b', hb, e1, e2⟩ := h.get (i + j / 2) hq
  cases hb
  have h2 := th_get ((L.drop i).take m) (j / 2) (by omega)
  simp only [List.getElem_take, List.getElem_drop] at h2
  rcases Nat.mod_two_eq_zero_or_one j with h0 | h0
  · have hj2 : j = j / 2 * 2 := by omega
    rw [hj2, h2.1] at hj
    rw [show i * 2 + j = (i + j / 2) * 2 by omega, e1]
    exact hj
  · have hj2 : j = j / 2 * 2 + 1 := by omega
    rw [hj2, h2.2] at hj
    rw [show i * 2 + j = (i + j / 2) * 2 + 1 by omega, e2]
    exact hj
def RTossPost (ok : Bool) (e : Ending) (w w' : World) (base g : Nat) (v : Value) (r c : Nat) (L : List (Int × Int)) (f' : Int → Option Int) : Prop :=
  (ok = true ∧ e = .returned (.int .i64 0) ∧ ∃ v' L', Rf w' base g v' r c L' ∧ lk L' = f' ∧ (∀ y, v'.ownBlock = some y → w.heap.size ≤ y)) ∨ (ok = false ∧ e = .returned (.int .i64 94) ∧ Rf w' base g v r c L)
set_option maxRecDepth 100000 in
set_option maxHeartbeats 4000000 in
theorem rfToss_any (base g : Nat) (v : Value) (r c : Nat) (L : List (Int × Int)) (w : World) (h : Rf w base g v r c L) (hb : base ≤ w.heap.size) :
    Calls Try.prog 59 #[.pointer (some ⟨g, 0, none⟩)] w fun e w' => RTossPost (lk L ((c + 1 : Nat) : Int)).isSome e w w' base g v r c L (upd (lk L) ((c + 1 : Nat) : Int) none) ∧ Fr [g] w w' := by
  have H := Lib.hid h
  obtain ⟨a, kk, rfl, hk1⟩ := h.slice
  have hl := h.length
  have hc := h.2.2.2.2.2.2
  obtain ⟨n, hn⟩ : ∃ n, n = L.length := ⟨_, rfl⟩
  obtain ⟨c1, hc1⟩ : ∃ c1, c1 = c + 1 := ⟨_, rfl⟩
  have hci : (c : Int) + 1 = (c1 : Int) := by omega
  have HC1 := Lib.hid hc1
  have HN := Lib.hid hn
  have e2 := h.1.cell' (j := 2) rfl
  have e1 := h.1.cell' (j := 1) rfl
  rw [← hn] at hl e2 hk1
  rw [← hc1]
  clear h hn hc1
  go_enter Try.func59, Try.ntmps59
  go_wp2_with fail
  refine (rfFind_any base g _ r c L c1 _ H.out).mono ?_
  rintro e w1 ⟨⟨k, rfl, hf⟩, m, rfl⟩
  rcases hf.lk H.out.2.2.1 with ⟨rfl, hlk⟩ | ⟨i, hi, rfl, hx, hlk⟩
  · have HK := Lib.hid hlk
    clear hlk hf
    go_wp2_with fail
    go_ret
    exact ⟨.inr ⟨by rw [HK.out]; rfl, rfl, H.out.fr0 ((Fr.refl [] w).drewN m)⟩, (Fr.refl _ _).drewN m⟩
  · have HK := Lib.hid hlk
    have HX := Lib.hid hx
    have HIL := Lib.hid hi
    have hin : i < n := by have := HN.out; omega
    obtain ⟨w5, hw5⟩ : ∃ w5, w5 = w.drewN m := ⟨_, rfl⟩
    have hf5 : Fr [] w w5 := by rw [hw5]; exact (Fr.refl _ _).drewN _
    have HF5 := Lib.hid hf5
    have HR5 : Hid (Rf w5 base g (.slice a n kk) r c L) := Lib.hid (by rw [HN.out]; exact H.out.fr0 hf5)
    obtain ⟨bl, hal, _, _⟩ := HR5.out.get i hi
    subst hal
    have g2 := HR5.out.1.cell' (j := 2) rfl
    rw [← hw5]
    have hlt : (L.take i).length = i := by rw [List.length_take]; omega
    have HLT := Lib.hid hlt
    clear hlk hf hx e1 e2 hw5 hf5 hlt
    go_upto_region 6 with (at_builtin; refine wpList_append_at rfl (.tmp 14) (.tmp 20) 97 rfl base 110 (.agg #[.int .i64 0, .int .i64 0]) 2 16 Try.underlying97 infoThing rfl (by decide) (.slice none 0 0) 0 [] rfl (World.ownsRow_nil _ _ _ _) ⟨bl, 0, none⟩ i kk (th (L.take i)) rfl (by rw [th_length, HLT.out]) (by have h5 := th_src HR5.out 0 i (by have := HIL.out; omega); simpa using h5) (th_one _) (by unfold maxLen; omega) (by omega) (by have := HF5.out.size; omega) ?_; intro v' w9 ho9 hf9 hat9; obtain ⟨a9, k9, rfl, hk9⟩ := ho9.slice2; have HO9 := Lib.hid ho9; have HF9 := Lib.hid hf9; have HAT := Lib.hid hat9; have HR9 : Hid (Rf w9 base g (.slice (some ⟨bl, 0, none⟩) n kk) r c L) := Lib.hid (HR5.out.fr0 hf9); have r9 := HR9.out.1.cell' (j := 2) rfl; have r9f := HR9.out.1.free 2; clear ho9 hf9 hat9 g2)
    rw [Nat.zero_add, List.nil_append] at HO9
    by_cases hkk : kk = i + 1
    · have hnn : n = i + 1 := by omega
      have hdr : L.drop (i + 1) = [] := List.drop_of_length_le (by have := HN.out; omega)
      have HDR := Lib.hid hdr
      clear hdr
      subst hkk
      subst hnn
      go_wp2_with (at_builtin; refine wpList_append_at rfl (.tmp 23) (.tmp 30) 97 rfl base 110 (.agg #[.int .i64 0, .int .i64 0]) 2 16 Try.underlying97 infoThing rfl (by decide) (.slice a9 i k9) i (th (L.take i)) rfl HO9.out ⟨bl, 0, none⟩ 0 _ [] rfl rfl (by intro j u hj; simp at hj) (by simp) (by unfold maxLen; omega) (by omega) (by have := HF9.out.size; have := HF5.out.size; omega) ?_; intro v' wa hoa hfa hata; obtain ⟨aa, ka, rfl, hka⟩ := hoa.slice2; have HOa := Lib.hid hoa; have HFa := Lib.hid hfa; have HATa := Lib.hid hata; have HRa : Hid (Row wa g [.int .i64 r, .int .i64 c, .slice (some ⟨bl, 0, none⟩) (i + 1) (i + 1)] 99) := Lib.hid (HR9.out.1.fr hfa (fun hm => (HR9.out.1.neOwn HO9.out (by decide)) _ (mem_own hm) rfl)); have ra := HRa.out.cell' (j := 2) rfl; have raf := HRa.out.free 2; clear hoa hfa hata r9 r9f)
      go_ret
      have hs : (L.take i ++ L.drop (i + 1)).Sublist L := by rw [← List.eraseIdx_eq_take_drop_succ]; exact List.eraseIdx_sublist _ _
      have hset : Fr [g] wa (wa.setCell ⟨g, 2, none⟩ (.slice aa (i + 0) ka)) := (Fr.refl [g] wa).setCell _ (fun _ => by simp)
      have hfresh : ∀ y, (Value.slice a9 i k9).ownBlock = some y → w.heap.size ≤ y := fun y hy => by
        have hz : (Value.slice a9 (0 + i) k9).ownBlock = (Value.slice a9 i k9).ownBlock := by cases a9 <;> rfl
        rcases HAT.out with h5 | h5
        · rw [hz, hy] at h5
          cases h5
        · rw [hz, hy] at h5
          have := Option.some.inj h5
          have := HF5.out.size
          omega
      refine ⟨.inl ⟨by rw [HK.out]; rfl, rfl, .slice aa (i + 0) ka, L.take i ++ L.drop (i + 1), ⟨HRa.out.set 2 _, ?_, H.out.2.2.1.sublist (hs.map _), fun x hx => H.out.2.2.2.1 x (hs.subset hx), H.out.2.2.2.2⟩, ?_, ?_⟩, ?_⟩
      · have hlen : (L.take i ++ L.drop (i + 1)).length = i + 0 := by rw [List.length_append, HLT.out, List.length_drop]; have := HN.out; omega
        rw [hlen, th_append]
        refine owns_fr ?_ hset (fun b hb hm => by simp at hm; subst hm; exact (HRa.out.neOwn HOa.out (by decide)) _ hb rfl)
        exact (by rw [HDR.out]; exact HOa.out)
      · have h5 := lk_del H.out.2.2.1 i HIL.out
        rw [HX.out] at h5
        exact h5
      · intro y hy
        rcases HATa.out with h5 | h5
        · rw [hy] at h5
          exact hfresh y h5.symm
        · rw [hy] at h5
          have := Option.some.inj h5
          have := HF5.out.size
          have := HF9.out.size
          omega
      · exact (((HF5.out.nil [g]).trans HF9.out (fun b hb _ => by cases hb)).trans HFa.out (fun b hb hlt => by have := hfresh b (mem_own hb); omega)).setCell _ (fun _ => by simp)
    · have hkk2 : i + 1 < kk := by omega
      go_wp2_with (at_builtin; refine wpList_append_at rfl (.tmp 23) (.tmp 30) 97 rfl base 110 (.agg #[.int .i64 0, .int .i64 0]) 2 16 Try.underlying97 infoThing rfl (by decide) (.slice a9 i k9) i (th (L.take i)) rfl HO9.out ⟨bl, (i + 1) * 2, none⟩ (n - (i + 1)) _ (th (L.drop (i + 1))) rfl (by rw [th_length, List.length_drop, ← HN.out]) (by have h5 := th_src HR9.out (i + 1) (n - (i + 1)) (by have := HN.out; omega); rw [List.take_of_length_le (by rw [List.length_drop, ← HN.out]; exact Nat.le_refl _)] at h5; exact h5) (th_one _) (by unfold maxLen; omega) (by omega) (by have := HF9.out.size; have := HF5.out.size; omega) ?_; intro v' wa hoa hfa hata; obtain ⟨aa, ka, rfl, hka⟩ := hoa.slice2; have HOa := Lib.hid hoa; have HFa := Lib.hid hfa; have HATa := Lib.hid hata; have HRa : Hid (Row wa g [.int .i64 r, .int .i64 c, .slice (some ⟨bl, 0, none⟩) n kk] 99) := Lib.hid (HR9.out.1.fr hfa (fun hm => (HR9.out.1.neOwn HO9.out (by decide)) _ (mem_own hm) rfl)); have ra := HRa.out.cell' (j := 2) rfl; have raf := HRa.out.free 2; clear hoa hfa hata r9 r9f)
      go_ret
      have hs : (L.take i ++ L.drop (i + 1)).Sublist L := by rw [← List.eraseIdx_eq_take_drop_succ]; exact List.eraseIdx_sublist _ _
      have hset : Fr [g] wa (wa.setCell ⟨g, 2, none⟩ (.slice aa (i + (n - (i + 1))) ka)) := (Fr.refl [g] wa).setCell _ (fun _ => by simp)
      have hfresh : ∀ y, (Value.slice a9 i k9).ownBlock = some y → w.heap.size ≤ y := fun y hy => by
        have hz : (Value.slice a9 (0 + i) k9).ownBlock = (Value.slice a9 i k9).ownBlock := by cases a9 <;> rfl
        rcases HAT.out with h5 | h5
        · rw [hz, hy] at h5
          cases h5
        · rw [hz, hy] at h5
          have := Option.some.inj h5
          have := HF5.out.size
          omega
      refine ⟨.inl ⟨by rw [HK.out]; rfl, rfl, .slice aa (i + (n - (i + 1))) ka, L.take i ++ L.drop (i + 1), ⟨HRa.out.set 2 _, ?_, H.out.2.2.1.sublist (hs.map _), fun x hx => H.out.2.2.2.1 x (hs.subset hx), H.out.2.2.2.2⟩, ?_, ?_⟩, ?_⟩
      · have hlen : (L.take i ++ L.drop (i + 1)).length = i + (n - (i + 1)) := by rw [List.length_append, HLT.out, List.length_drop]; have := HN.out; omega
        rw [hlen, th_append]
        refine owns_fr ?_ hset (fun b hb hm => by simp at hm; subst hm; exact (HRa.out.neOwn HOa.out (by decide)) _ hb rfl)
        exact HOa.out
      · have h5 := lk_del H.out.2.2.1 i HIL.out
        rw [HX.out] at h5
        exact h5
      · intro y hy
        rcases HATa.out with h5 | h5
        · rw [hy] at h5
          exact hfresh y h5.symm
        · rw [hy] at h5
          have := Option.some.inj h5
          have := HF5.out.size
          have := HF9.out.size
          omega
      · exact (((HF5.out.nil [g]).trans HF9.out (fun b hb _ => by cases hb)).trans HFa.out (fun b hb hlt => by have := hfresh b (mem_own hb); omega)).setCell _ (fun _ => by simp)
end Go.Proofs.Ytjhemoekmlhlpaa
