/- jotterref09.Inbox: Head, Put. -/
import Derived.Test.YtjhemoekmlhlpaaRfA
namespace Go.Proofs.Ytjhemoekmlhlpaa
open Go Go.RowKit
set_option linter.unusedVariables false

theorem Found.lk {L : List (Int × Int)} {num k : Int} (h : Found L num k) (hn : (L.map (·.1)).Nodup) : (k = -1 ∧ lk L num = none) ∨ ∃ (i : Nat) (hi : i < L.length), k = i ∧ L[i].1 = num ∧ lk L num = some L[i].2 := by
  rcases h with ⟨i, hi, h1, h2⟩ | ⟨h1, h2⟩
  · exact .inr ⟨i, hi, h1, h2, by rw [← h2]; exact lk_get hn i hi⟩
  · exact .inl ⟨h1, lk_none h2⟩
set_option maxRecDepth 100000 in
set_option maxHeartbeats 4000000 in
theorem rfHead_any (base g : Nat) (v : Value) (r c : Nat) (L : List (Int × Int)) (w : World) (h : Rf w base g v r c L) :
    Calls Try.prog 44 #[.pointer (some ⟨g, 0, none⟩)] w fun e w' => e = .returned (.tuple #[.int .i64 ((lk L ((c + 1 : Nat) : Int)).getD 0), .bool (lk L ((c + 1 : Nat) : Int)).isSome]) ∧ ∃ n, w' = w.drewN n := by
  have H := Lib.hid h
  obtain ⟨a, kk, rfl, hk1⟩ := h.slice
  have hl := h.length
  have hc := h.2.2.2.2.2.2
  obtain ⟨n, hn⟩ : ∃ n, n = L.length := ⟨_, rfl⟩
  obtain ⟨c1, hc1⟩ : ∃ c1, c1 = c + 1 := ⟨_, rfl⟩
  have hci : (c : Int) + 1 = (c1 : Int) := by omega
  have HC1 := Lib.hid hc1
  have HN := Lib.hid hn
  have e2 := h.1.cell' (j := 2) rfl
  have e1 := h.1.cell' (j := 1) rfl
  rw [← hn] at hl e2
  rw [← hc1]
  clear h hk1 hn hc1
  go_enter Try.func44, Try.ntmps44
  go_wp2_with fail
  refine (rfFind_any base g _ r c L c1 _ H.out).mono ?_
  rintro e w1 ⟨⟨k, rfl, hf⟩, m, rfl⟩
  rcases hf.lk H.out.2.2.1 with ⟨rfl, hlk⟩ | ⟨i, hi, rfl, hx, hlk⟩
  · have HK := Lib.hid hlk
    clear hlk hf
    go_wp2_with fail
    go_ret2
    exact ⟨by rw [HK.out]; rfl, m, rfl⟩
  · have HK := Lib.hid hlk
    have hr : Rf w base g (.slice a n kk) r c L := by rw [HN.out]; exact H.out
    obtain ⟨bl, hal, f1, f2⟩ := hr.get i hi
    subst hal
    have hin : i < n := by have := HN.out; omega
    generalize L[i].2 = x at f2 hlk HK
    clear hlk hf hr f1 hx hi
    go_wp2_with fail
    go_ret2
    exact ⟨by rw [HK.out]; rfl, m, rfl⟩
theorem infoThing : (Try.prog.info? 110).map (fun i => (i.zero, i.size, i.bytes)) = some (some (.agg #[.int .i64 0, .int .i64 0]), 2, 16) := by kernel_rfl
set_option maxRecDepth 100000 in
set_option maxHeartbeats 4000000 in
theorem rfPut_any (base g : Nat) (v : Value) (r c : Nat) (L : List (Int × Int)) (num x : Int) (w : World) (h : Rf w base g v r c L) (hb : base ≤ w.heap.size) (hnw : (Lit.int .i64 num).wf = true) :
    Calls Try.prog 55 #[.pointer (some ⟨g, 0, none⟩), .int .i64 num, .int .i64 x] w fun e w' => e = .returned (.int .i64 (putCode r c (lk L) num)) ∧
      (∃ v' L', Rf w' base g v' r c L' ∧ lk L' = putF r c (lk L) num x ∧ (v'.ownBlock = v.ownBlock ∨ ∃ y, v'.ownBlock = some y ∧ w.heap.size ≤ y)) ∧ Fr (g :: v.ownBlock.toList) w w' := by
  have H := Lib.hid h
  obtain ⟨a, kk, rfl, hk1⟩ := h.slice
  have hl := h.length
  have hc := h.2.2.2.2.2.2
  have hr4 := h.2.2.2.2.2.1
  obtain ⟨n, hn⟩ : ∃ n, n = L.length := ⟨_, rfl⟩
  have HN := Lib.hid hn
  have e2 := h.1.cell' (j := 2) rfl
  have e1 := h.1.cell' (j := 1) rfl
  have e0 := h.1.cell' (j := 0) rfl
  rw [← hn] at hl e2
  clear h hk1 hn
  go_enter Try.func55, Try.ntmps55
  by_cases hrange : num < 1 ∨ 4096 < num
  · have hcode : putCode r c (lk L) num = 91 := by unfold putCode; rw [if_pos hrange]
    have HK := Lib.hid hcode
    have hend : Rf w base g (.slice a L.length kk) r c L ∧ lk L = putF r c (lk L) num x := ⟨H.out, (putF_no HK.out (by decide)).symm⟩
    have HE := Lib.hid hend
    rw [hcode]
    clear hcode hend
    by_cases hlo : num < 1
    · go_wp2_with fail
      go_ret
      exact ⟨rfl, ⟨_, L, HE.out.1, HE.out.2, .inl rfl⟩, Fr.refl _ _⟩
    · have hhi : 4096 < num := by omega
      go_wp2_with fail
      go_ret
      exact ⟨rfl, ⟨_, L, HE.out.1, HE.out.2, .inl rfl⟩, Fr.refl _ _⟩
  · have hlo : ¬ num < 1 := by omega
    have hhi : ¬ 4096 < num := by omega
    have HR := Lib.hid hrange
    clear hrange
    by_cases hcc : num ≤ c
    · have hcode : putCode r c (lk L) num = 92 := by unfold putCode; rw [if_neg HR.out, if_pos (.inr hcc)]
      have HK := Lib.hid hcode
      have HE : Hid (Rf w base g (.slice a L.length kk) r c L ∧ lk L = putF r c (lk L) num x) := Lib.hid ⟨H.out, (putF_no HK.out (by decide)).symm⟩
      rw [hcode]
      clear hcode
      go_wp2_with fail
      go_ret
      exact ⟨rfl, ⟨_, L, HE.out.1, HE.out.2, .inl rfl⟩, Fr.refl _ _⟩
    · go_wp2_with fail
      refine (rfFind_any base g _ r c L num _ H.out).mono ?_
      rintro e w1 ⟨⟨k, rfl, hf⟩, m, rfl⟩
      rcases hf.lk H.out.2.2.1 with ⟨rfl, hlk⟩ | ⟨i, hi, rfl, hx, hlk⟩
      · have HLK := Lib.hid hlk
        have HFN : Hid (∀ y ∈ L, y.1 ≠ num) := Lib.hid (by
          rcases hf with ⟨i, _, h1, _⟩ | ⟨_, h2⟩
          · omega
          · exact h2)
        clear hf hlk
        have q1 : IntKind.i64.wrap (num - (c : Int)) = num - (c : Int) := IntWalk.i64_in _ (by omega)
        by_cases hfar : (c : Int) + r < num
        · have hcode : putCode r c (lk L) num = 93 := by unfold putCode; rw [if_neg HR.out, if_neg (by rw [HLK.out]; simp; omega), if_pos hfar]
          have HK := Lib.hid hcode
          have HE : Hid (Rf w base g (.slice a L.length kk) r c L ∧ lk L = putF r c (lk L) num x) := Lib.hid ⟨H.out, (putF_no HK.out (by decide)).symm⟩
          have hd : decide ((r : Int) < num - (c : Int)) = true := decide_eq_true (by omega)
          clear hcode
          go_wp2_with fail
          go_quiet (fail)
          go_wp2_with fail
          go_ret
          exact ⟨by rw [HK.out]; rfl, ⟨_, L, HE.out.1.fr0 (((Fr.refl [] w).drewN m).drewN nq), HE.out.2, .inl rfl⟩, ((Fr.refl _ _).drewN m).drewN nq⟩
        · have hcode : putCode r c (lk L) num = 0 := by unfold putCode; rw [if_neg HR.out, if_neg (by rw [HLK.out]; simp; omega), if_neg hfar]
          have HK := Lib.hid hcode
          have hd : decide ((r : Int) < num - (c : Int)) = false := decide_eq_false (by omega)
          have ho : w.ownsRow base 110 2 (.slice a n kk) n (th L) := by rw [HN.out]; exact H.out.2.1
          have HO := Lib.hid ho
          clear hcode ho
          go_wp2_with fail
          go_quiet (fail)
          obtain ⟨w5, hw5⟩ : ∃ w5, w5 = (w.drewN m).drewN nq := ⟨_, rfl⟩
          have hf5 : Fr [] w w5 := by rw [hw5]; exact ((Fr.refl _ _).drewN _).drewN _
          have g2 := hf5.cell e2 (by simp)
          have g2f : w5.frozen? ⟨g, 2, none⟩ = false := (H.out.1.fr hf5 (by simp)).free 2
          have HF5 := Lib.hid hf5
          have HO5 := Lib.hid (owns_fr0 HO.out hf5)
          have HR5 := Lib.hid (H.out.1.fr hf5 (by simp))
          rw [← hw5]
          clear hf5 e2 e1 e0 hw5
          have hne : ∀ y, (Value.slice a n kk).ownBlock = some y → g ≠ y := by
            have h5 := H.out.1.neOwn H.out.2.1 (by decide)
            rw [← HN.out] at h5
            exact h5
          have HNE := Lib.hid hne
          clear hne
          go_wp2_with (at_builtin; refine wpList_append_at rfl (.tmp 40) (.tmp 44) 97 rfl base 110 (.agg #[.int .i64 0, .int .i64 0]) 2 16 Try.underlying97 infoThing rfl (by decide) (.slice a n kk) n (th L) rfl (owns_fr0 HO5.out ((Fr.refl _ _).alloc _)) ⟨w5.heap.size, 0, none⟩ 1 1 [.int .i64 num, .int .i64 x] rfl rfl (lit2 _ _ _ _) (by intro u hu; simp at hu; rcases hu with rfl | rfl <;> rfl) (by unfold maxLen; omega) (by omega) (by have := HF5.out.size; simp; omega) ?_; intro v' w9 ho9 hf9 hat9; obtain ⟨a9, k9, rfl, _⟩ := ho9.slice2; have HO9 := Lib.hid ho9; have HF9 := Lib.hid hf9; have HAT := Lib.hid hat9
                       have HR9 : Hid (Row w9 g [.int .i64 r, .int .i64 c, .slice a L.length kk] 99) := Lib.hid ((HR5.out.alloc _).fr hf9 (fun hm => HNE.out g (mem_own hm) rfl)); have r9 := HR9.out.cell' (j := 2) rfl; have r9f := HR9.out.free 2; clear ho9 hf9 hat9 g2 g2f)
          go_ret
          have hll : (L ++ [(num, x)]).length = n + 1 := by rw [List.length_append, ← HN.out]; rfl
          have hob : (Value.slice a L.length kk).ownBlock = (Value.slice a n kk).ownBlock := by cases a <;> rfl
          have hset : Fr [g] w9 (w9.setCell ⟨g, 2, none⟩ (.slice a9 (n + 1) k9)) := (Fr.refl [g] w9).setCell _ (fun _ => by simp)
          refine ⟨by rw [HK.out]; rfl, ⟨.slice a9 (n + 1) k9, L ++ [(num, x)], ⟨HR9.out.set 2 _, ?_, ?_, ?_, H.out.2.2.2.2⟩, by rw [putF_yes HK.out]; exact lk_add HFN.out, ?_⟩, ?_⟩
          · rw [hll, th_append]
            exact owns_fr HO9.out hset (fun b hb hm => by simp at hm; subst hm; exact (HR9.out.neOwn HO9.out (by decide)) _ hb rfl)
          · rw [List.map_append]
            refine List.nodup_append.2 ⟨H.out.2.2.1, by simp, fun y hy z hz => ?_⟩
            simp at hz
            subst hz
            rintro rfl
            obtain ⟨q, hq, he⟩ := List.mem_map.1 hy
            exact HFN.out q hq he
          · intro y hy
            rcases List.mem_append.1 hy with hy | hy
            · exact H.out.2.2.2.1 y hy
            · simp at hy
              subst hy
              exact ⟨hlo, hhi⟩
          · rcases HAT.out with h5 | h5
            · exact .inl (by rw [h5, hob])
            · exact .inr ⟨_, h5, by have := HF5.out.size; simp; omega⟩
          · rw [hob]
            exact (((HF5.out.nil _).alloc _).trans HF9.out (fun b hb _ => by simp [hb])).setCell _ (fun _ => by simp)
      · have hcode : putCode r c (lk L) num = 92 := by unfold putCode; rw [if_neg HR.out, if_pos (.inl (by rw [hlk]; rfl))]
        have HK := Lib.hid hcode
        have HE : Hid (Rf w base g (.slice a L.length kk) r c L ∧ lk L = putF r c (lk L) num x) := Lib.hid ⟨H.out, (putF_no HK.out (by decide)).symm⟩
        clear hcode hlk hx hf
        go_wp2_with fail
        go_ret
        exact ⟨by rw [HK.out]; rfl, ⟨_, L, HE.out.1.fr0 ((Fr.refl [] w).drewN m), HE.out.2, .inl rfl⟩, (Fr.refl _ _).drewN m⟩
end Go.Proofs.Ytjhemoekmlhlpaa
