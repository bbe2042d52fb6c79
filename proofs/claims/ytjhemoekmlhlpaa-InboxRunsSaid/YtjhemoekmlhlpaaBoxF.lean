/- Contracts: Box.held. -/
import Derived.Test.YtjhemoekmlhlpaaBoxE
namespace Go.Proofs.Ytjhemoekmlhlpaa
open Go Go.RowKit
set_option linter.unusedVariables false

theorem owns_frK {w w' : World} {base n size : Nat} {e : TypeId} {v : Value} {xs : List Value} {bs : Nat} {ks T : List Nat} (h : w.ownsRow base e size v n xs) (f : FrK bs ks T w w') (hk : e + 1 ∉ ks) (hT : ∀ y, v.ownBlock = some y → y ∉ T) : w'.ownsRow base e size v n xs := by
  obtain ⟨S, f, hS⟩ := f
  refine owns_fr h f fun y hy hm => ?_
  rcases hS y hm (h.lt y hy).2 with h1 | h1
  · exact hT y hy h1
  · rw [own_kd h y hy] at h1; exact hk h1.1
theorem Row.frK {w w' : World} {g : Nat} {c : List Value} {T : TypeId} {bs : Nat} {ks TT : List Nat} (h : Row w g c T) (f : FrK bs ks TT w w') (hk : T + 1 ∉ ks) (hT : g ∉ TT) : Row w' g c T := by
  obtain ⟨S, f, hS⟩ := f
  refine h.fr f fun hm => ?_
  rcases hS g hm h.lt with h1 | h1
  · exact hT h1
  · rw [h.kd] at h1; exact hk h1.1
theorem MapF.frK {w w' : World} {b : Nat} {f : Int → Option Int} {bs : Nat} {ks T : List Nat} (h : MapF w b f) (k : FrK bs ks T w w') (hk : 0 ∉ ks) (hT : b ∉ T) : MapF w' b f := by
  obtain ⟨S, f, hS⟩ := k
  refine h.fr f fun hm => ?_
  obtain ⟨es, cl, he⟩ := h.block
  rcases hS b hm (Array.getElem?_eq_some_iff.1 he).1 with h1 | h1
  · exact hT h1
  · rw [h.kd] at h1; exact hk h1.1
theorem MapO.frK {w w' : World} {b : Nat} {f : Int → Option Int} {bs : Nat} {ks T : List Nat} (h : MapO w b f) (k : FrK bs ks T w w') (hk : 0 ∉ ks) (hT : b ∉ T) : MapO w' b f := by
  obtain ⟨S, f, hS⟩ := k
  refine h.fr f fun hm => ?_
  obtain ⟨es, cl, he⟩ := h.block
  rcases hS b hm (Array.getElem?_eq_some_iff.1 he).1 with h1 | h1
  · exact hT h1
  · rw [h.kd] at h1; exact hk h1.1
theorem SideA.frK {w w' : World} {bs base g b gp r c : Nat} {vp : Value} {L : List (Int × Int)} (h : SideA w base g b gp vp r c L) (k : FrK bs [74 + 1, 23 + 1] [] w w') : SideA w' base g b gp vp r c L :=
  ⟨⟨h.1.1.frK k (by decide) (by simp), h.1.2.1.frK k (by decide) (by simp), h.1.2.2⟩, ⟨h.2.1.1.frK k (by decide) (by simp), owns_frK h.2.1.2.1 k (by decide) (by simp), h.2.1.2.2⟩, h.2.2⟩
theorem SideB.frK {w w' : World} {bs base g b gp r c : Nat} {vp : Value} {L : List (Int × Int)} (h : SideB w base g b gp vp r c L) (k : FrK bs [74 + 1, 23 + 1] [] w w') : SideB w' base g b gp vp r c L :=
  ⟨⟨h.1.1.frK k (by decide) (by simp), h.1.2.1.frK k (by decide) (by simp), h.1.2.2⟩, ⟨h.2.1.1.frK k (by decide) (by simp), owns_frK h.2.1.2.1 k (by decide) (by simp), h.2.1.2.2⟩, h.2.2⟩
theorem SideA.fr0 {w w' : World} {base g b gp r c : Nat} {vp : Value} {L : List (Int × Int)} (h : SideA w base g b gp vp r c L) (k : Fr [] w w') : SideA w' base g b gp vp r c L := h.frK (bs := 0) (FrK.nil k)
theorem SideB.fr0 {w w' : World} {base g b gp r c : Nat} {vp : Value} {L : List (Int × Int)} (h : SideB w base g b gp vp r c L) (k : Fr [] w w') : SideB w' base g b gp vp r c L := h.frK (bs := 0) (FrK.nil k)
theorem owns_intsN {w : World} {base n c : Nat} {a : Option Addr} {L : List Int} (h : w.ownsRow base 3 1 (.slice a n c) L.length (is L)) (hn : n = n) : IntsAt w a L := by
  by_cases hl : 0 < L.length
  · obtain ⟨b, rfl, _, hc⟩ := owns_cells h hl
    exact .inr ⟨b, 0, rfl, fun i hi => by rw [Nat.zero_add]; exact hc i hi⟩
  · exact .inl (List.eq_nil_of_length_eq_zero (by omega))
/-- all numbers that a side holds, rising -/
def HeldL (L : List (Int × Int)) (A : List Int) : Prop := A.Pairwise (· < ·) ∧ ∀ k, k ∈ A ↔ (lk L k).isSome = true
theorem HeldL.eq {L : List (Int × Int)} {A B : List Int} (h : HeldL L A) (k : HeldL L B) : A = B := rising_eq h.1 k.1 (fun j => (h.2 j).trans (k.2 j).symm)
theorem HeldL.length {L : List (Int × Int)} {A : List Int} {c r : Nat} (h : HeldL L A) (k : InR L c r) (hr : r ≤ 4096) : A.length ≤ 4096 :=
  Nat.le_trans (rising_bound' (c := c) (r := r) h.1 (fun x hx => k x ((h.2 x).1 hx))) hr
set_option maxRecDepth 100000 in
set_option maxHeartbeats 8000000 in
theorem held0_any (base X gA bA gB bB gp gq : Nat) (vp vq vL vW : Value) (r cA s cB : Nat) (Lp Lq : List (Int × Int)) (xs ys : List Value) (ls : List (List Int)) (w : World) (h : BoxL w base X (ptr gA) (ptr gB) (ptr gp) (ptr gq) vL vW xs ys ls) (hA : SideA w base gA bA gp vp r cA Lp) (hB : SideB w base gB bB gq vq s cB Lq) (hb : base ≤ w.heap.size) (hX : base ≤ X) (hls : ls.length ≤ 44) :
    Calls Try.prog 30 #[.pointer (some ⟨X, 0, none⟩), .int .i64 0] w fun e w' => e = .returned (.bool true) ∧ (∃ vL' vW' xs' ys' ls', BoxL w' base X (ptr gA) (ptr gB) (ptr gp) (ptr gq) vL' vW' xs' ys' ls' ∧ ls'.length ≤ 44 ∧ ∀ x, x ∈ xs' ∨ x ∈ ys' → (x ∈ xs ∨ x ∈ ys) ∨ ∀ y, x.ownBlock = some y → w.heap.size ≤ y) ∧ FrK base [74 + 1, 23 + 1] [] w w' := by
  have H := Lib.hid h; have HA := Lib.hid hA; have HB := Lib.hid hB; have HBS := Lib.hid hb; have HXB := Lib.hid hX
  have c0 := h.1.cell' (j := 0) rfl
  have c1 := h.1.cell' (j := 1) rfl
  have c2 := h.1.cell' (j := 2) rfl
  have c3 := h.1.cell' (j := 3) rfl
  clear h hA hB hb hX
  go_enter Try.func30, Try.ntmps30
  go_wp2_with fail
  refine (held_any gA bA r cA _ w HA.out.1).mono ?_
  rintro e w1 ⟨aX, cX, LX, rfl, hoX, hpX, hmX, hfX⟩
  have d0 := hfX.cell c0 (by simp)
  have HFX := Lib.hid hfX; have HOX := Lib.hid hoX; have HPX := Lib.hid hpX; have HMX := Lib.hid hmX
  clear hfX hoX hpX hmX
  go_wp2_with fail
  refine (held_any gA bA r cA _ w1 (HA.out.fr0 HFX.out).1).mono ?_
  rintro e w2 ⟨aY, cY, LY, rfl, hoY, hpY, hmY, hfY⟩
  have HFY := Lib.hid (HFX.out.trans0 hfY); have HOY := Lib.hid hoY; have HPY := Lib.hid hpY; have HMY := Lib.hid hmY; have HFXY := Lib.hid hfY
  clear hfY hoY hpY hmY d0
  have HF1 := HFX; have HO1 := HOX; have HF12 := HFXY; have HF2 := HFY; have HO2 := HOY
  have HH1 : Hid (HeldL Lp LX) := Lib.hid ⟨HPX.out, HMX.out⟩
  have HH2 : Hid (HeldL Lp LY) := Lib.hid ⟨HPY.out, HMY.out⟩
  have d3 := HF2.out.cell c2 (by simp)
  go_wp2_with fail
  refine (rfHeld_any base gp vp r cA Lp w2 (HA.out.fr0 HF2.out).2.1).mono ?_
  rintro e w5 ⟨a3, k3, L3, rfl, ho3, hp3, hm3, hf3⟩
  have HH3 : Hid (HeldL Lp L3) := Lib.hid ⟨hp3, fun k => (hm3 k).trans ⟨fun h => h.1, fun h => ⟨h, HA.out.2.2 k h⟩⟩⟩
  have HF3 := Lib.hid (HF2.out.trans0 hf3); have HF23 := Lib.hid hf3
  have HO3 := Lib.hid ho3
  have hl3 := HH3.out.length HA.out.2.2 HA.out.1.2.2.2.1
  obtain rfl : LX = L3 := HH1.out.eq HH3.out
  obtain rfl : LY = LX := HH2.out.eq HH3.out
  obtain ⟨n, hn⟩ : ∃ n, n = LY.length := ⟨_, rfl⟩
  obtain ⟨A, hA⟩ : ∃ A, A = LY := ⟨_, rfl⟩
  have h1 := owns_fr0 (owns_fr0 HO1.out HF12.out) HF23.out
  have h2 := owns_fr0 HO2.out HF23.out
  have h3 := HO3.out
  rw [← hA] at h1 h2 h3 hn
  rw [← hA, ← hn]
  rw [← hA, ← hn] at hl3
  rw [← hn] at h1 h2 h3
  have O1 := Lib.hid h1; have O2 := Lib.hid h2; have O3 := Lib.hid h3; have HN := Lib.hid hn
  have g1 := HO1.out
  have g2 := HO2.out
  rw [← hA, ← hn] at g1 g2
  have BB1 : Hid (∀ y, (Value.slice aX n cX).ownBlock = some y → y < w1.heap.size) := Lib.hid (fun y hy => (g1.lt y hy).2)
  have BB2 : Hid (∀ y, (Value.slice aY n cY).ownBlock = some y → y < w2.heap.size) := Lib.hid (fun y hy => (g2.lt y hy).2)
  have HBX := Lib.hid (H.out.fr0 HF3.out)
  clear g1 g2 hf3 ho3 hp3 hm3 h1 h2 h3 hn hA HO1 HO2 HO3 HH1 HH2 HH3 c0 c1 c2 c3 d3
  go_wp2_with fail
  refine (eq_at aX a3 A A n n cX k3 w5 HN.out HN.out (owns_intsN (by rw [← HN.out]; exact O1.out) rfl) (owns_intsN (by rw [← HN.out]; exact O3.out) rfl) (by unfold maxLen; omega) (by unfold maxLen; omega) true (by simp)).mono ?_
  rintro e w6 ⟨rfl, n6, hw6⟩
  have hf6 : Fr [] w5 w6 := by rw [hw6]; exact (Fr.refl _ _).drewN _
  have O1' := Lib.hid (owns_fr0 O1.out hf6); have O2' := Lib.hid (owns_fr0 O2.out hf6); have O3' := Lib.hid (owns_fr0 O3.out hf6)
  have HF6 := Lib.hid hf6
  clear hw6 hf6
  go_wp2_with fail
  refine (eq_at aY a3 A A n n cY k3 w6 HN.out HN.out (owns_intsN (by rw [← HN.out]; exact O2'.out) rfl) (owns_intsN (by rw [← HN.out]; exact O3'.out) rfl) (by unfold maxLen; omega) (by unfold maxLen; omega) true (by simp)).mono ?_
  rintro e w7 ⟨rfl, n7, hw7⟩
  have hf7 : Fr [] w6 w7 := by rw [hw7]; exact (Fr.refl _ _).drewN _
  have hf57 := HF6.out.trans0 hf7
  have P1 := Lib.hid (owns_fr0 O1.out hf57); have P2 := Lib.hid (owns_fr0 O2.out hf57); have P3 := Lib.hid (owns_fr0 O3.out hf57)
  have HF7 := Lib.hid (HF3.out.trans0 hf57); have HB7 := Lib.hid (HBX.out.fr0 hf57)
  obtain ⟨aL, cL, rfl⟩ := H.out.2.1.slice
  obtain ⟨k, hk⟩ : ∃ k, k = ls.length := ⟨_, rfl⟩
  have c4 := HB7.out.1.cell' (j := 4) rfl
  rw [← hk] at c4 hls
  have HK := Lib.hid hk
  have SZ : Hid (w.heap.size ≤ w.heap.size ∧ w.heap.size ≤ w1.heap.size ∧ w1.heap.size ≤ w2.heap.size ∧ w2.heap.size ≤ w5.heap.size ∧ w5.heap.size ≤ w7.heap.size) := Lib.hid ⟨(Nat.le_refl w.heap.size), by have := O1.out; have h5 := HF1.out.size; have := HF12.out.size; first | exact HF1.out.size | exact HF1X.out.size | omega, HF12.out.size, HF23.out.size, hf57.size⟩
  clear hw7 hf7 hf57 O1' O2' O3' HF6 HBX hk
  by_cases hbig : 40 < k
  · have q1 : decide ((40 : Int) < (k : Int)) = true := decide_eq_true (by omega)
    go_wp2_with fail
    go_ret
    exact ⟨rfl, ⟨_, _, _, _, _, HB7.out, by rw [← HK.out]; exact hls, fun x hx => .inl hx⟩, FrK.nil HF7.out⟩
  · have q1 : decide ((40 : Int) < (k : Int)) = false := decide_eq_false (by omega)
    go_wp2_with fail
    have hk44 : k ≤ 40 := by omega
    have hd1 : ∀ x, x ∈ xs ∨ x ∈ ys → ∀ y, x.ownBlock = some y → (Value.slice aX n cX).ownBlock ≠ some y := fun x hx y hy he => by
      have e1 := ownsRow_base P1.out y he
      have e2 := SZ.out
      rcases hx with hx | hx
      · have := H.out.2.1.lt x hx y hy; omega
      · have := H.out.2.2.1.lt x hx y hy; omega
    refine (scrawl_any base X _ _ _ _ _ vW (.slice aX n cX) xs ys ls A w.heap.size w7 HB7.out (by rw [← HN.out]; exact P1.out) (by have := SZ.out; omega) hd1 (by have := HBS.out; have := HF7.out.size; omega) HXB.out (by rw [← HK.out]; omega) (by rw [← HN.out]; exact hl3)).mono ?_
    rintro e w8 ⟨rfl, ⟨vL8, vW8, xs8, ys8, ls8, hb8, hn8, hnew8⟩, hf8⟩
    have lt2 : ∀ y, (Value.slice aY n cY).ownBlock = some y → w1.heap.size ≤ y ∧ y < w7.heap.size ∧ (Value.slice aX n cX).ownBlock ≠ some y := fun y hy => by
      refine ⟨ownsRow_base P2.out y hy, (P2.out.lt y hy).2, fun he => ?_⟩
      exact absurd (ownsRow_base P2.out y hy) (by have := BB1.out y he; omega)
    have lt3 : ∀ y, (Value.slice a3 n k3).ownBlock = some y → y < w7.heap.size ∧ (Value.slice aX n cX).ownBlock ≠ some y ∧ (Value.slice aY n cY).ownBlock ≠ some y := fun y hy => by
      have e1 := ownsRow_base P3.out y hy
      have e2 := SZ.out
      exact ⟨(P3.out.lt y hy).2, fun he => by have := BB1.out y he; omega, fun he => by have := BB2.out y he; omega⟩
    have q2 := owns_frK P2.out hf8 (by decide) (fun y hy hm => (lt2 y hy).2.2 (by simpa using hm))
    have q3 := owns_frK P3.out hf8 (by decide) (fun y hy hm => (lt3 y hy).2.1 (by simpa using hm))
    have hd2 : ∀ x, x ∈ xs8 ∨ x ∈ ys8 → ∀ y, x.ownBlock = some y → (Value.slice aY n cY).ownBlock ≠ some y := fun x hx y hy he => by
      have e1 := lt2 y he
      have e2 := SZ.out
      rcases hnew8 x hx with h | h
      · rcases h with h | h
        · have := H.out.2.1.lt x h y hy; omega
        · have := H.out.2.2.1.lt x h y hy; omega
      · rcases h y hy with h | h
        · omega
        · exact e1.2.2 h
    have HQ2 := Lib.hid q2; have HQ3 := Lib.hid q3; have HD2 := Lib.hid hd2; have HB8 := Lib.hid hb8; have HF8 := Lib.hid hf8; have HN8 := Lib.hid hn8
    have HNEW8 := Lib.hid hnew8
    clear q2 q3 hd2 hb8 hf8 hnew8 hn8 lt2 lt3 hd1
    go_wp2_with fail
    refine (eq_at aY a3 A A n n cY k3 w8 HN.out HN.out (owns_intsN (by rw [← HN.out]; exact HQ2.out) rfl) (owns_intsN (by rw [← HN.out]; exact HQ3.out) rfl) (by unfold maxLen; omega) (by unfold maxLen; omega) true (by simp)).mono ?_
    rintro e w9 ⟨rfl, n9, hw9⟩
    have hf9 : Fr [] w8 w9 := by rw [hw9]; exact (Fr.refl _ _).drewN _
    have HF9 := Lib.hid hf9
    clear hw9 hf9
    go_wp2_with fail
    refine (scrawl_any base X _ _ _ _ vL8 vW8 (.slice aY n cY) xs8 ys8 ls8 A w1.heap.size w9 (HB8.out.fr0 HF9.out) (by rw [← HN.out]; exact owns_fr0 HQ2.out HF9.out) (by have := SZ.out; have := HF8.out; have := HF9.out.size; obtain ⟨S, f, _⟩ := HF8.out; have := f.size; omega) HD2.out (by have := HBS.out; have := HF7.out.size; obtain ⟨S, f, _⟩ := HF8.out; have := f.size; have := HF9.out.size; omega) HXB.out (by rw [HN8.out, ← HK.out]; omega) (by rw [← HN.out]; exact hl3)).mono ?_
    rintro e wa ⟨rfl, ⟨vLa, vWa, xsa, ysa, lsa, hba, hna, hnewa⟩, hfa⟩
    have T12 : ∀ y ∈ (Value.slice aX n cX).ownBlock.toList ++ (Value.slice aY n cY).ownBlock.toList, y < w.heap.size → y ∈ ([] : List Nat) := fun y hy hl => by
      have e2 := SZ.out
      rcases List.mem_append.1 hy with hy | hy
      · have := ownsRow_base P1.out y (by simpa using hy); omega
      · have := ownsRow_base P2.out y (by simpa using hy); omega
    have hF : FrK base [74 + 1, 23 + 1] [] w wa :=
      (((FrK.nil (T := (Value.slice aX n cX).ownBlock.toList ++ (Value.slice aY n cY).ownBlock.toList) HF7.out).trans (HF8.out.mono (fun k hk => hk) (fun y hy _ => List.mem_append_left _ hy))).trans ((FrK.nil HF9.out).trans (hfa.mono (fun k hk => hk) (fun y hy _ => List.mem_append_right _ hy)))).mono (fun k hk => hk) T12
    have hnew : ∀ x, x ∈ xsa ∨ x ∈ ysa → (x ∈ xs ∨ x ∈ ys) ∨ ∀ y, x.ownBlock = some y → w.heap.size ≤ y := fun x hx => by
      have e2 := SZ.out
      have e3 : w7.heap.size ≤ w8.heap.size := by obtain ⟨S, f, _⟩ := HF8.out; exact f.size
      have e4 := HF9.out.size
      rcases hnewa x hx with h | h
      · rcases HNEW8.out x h with h | h
        · exact .inl h
        · refine .inr fun y hy => ?_
          rcases h y hy with h | h
          · omega
          · have := ownsRow_base P1.out y h; omega
      · refine .inr fun y hy => ?_
        rcases h y hy with h | h
        · omega
        · have := ownsRow_base P2.out y h; omega
    have HNEW := Lib.hid hnew
    have HBA := Lib.hid hba; have HNA : Hid (lsa.length ≤ 44) := Lib.hid (by rw [hna, HN8.out, ← HK.out]; omega); have HFA := Lib.hid hF
    clear hba hna hfa hnewa hF T12 hnew
    go_wp2_with fail
    go_ret
    exact ⟨rfl, ⟨_, _, _, _, _, HBA.out, HNA.out, HNEW.out⟩, HFA.out⟩
set_option maxRecDepth 100000 in
set_option maxHeartbeats 8000000 in
theorem held1_any (base X gA bA gB bB gp gq : Nat) (vp vq vL vW : Value) (r cA s cB : Nat) (Lp Lq : List (Int × Int)) (xs ys : List Value) (ls : List (List Int)) (w : World) (h : BoxL w base X (ptr gA) (ptr gB) (ptr gp) (ptr gq) vL vW xs ys ls) (hA : SideA w base gA bA gp vp r cA Lp) (hB : SideB w base gB bB gq vq s cB Lq) (hb : base ≤ w.heap.size) (hX : base ≤ X) (hls : ls.length ≤ 44) :
    Calls Try.prog 30 #[.pointer (some ⟨X, 0, none⟩), .int .i64 1] w fun e w' => e = .returned (.bool true) ∧ (∃ vL' vW' xs' ys' ls', BoxL w' base X (ptr gA) (ptr gB) (ptr gp) (ptr gq) vL' vW' xs' ys' ls' ∧ ls'.length ≤ 44 ∧ ∀ x, x ∈ xs' ∨ x ∈ ys' → (x ∈ xs ∨ x ∈ ys) ∨ ∀ y, x.ownBlock = some y → w.heap.size ≤ y) ∧ FrK base [74 + 1, 23 + 1] [] w w' := by
  have H := Lib.hid h; have HA := Lib.hid hA; have HB := Lib.hid hB; have HBS := Lib.hid hb; have HXB := Lib.hid hX
  have c0 := h.1.cell' (j := 0) rfl
  have c1 := h.1.cell' (j := 1) rfl
  have c2 := h.1.cell' (j := 2) rfl
  have c3 := h.1.cell' (j := 3) rfl
  clear h hA hB hb hX
  go_enter Try.func30, Try.ntmps30
  go_wp2_with fail
  refine (held_any gA bA r cA _ w HA.out.1).mono ?_
  rintro e w1 ⟨aX, cX, LX, rfl, hoX, hpX, hmX, hfX⟩
  have d0 := hfX.cell c0 (by simp)
  have HFX := Lib.hid hfX; have HOX := Lib.hid hoX; have HPX := Lib.hid hpX; have HMX := Lib.hid hmX
  clear hfX hoX hpX hmX
  go_wp2_with fail
  refine (held_any gA bA r cA _ w1 (HA.out.fr0 HFX.out).1).mono ?_
  rintro e w2 ⟨aY, cY, LY, rfl, hoY, hpY, hmY, hfY⟩
  have HFY := Lib.hid (HFX.out.trans0 hfY); have HOY := Lib.hid hoY; have HPY := Lib.hid hpY; have HMY := Lib.hid hmY; have HFXY := Lib.hid hfY
  clear hfY hoY hpY hmY d0
  have d1 := HFY.out.cell c1 (by simp)
  go_wp2_with fail
  refine (held_anyO gB bB s cB _ w2 (HB.out.fr0 HFY.out).1).mono ?_
  rintro e w3 ⟨a1, k1, L1, rfl, ho1, hp1, hm1, hf1⟩
  have HF1 := Lib.hid (HFY.out.trans0 hf1); have HF1X := Lib.hid hf1; have HO1 := Lib.hid ho1; have HH1 : Hid (HeldL Lq L1) := Lib.hid ⟨hp1, hm1⟩
  have d1 := HF1.out.cell c1 (by simp)
  clear hf1 ho1 hp1 hm1
  go_wp2_with fail
  refine (held_anyO gB bB s cB _ w3 (HB.out.fr0 HF1.out).1).mono ?_
  rintro e w4 ⟨a2, k2, L2, rfl, ho2, hp2, hm2, hf2⟩
  have HF12 := Lib.hid hf2
  have HF2 := Lib.hid (HF1.out.trans0 hf2); have HO2 := Lib.hid ho2; have HH2 : Hid (HeldL Lq L2) := Lib.hid ⟨hp2, hm2⟩
  have d3 := HF2.out.cell c3 (by simp)
  clear hf2 ho2 hp2 hm2 d1
  go_wp2_with fail
  refine (rfHeld_any base gq vq s cB Lq w4 (HB.out.fr0 HF2.out).2.1).mono ?_
  rintro e w5 ⟨a3, k3, L3, rfl, ho3, hp3, hm3, hf3⟩
  have HH3 : Hid (HeldL Lq L3) := Lib.hid ⟨hp3, fun k => (hm3 k).trans ⟨fun h => h.1, fun h => ⟨h, HB.out.2.2 k h⟩⟩⟩
  have HF3 := Lib.hid (HF2.out.trans0 hf3); have HF23 := Lib.hid hf3
  have HO3 := Lib.hid ho3
  have hl3 := HH3.out.length HB.out.2.2 HB.out.1.2.2.2.1
  obtain rfl : L1 = L3 := HH1.out.eq HH3.out
  obtain rfl : L2 = L1 := HH2.out.eq HH3.out
  obtain ⟨n, hn⟩ : ∃ n, n = L2.length := ⟨_, rfl⟩
  obtain ⟨A, hA⟩ : ∃ A, A = L2 := ⟨_, rfl⟩
  have h1 := owns_fr0 (owns_fr0 HO1.out HF12.out) HF23.out
  have h2 := owns_fr0 HO2.out HF23.out
  have h3 := HO3.out
  rw [← hA] at h1 h2 h3 hn
  rw [← hA, ← hn]
  rw [← hA, ← hn] at hl3
  rw [← hn] at h1 h2 h3
  have O1 := Lib.hid h1; have O2 := Lib.hid h2; have O3 := Lib.hid h3; have HN := Lib.hid hn
  have g1 := HO1.out
  have g2 := HO2.out
  rw [← hA, ← hn] at g1 g2
  have BB1 : Hid (∀ y, (Value.slice a1 n k1).ownBlock = some y → y < w3.heap.size) := Lib.hid (fun y hy => (g1.lt y hy).2)
  have BB2 : Hid (∀ y, (Value.slice a2 n k2).ownBlock = some y → y < w4.heap.size) := Lib.hid (fun y hy => (g2.lt y hy).2)
  have HBX := Lib.hid (H.out.fr0 HF3.out)
  clear g1 g2 hf3 ho3 hp3 hm3 h1 h2 h3 hn hA HO1 HO2 HO3 HH1 HH2 HH3 c0 c1 c2 c3 d3
  go_wp2_with fail
  refine (eq_at a1 a3 A A n n k1 k3 w5 HN.out HN.out (owns_intsN (by rw [← HN.out]; exact O1.out) rfl) (owns_intsN (by rw [← HN.out]; exact O3.out) rfl) (by unfold maxLen; omega) (by unfold maxLen; omega) true (by simp)).mono ?_
  rintro e w6 ⟨rfl, n6, hw6⟩
  have hf6 : Fr [] w5 w6 := by rw [hw6]; exact (Fr.refl _ _).drewN _
  have O1' := Lib.hid (owns_fr0 O1.out hf6); have O2' := Lib.hid (owns_fr0 O2.out hf6); have O3' := Lib.hid (owns_fr0 O3.out hf6)
  have HF6 := Lib.hid hf6
  clear hw6 hf6
  go_wp2_with fail
  refine (eq_at a2 a3 A A n n k2 k3 w6 HN.out HN.out (owns_intsN (by rw [← HN.out]; exact O2'.out) rfl) (owns_intsN (by rw [← HN.out]; exact O3'.out) rfl) (by unfold maxLen; omega) (by unfold maxLen; omega) true (by simp)).mono ?_
  rintro e w7 ⟨rfl, n7, hw7⟩
  have hf7 : Fr [] w6 w7 := by rw [hw7]; exact (Fr.refl _ _).drewN _
  have hf57 := HF6.out.trans0 hf7
  have P1 := Lib.hid (owns_fr0 O1.out hf57); have P2 := Lib.hid (owns_fr0 O2.out hf57); have P3 := Lib.hid (owns_fr0 O3.out hf57)
  have HF7 := Lib.hid (HF3.out.trans0 hf57); have HB7 := Lib.hid (HBX.out.fr0 hf57)
  obtain ⟨aL, cL, rfl⟩ := H.out.2.1.slice
  obtain ⟨k, hk⟩ : ∃ k, k = ls.length := ⟨_, rfl⟩
  have c4 := HB7.out.1.cell' (j := 4) rfl
  rw [← hk] at c4 hls
  have HK := Lib.hid hk
  have SZ : Hid (w.heap.size ≤ w2.heap.size ∧ w2.heap.size ≤ w3.heap.size ∧ w3.heap.size ≤ w4.heap.size ∧ w4.heap.size ≤ w5.heap.size ∧ w5.heap.size ≤ w7.heap.size) := Lib.hid ⟨HFY.out.size, by have := O1.out; have h5 := HF1.out.size; have := HF12.out.size; first | exact HF1.out.size | exact HF1X.out.size | omega, HF12.out.size, HF23.out.size, hf57.size⟩
  clear hw7 hf7 hf57 O1' O2' O3' HF6 HBX hk
  by_cases hbig : 40 < k
  · have q1 : decide ((40 : Int) < (k : Int)) = true := decide_eq_true (by omega)
    go_wp2_with fail
    go_ret
    exact ⟨rfl, ⟨_, _, _, _, _, HB7.out, by rw [← HK.out]; exact hls, fun x hx => .inl hx⟩, FrK.nil HF7.out⟩
  · have q1 : decide ((40 : Int) < (k : Int)) = false := decide_eq_false (by omega)
    go_wp2_with fail
    have hk44 : k ≤ 40 := by omega
    have hd1 : ∀ x, x ∈ xs ∨ x ∈ ys → ∀ y, x.ownBlock = some y → (Value.slice a1 n k1).ownBlock ≠ some y := fun x hx y hy he => by
      have e1 := ownsRow_base P1.out y he
      have e2 := SZ.out
      rcases hx with hx | hx
      · have := H.out.2.1.lt x hx y hy; omega
      · have := H.out.2.2.1.lt x hx y hy; omega
    refine (scrawl_any base X _ _ _ _ _ vW (.slice a1 n k1) xs ys ls A w2.heap.size w7 HB7.out (by rw [← HN.out]; exact P1.out) (by have := SZ.out; omega) hd1 (by have := HBS.out; have := HF7.out.size; omega) HXB.out (by rw [← HK.out]; omega) (by rw [← HN.out]; exact hl3)).mono ?_
    rintro e w8 ⟨rfl, ⟨vL8, vW8, xs8, ys8, ls8, hb8, hn8, hnew8⟩, hf8⟩
    have lt2 : ∀ y, (Value.slice a2 n k2).ownBlock = some y → w3.heap.size ≤ y ∧ y < w7.heap.size ∧ (Value.slice a1 n k1).ownBlock ≠ some y := fun y hy => by
      refine ⟨ownsRow_base P2.out y hy, (P2.out.lt y hy).2, fun he => ?_⟩
      exact absurd (ownsRow_base P2.out y hy) (by have := BB1.out y he; omega)
    have lt3 : ∀ y, (Value.slice a3 n k3).ownBlock = some y → y < w7.heap.size ∧ (Value.slice a1 n k1).ownBlock ≠ some y ∧ (Value.slice a2 n k2).ownBlock ≠ some y := fun y hy => by
      have e1 := ownsRow_base P3.out y hy
      have e2 := SZ.out
      exact ⟨(P3.out.lt y hy).2, fun he => by have := BB1.out y he; omega, fun he => by have := BB2.out y he; omega⟩
    have q2 := owns_frK P2.out hf8 (by decide) (fun y hy hm => (lt2 y hy).2.2 (by simpa using hm))
    have q3 := owns_frK P3.out hf8 (by decide) (fun y hy hm => (lt3 y hy).2.1 (by simpa using hm))
    have hd2 : ∀ x, x ∈ xs8 ∨ x ∈ ys8 → ∀ y, x.ownBlock = some y → (Value.slice a2 n k2).ownBlock ≠ some y := fun x hx y hy he => by
      have e1 := lt2 y he
      have e2 := SZ.out
      rcases hnew8 x hx with h | h
      · rcases h with h | h
        · have := H.out.2.1.lt x h y hy; omega
        · have := H.out.2.2.1.lt x h y hy; omega
      · rcases h y hy with h | h
        · omega
        · exact e1.2.2 h
    have HQ2 := Lib.hid q2; have HQ3 := Lib.hid q3; have HD2 := Lib.hid hd2; have HB8 := Lib.hid hb8; have HF8 := Lib.hid hf8; have HN8 := Lib.hid hn8
    have HNEW8 := Lib.hid hnew8
    clear q2 q3 hd2 hb8 hf8 hnew8 hn8 lt2 lt3 hd1
    go_wp2_with fail
    refine (eq_at a2 a3 A A n n k2 k3 w8 HN.out HN.out (owns_intsN (by rw [← HN.out]; exact HQ2.out) rfl) (owns_intsN (by rw [← HN.out]; exact HQ3.out) rfl) (by unfold maxLen; omega) (by unfold maxLen; omega) true (by simp)).mono ?_
    rintro e w9 ⟨rfl, n9, hw9⟩
    have hf9 : Fr [] w8 w9 := by rw [hw9]; exact (Fr.refl _ _).drewN _
    have HF9 := Lib.hid hf9
    clear hw9 hf9
    go_wp2_with fail
    refine (scrawl_any base X _ _ _ _ vL8 vW8 (.slice a2 n k2) xs8 ys8 ls8 A w3.heap.size w9 (HB8.out.fr0 HF9.out) (by rw [← HN.out]; exact owns_fr0 HQ2.out HF9.out) (by have := SZ.out; have := HF8.out; have := HF9.out.size; obtain ⟨S, f, _⟩ := HF8.out; have := f.size; omega) HD2.out (by have := HBS.out; have := HF7.out.size; obtain ⟨S, f, _⟩ := HF8.out; have := f.size; have := HF9.out.size; omega) HXB.out (by rw [HN8.out, ← HK.out]; omega) (by rw [← HN.out]; exact hl3)).mono ?_
    rintro e wa ⟨rfl, ⟨vLa, vWa, xsa, ysa, lsa, hba, hna, hnewa⟩, hfa⟩
    have T12 : ∀ y ∈ (Value.slice a1 n k1).ownBlock.toList ++ (Value.slice a2 n k2).ownBlock.toList, y < w.heap.size → y ∈ ([] : List Nat) := fun y hy hl => by
      have e2 := SZ.out
      rcases List.mem_append.1 hy with hy | hy
      · have := ownsRow_base P1.out y (by simpa using hy); omega
      · have := ownsRow_base P2.out y (by simpa using hy); omega
    have hF : FrK base [74 + 1, 23 + 1] [] w wa :=
      (((FrK.nil (T := (Value.slice a1 n k1).ownBlock.toList ++ (Value.slice a2 n k2).ownBlock.toList) HF7.out).trans (HF8.out.mono (fun k hk => hk) (fun y hy _ => List.mem_append_left _ hy))).trans ((FrK.nil HF9.out).trans (hfa.mono (fun k hk => hk) (fun y hy _ => List.mem_append_right _ hy)))).mono (fun k hk => hk) T12
    have hnew : ∀ x, x ∈ xsa ∨ x ∈ ysa → (x ∈ xs ∨ x ∈ ys) ∨ ∀ y, x.ownBlock = some y → w.heap.size ≤ y := fun x hx => by
      have e2 := SZ.out
      have e3 : w7.heap.size ≤ w8.heap.size := by obtain ⟨S, f, _⟩ := HF8.out; exact f.size
      have e4 := HF9.out.size
      rcases hnewa x hx with h | h
      · rcases HNEW8.out x h with h | h
        · exact .inl h
        · refine .inr fun y hy => ?_
          rcases h y hy with h | h
          · omega
          · have := ownsRow_base P1.out y h; omega
      · refine .inr fun y hy => ?_
        rcases h y hy with h | h
        · omega
        · have := ownsRow_base P2.out y h; omega
    have HNEW := Lib.hid hnew
    have HBA := Lib.hid hba; have HNA : Hid (lsa.length ≤ 44) := Lib.hid (by rw [hna, HN8.out, ← HK.out]; omega); have HFA := Lib.hid hF
    clear hba hna hfa hnewa hF T12 hnew
    go_wp2_with fail
    go_ret
    exact ⟨rfl, ⟨_, _, _, _, _, HBA.out, HNA.out, HNEW.out⟩, HFA.out⟩
end Go.Proofs.Ytjhemoekmlhlpaa
