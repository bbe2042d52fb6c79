/- Contracts: Box.changes, for each kind of step and each slot. Printed by gen_changes.py. -/
import Derived.Test.YtjhemoekmlhlpaaBoxF
namespace Go.Proofs.Ytjhemoekmlhlpaa
open Go Go.RowKit
set_option linter.unusedVariables false

theorem i64_and1 (n : Int) : bits .and .i64 n 1 = n % 2 := by
  have h1 : (BitVec.ofInt 64 1).toNat = 2 ^ 1 - 1 := by decide
  have key : (BitVec.ofInt 64 n &&& BitVec.ofInt 64 1).toNat = (n % ((2 ^ 64 : Nat) : Int)).toNat % 2 ^ 1 := by
    rw [BitVec.toNat_and, BitVec.toNat_ofInt, h1, Nat.and_two_pow_sub_one_eq_mod]
  show IntKind.i64.wrap ((BitVec.ofInt 64 n &&& BitVec.ofInt 64 1).toNat : Nat) = n % 2
  rw [key, IntKind.wrap_i64]
  omega
theorem InR.put {L L' : List (Int × Int)} {c r : Nat} {num x : Int} (h : InR L c r) (e : lk L' = putF r c (lk L) num x) : InR L' c r := by
  intro j hj
  rw [e] at hj
  unfold putF at hj
  split at hj
  · rename_i h0
    unfold upd at hj
    split at hj
    · rename_i hjn
      subst hjn
      unfold putCode at h0
      split at h0
      · cases h0
      · split at h0
        · cases h0
        · split at h0
          · cases h0
          · rename_i h1 h2 h3
            constructor
            · rcases Int.lt_or_le (c : Int) j with h | h
              · exact h
              · exact absurd (.inr h) h2
            · omega
    · exact h j hj
  · exact h j hj
theorem InR.toss {L L' : List (Int × Int)} {c r : Nat} {k : Int} (h : InR L c r) (e : lk L' = upd (lk L) k none) : InR L' c r := by
  intro j hj
  rw [e] at hj
  unfold upd at hj
  split at hj
  · cases hj
  · exact h j hj
theorem InR.pop {L L' : List (Int × Int)} {c r : Nat} (h : InR L c r) (e : lk L' = upd (lk L) ((c + 1 : Nat) : Int) none) : InR L' (c + 1) r := by
  intro j hj
  rw [e] at hj
  unfold upd at hj
  split at hj
  · cases hj
  · rename_i hne
    have := h j hj
    constructor <;> omega
theorem InR.nil (r : Nat) : InR [] 0 r := fun j hj => by cases hj
theorem lk_nil : lk [] = fun _ => none := rfl

/-- the blocks that a side's calls may write -/
def SideS (g b gp : Nat) (vp : Value) : List Nat := g :: b :: gp :: vp.ownBlock.toList

theorem SideA.kds {w : World} {base g b gp r c : Nat} {vp : Value} {L : List (Int × Int)} (h : SideA w base g b gp vp r c L) : kd w g = 82 + 1 ∧ kd w b = 0 ∧ kd w gp = 99 + 1 ∧ ∀ y, vp.ownBlock = some y → kd w y = 110 + 1 :=
  ⟨h.1.1.kd, h.1.2.1.kd, h.2.1.1.kd, own_kd h.2.1.2.1⟩
theorem SideA.noKd {w : World} {base g b gp r c : Nat} {vp : Value} {L : List (Int × Int)} (h : SideA w base g b gp vp r c L) (k : Nat) (h1 : 82 + 1 ≠ k) (h2 : 0 ≠ k) (h3 : 99 + 1 ≠ k) (h4 : 110 + 1 ≠ k) : NoKd w (SideS g b gp vp) k :=
  NoKd.cons h.kds.1 h1 (NoKd.cons h.kds.2.1 h2 (NoKd.cons h.kds.2.2.1 h3 (fun y hy => by rw [h.kds.2.2.2 y (by simpa using hy)]; exact h4)))
/-- behind the document's call, then the program's -/
theorem SideA.after {w w1 w2 : World} {base g b gp r c c' : Nat} {vp vp' : Value} {L L' : List (Int × Int)} {f' : Int → Option Int} (h : SideA w base g b gp vp r c L) (hr : Rf w1 base gp vp' r c' L') (hi : Ibx w2 g b r c' f') (he : lk L' = f') (hf2 : Fr [g, b] w1 w2) (hR : InR L' c' r) (hf1 : Fr (gp :: vp.ownBlock.toList) w w1) :
    SideA w2 base g b gp vp' r c' L' ∧ Fr (SideS g b gp vp) w w2 := by
  have k1 : kd w1 g = 82 + 1 := by
    have hg : g ∉ gp :: vp.ownBlock.toList := by
      intro hm
      rcases List.mem_cons.1 hm with e | hm
      · exact kd_ne h.kds.1 h.kds.2.2.1 (by decide) e
      · exact kd_ne h.kds.1 (h.kds.2.2.2 g (by simpa using hm)) (by decide) rfl
    exact (h.1.1.fr hf1 hg).kd
  have k2 : kd w1 b = 0 := by
    have hb : b ∉ gp :: vp.ownBlock.toList := by
      intro hm
      rcases List.mem_cons.1 hm with e | hm
      · exact kd_ne h.kds.2.1 h.kds.2.2.1 (by decide) e
      · exact kd_ne h.kds.2.1 (h.kds.2.2.2 b (by simpa using hm)) (by decide) rfl
    exact (h.1.2.1.fr hf1 hb).kd
  have hn : ∀ y k, kd w1 y = k → k ≠ 82 + 1 → k ≠ 0 → y ∉ [g, b] := fun y k hy h1 h2 hm => by
    simp at hm
    rcases hm with rfl | rfl
    · exact h1 (hy.symm.trans k1)
    · exact h2 (hy.symm.trans k2)
  refine ⟨⟨by rw [he]; exact hi, ⟨hr.1.fr hf2 (hn _ _ hr.1.kd (by decide) (by decide)), owns_fr hr.2.1 hf2 (fun y hy => hn _ _ (own_kd hr.2.1 y hy) (by decide) (by decide)), hr.2.2⟩, hR⟩, ?_⟩
  exact (hf1.mono (T := SideS g b gp vp) (fun y hy _ => by unfold SideS; simp at hy ⊢; rcases hy with rfl | hy <;> simp [*])).trans hf2 (fun y hy _ => by unfold SideS; simp at hy ⊢; rcases hy with rfl | rfl <;> simp)
theorem SideA.ibx {w w1 : World} {base g b gp r c : Nat} {vp : Value} {L : List (Int × Int)} (h : SideA w base g b gp vp r c L) (hf1 : Fr (gp :: vp.ownBlock.toList) w w1) : Ibx w1 g b r c (lk L) := by
  refine h.1.fr hf1 ?_ ?_
  · intro hm
    rcases List.mem_cons.1 hm with e | hm
    · exact kd_ne h.kds.1 h.kds.2.2.1 (by decide) e
    · exact kd_ne h.kds.1 (h.kds.2.2.2 g (by simpa using hm)) (by decide) rfl
  · intro hm
    rcases List.mem_cons.1 hm with e | hm
    · exact kd_ne h.kds.2.1 h.kds.2.2.1 (by decide) e
    · exact kd_ne h.kds.2.1 (h.kds.2.2.2 b (by simpa using hm)) (by decide) rfl

theorem SideB.kds {w : World} {base g b gp r c : Nat} {vp : Value} {L : List (Int × Int)} (h : SideB w base g b gp vp r c L) : kd w g = 105 + 1 ∧ kd w b = 0 ∧ kd w gp = 99 + 1 ∧ ∀ y, vp.ownBlock = some y → kd w y = 110 + 1 :=
  ⟨h.1.1.kd, h.1.2.1.kd, h.2.1.1.kd, own_kd h.2.1.2.1⟩
theorem SideB.noKd {w : World} {base g b gp r c : Nat} {vp : Value} {L : List (Int × Int)} (h : SideB w base g b gp vp r c L) (k : Nat) (h1 : 105 + 1 ≠ k) (h2 : 0 ≠ k) (h3 : 99 + 1 ≠ k) (h4 : 110 + 1 ≠ k) : NoKd w (SideS g b gp vp) k :=
  NoKd.cons h.kds.1 h1 (NoKd.cons h.kds.2.1 h2 (NoKd.cons h.kds.2.2.1 h3 (fun y hy => by rw [h.kds.2.2.2 y (by simpa using hy)]; exact h4)))
/-- behind the document's call, then the program's -/
theorem SideB.after {w w1 w2 : World} {base g b gp r c c' : Nat} {vp vp' : Value} {L L' : List (Int × Int)} {f' : Int → Option Int} (h : SideB w base g b gp vp r c L) (hr : Rf w1 base gp vp' r c' L') (hi : Ibo w2 g b r c' f') (he : lk L' = f') (hf2 : Fr [g, b] w1 w2) (hR : InR L' c' r) (hf1 : Fr (gp :: vp.ownBlock.toList) w w1) :
    SideB w2 base g b gp vp' r c' L' ∧ Fr (SideS g b gp vp) w w2 := by
  have k1 : kd w1 g = 105 + 1 := by
    have hg : g ∉ gp :: vp.ownBlock.toList := by
      intro hm
      rcases List.mem_cons.1 hm with e | hm
      · exact kd_ne h.kds.1 h.kds.2.2.1 (by decide) e
      · exact kd_ne h.kds.1 (h.kds.2.2.2 g (by simpa using hm)) (by decide) rfl
    exact (h.1.1.fr hf1 hg).kd
  have k2 : kd w1 b = 0 := by
    have hb : b ∉ gp :: vp.ownBlock.toList := by
      intro hm
      rcases List.mem_cons.1 hm with e | hm
      · exact kd_ne h.kds.2.1 h.kds.2.2.1 (by decide) e
      · exact kd_ne h.kds.2.1 (h.kds.2.2.2 b (by simpa using hm)) (by decide) rfl
    exact (h.1.2.1.fr hf1 hb).kd
  have hn : ∀ y k, kd w1 y = k → k ≠ 105 + 1 → k ≠ 0 → y ∉ [g, b] := fun y k hy h1 h2 hm => by
    simp at hm
    rcases hm with rfl | rfl
    · exact h1 (hy.symm.trans k1)
    · exact h2 (hy.symm.trans k2)
  refine ⟨⟨by rw [he]; exact hi, ⟨hr.1.fr hf2 (hn _ _ hr.1.kd (by decide) (by decide)), owns_fr hr.2.1 hf2 (fun y hy => hn _ _ (own_kd hr.2.1 y hy) (by decide) (by decide)), hr.2.2⟩, hR⟩, ?_⟩
  exact (hf1.mono (T := SideS g b gp vp) (fun y hy _ => by unfold SideS; simp at hy ⊢; rcases hy with rfl | hy <;> simp [*])).trans hf2 (fun y hy _ => by unfold SideS; simp at hy ⊢; rcases hy with rfl | rfl <;> simp)
theorem SideB.ibx {w w1 : World} {base g b gp r c : Nat} {vp : Value} {L : List (Int × Int)} (h : SideB w base g b gp vp r c L) (hf1 : Fr (gp :: vp.ownBlock.toList) w w1) : Ibo w1 g b r c (lk L) := by
  refine h.1.fr hf1 ?_ ?_
  · intro hm
    rcases List.mem_cons.1 hm with e | hm
    · exact kd_ne h.kds.1 h.kds.2.2.1 (by decide) e
    · exact kd_ne h.kds.1 (h.kds.2.2.2 g (by simpa using hm)) (by decide) rfl
  · intro hm
    rcases List.mem_cons.1 hm with e | hm
    · exact kd_ne h.kds.2.1 h.kds.2.2.1 (by decide) e
    · exact kd_ne h.kds.2.1 (h.kds.2.2.2 b (by simpa using hm)) (by decide) rfl
set_option maxRecDepth 100000 in
set_option maxHeartbeats 8000000 in
theorem changesA_put (base X g b gp : Nat) (vp h1 h3 vL vW inV : Value) (r c : Nat) (L : List (Int × Int)) (slot num x : Int) (w : World) (h : Row w X [ptr g, h1, ptr gp, h3, vL, vW] 74) (hS : SideA w base g b gp vp r c L) (hb : base ≤ w.heap.size) (hsl : slot % 2 = 0) (hnum : (Lit.int .i64 num).wf = true) (hx : (Lit.int .i64 x).wf = true) :
    Calls Try.prog 42 #[.pointer (some ⟨X, 0, none⟩), .agg #[.int .i64 1, .int .i64 slot, .int .i64 num, .int .i64 x, inV]] w fun e w' => e = .returned (.bool true) ∧ ∃ vp' c' L', SideA w' base g b gp vp' r c' L' ∧ Fr (SideS g b gp vp) w w' ∧ (vp'.ownBlock = vp.ownBlock ∨ ∀ y, vp'.ownBlock = some y → w.heap.size ≤ y) := by
  have hsl2 : bits .and .i64 slot 1 = 0 := by rw [i64_and1]; exact hsl
  have H := Lib.hid h; have HS := Lib.hid hS; have HB := Lib.hid hb; have HNUM := Lib.hid hnum; have HX := Lib.hid hx
  clear h hS hb hsl hnum hx
  go_enter Try.func42, Try.ntmps42
  go_upto_region 1 with fail
  have hr1 := H.out.alloc (.cells #[.int .i64 1, .int .i64 slot, .int .i64 num, .int .i64 x, inV] 55)
  have ho1 := Row.new w [.int .i64 1, .int .i64 slot, .int .i64 num, .int .i64 x, inV] 55
  have hf1 := (Fr.refl [] w).alloc (.cells #[.int .i64 1, .int .i64 slot, .int .i64 num, .int .i64 x, inV] 55)
  generalize w.alloc (.cells #[.int .i64 1, .int .i64 slot, .int .i64 num, .int .i64 x, inV] 55) = w1 at hr1 ho1 hf1 ⊢
  generalize w.heap.size = n0 at ho1 ⊢
  have HR1 := Lib.hid hr1; have HO1 := Lib.hid ho1; have HF1 := Lib.hid hf1
  have c0 := hr1.cell' (j := 0) rfl
  have c2 := hr1.cell' (j := 2) rfl
  have o0 := ho1.cell' (j := 0) rfl
  have o1 := ho1.cell' (j := 1) rfl
  have o2 := ho1.cell' (j := 2) rfl
  have o3 := ho1.cell' (j := 3) rfl
  clear hr1 ho1 hf1
  go_quiet (fail)
  have hfq := HF1.out.drewN nq
  have hrq := HR1.out.drewN nq
  have hoq := HO1.out.drewN nq
  clear c0 c2 o0 o1 o2 o3 HR1 HO1 HF1
  generalize w1.drewN nq = w2 at hfq hrq hoq ⊢
  have HR1 := Lib.hid hrq; have HO1 := Lib.hid hoq; have HF1 := Lib.hid hfq
  have c0 := hrq.cell' (j := 0) rfl
  have c2 := hrq.cell' (j := 2) rfl
  have o0 := hoq.cell' (j := 0) rfl
  have o1 := hoq.cell' (j := 1) rfl
  have o2 := hoq.cell' (j := 2) rfl
  have o3 := hoq.cell' (j := 3) rfl
  have HS2 := Lib.hid (HS.out.fr0 hfq)
  have HSZ := Lib.hid hfq.size
  have hne0 : NoKd w2 (gp :: vp.ownBlock.toList) (55 + 1) := NoKd.cons HS2.out.kds.2.2.1 (by decide) (fun y hy => by rw [HS2.out.kds.2.2.2 y (by simpa using hy)]; decide)
  have hne1 : NoKd w2 (gp :: vp.ownBlock.toList) (74 + 1) := NoKd.cons HS2.out.kds.2.2.1 (by decide) (fun y hy => by rw [HS2.out.kds.2.2.2 y (by simpa using hy)]; decide)
  have HNE0 := Lib.hid hne0; have HNE1 := Lib.hid hne1
  clear hfq hrq hoq hne0 hne1
  go_wp2_with fail
  refine (rfPut_any base gp vp r c L num x w2 HS2.out.2.1 (by have := HB.out; have := HSZ.out; omega) HNUM.out).mono ?_
  rintro e w3 ⟨rfl, ⟨v', L', hr3, hl3, hv3⟩, hf3⟩
  have e0 := hf3.cell c0 (HNE1.out.not HR1.out.kd)
  have p2 := hf3.cell o2 (HNE0.out.not HO1.out.kd)
  have p3 := hf3.cell o3 (HNE0.out.not HO1.out.kd)
  have PI := Lib.hid (HS2.out.ibx hf3)
  have kb : kd w3 b = 0 := PI.out.2.1.kd
  have kX : kd w3 X = 74 + 1 := (HR1.out.fr hf3 (HNE1.out.not HR1.out.kd)).kd
  have kn : kd w3 n0 = 55 + 1 := (HO1.out.fr hf3 (HNE0.out.not HO1.out.kd)).kd
  have nX : X ∉ [b] := by simp; exact kd_ne kX kb (by decide)
  have nn : n0 ∉ [b] := by simp; exact kd_ne kn kb (by decide)
  have NX := Lib.hid nX; have NN := Lib.hid nn; have HR3 := Lib.hid hr3; have HL3 := Lib.hid hl3; have HV3 := Lib.hid hv3; have HF3 := Lib.hid hf3
  obtain ⟨code, hcode⟩ : ∃ code, code = putCode r c (lk L) num := ⟨_, rfl⟩
  rw [← hcode]
  have HC := Lib.hid hcode
  clear hr3 hl3 hv3 hf3 kb kX kn nX nn c0 c2 o0 o1 o2 o3 hcode
  go_wp2_with fail
  go_region_held3 (fun w' => w'.cell? ⟨X, 0, none⟩ = some (ptr g) ∧ w'.cell? ⟨n0, 2, none⟩ = some (.int .i64 num) ∧ w'.cell? ⟨n0, 3, none⟩ = some (.int .i64 x)) (first | exact ⟨e0, p2, p3⟩ | exact ⟨q0, q2, q3⟩ | go_keep) (first
    | (go_at_call 15; refine (put_any g b r c (lk L) num x _ (show Ibx w3.drew g b r c (lk L) from PI.out) HX.out).mono ?_; rintro e w4 ⟨rfl, hi4, hf4⟩; have q0 := hf4.cell (show w3.drew.cell? _ = _ from e0) NX.out; have q2 := hf4.cell (show w3.drew.cell? _ = _ from p2) NN.out; have q3 := hf4.cell (show w3.drew.cell? _ = _ from p3) NN.out; have HI4 := Lib.hid hi4; have HF4 : Hid (Fr [b] w3 w4) := Lib.hid (((Fr.refl [b] w3).drew).trans1 hf4); rw [← HC.out]; clear hi4 hf4))
  all_goals go_wp2_with fail
  all_goals go_ret
  all_goals
    obtain ⟨hs4, hf4⟩ := HS2.out.after HR3.out HI4.out HL3.out (HF4.out.mono (fun y hy _ => by simp at hy; simp [hy])) (HS2.out.2.2.put HL3.out) HF3.out
    exact ⟨ret_bool (by simp), v', c, L', hs4, (HF1.out.nil _).trans1 hf4, HV3.out.imp (fun h => h) (fun ⟨y, hy, hl⟩ z hz => by rw [hy] at hz; obtain rfl := Option.some.inj hz; exact Nat.le_trans HSZ.out hl)⟩
set_option maxRecDepth 100000 in
set_option maxHeartbeats 8000000 in
theorem changesA_pop (base X g b gp : Nat) (vp h1 h3 vL vW inV : Value) (r c : Nat) (L : List (Int × Int)) (slot num x : Int) (w : World) (h : Row w X [ptr g, h1, ptr gp, h3, vL, vW] 74) (hS : SideA w base g b gp vp r c L) (hb : base ≤ w.heap.size) (hsl : slot % 2 = 0) (hnum : (Lit.int .i64 num).wf = true) (hx : (Lit.int .i64 x).wf = true) :
    Calls Try.prog 42 #[.pointer (some ⟨X, 0, none⟩), .agg #[.int .i64 3, .int .i64 slot, .int .i64 num, .int .i64 x, inV]] w fun e w' => e = .returned (.bool true) ∧ ∃ vp' c' L', SideA w' base g b gp vp' r c' L' ∧ Fr (SideS g b gp vp) w w' ∧ (vp'.ownBlock = vp.ownBlock ∨ ∀ y, vp'.ownBlock = some y → w.heap.size ≤ y) := by
  have hsl2 : bits .and .i64 slot 1 = 0 := by rw [i64_and1]; exact hsl
  have H := Lib.hid h; have HS := Lib.hid hS; have HB := Lib.hid hb; have HNUM := Lib.hid hnum; have HX := Lib.hid hx
  clear h hS hb hsl hnum hx
  go_enter Try.func42, Try.ntmps42
  go_upto_region 1 with fail
  have hr1 := H.out.alloc (.cells #[.int .i64 3, .int .i64 slot, .int .i64 num, .int .i64 x, inV] 55)
  have ho1 := Row.new w [.int .i64 3, .int .i64 slot, .int .i64 num, .int .i64 x, inV] 55
  have hf1 := (Fr.refl [] w).alloc (.cells #[.int .i64 3, .int .i64 slot, .int .i64 num, .int .i64 x, inV] 55)
  generalize w.alloc (.cells #[.int .i64 3, .int .i64 slot, .int .i64 num, .int .i64 x, inV] 55) = w1 at hr1 ho1 hf1 ⊢
  generalize w.heap.size = n0 at ho1 ⊢
  have HR1 := Lib.hid hr1; have HO1 := Lib.hid ho1; have HF1 := Lib.hid hf1
  have c0 := hr1.cell' (j := 0) rfl
  have c2 := hr1.cell' (j := 2) rfl
  have o0 := ho1.cell' (j := 0) rfl
  have o1 := ho1.cell' (j := 1) rfl
  have o2 := ho1.cell' (j := 2) rfl
  have o3 := ho1.cell' (j := 3) rfl
  clear hr1 ho1 hf1
  go_quiet (fail)
  have hfq := HF1.out.drewN nq
  have hrq := HR1.out.drewN nq
  have hoq := HO1.out.drewN nq
  clear c0 c2 o0 o1 o2 o3 HR1 HO1 HF1
  generalize w1.drewN nq = w2 at hfq hrq hoq ⊢
  have HR1 := Lib.hid hrq; have HO1 := Lib.hid hoq; have HF1 := Lib.hid hfq
  have c0 := hrq.cell' (j := 0) rfl
  have c2 := hrq.cell' (j := 2) rfl
  have o0 := hoq.cell' (j := 0) rfl
  have o1 := hoq.cell' (j := 1) rfl
  have o2 := hoq.cell' (j := 2) rfl
  have o3 := hoq.cell' (j := 3) rfl
  have HS2 := Lib.hid (HS.out.fr0 hfq)
  have HSZ := Lib.hid hfq.size
  have hne0 : NoKd w2 (gp :: vp.ownBlock.toList) (55 + 1) := NoKd.cons HS2.out.kds.2.2.1 (by decide) (fun y hy => by rw [HS2.out.kds.2.2.2 y (by simpa using hy)]; decide)
  have hne1 : NoKd w2 (gp :: vp.ownBlock.toList) (74 + 1) := NoKd.cons HS2.out.kds.2.2.1 (by decide) (fun y hy => by rw [HS2.out.kds.2.2.2 y (by simpa using hy)]; decide)
  have HNE0 := Lib.hid hne0; have HNE1 := Lib.hid hne1
  clear hfq hrq hoq hne0 hne1
  go_wp2_with fail
  refine (rfPop_any base gp vp r c L w2 HS2.out.2.1 (by have := HB.out; have := HSZ.out; omega)).mono ?_
  rintro e w3 ⟨hpost, hf3'⟩
  have hf3 : Fr (gp :: vp.ownBlock.toList) w2 w3 := hf3'.mono (fun y hy _ => by simp at hy; simp [hy])
  have e0 := hf3.cell c0 (HNE1.out.not HR1.out.kd)
  have p2 := hf3.cell o2 (HNE0.out.not HO1.out.kd)
  have p3 := hf3.cell o3 (HNE0.out.not HO1.out.kd)
  have PI := Lib.hid (HS2.out.ibx hf3)
  have HF3 := Lib.hid hf3
  clear hf3 hf3' c0 c2 o0 o1 o2 o3
  rcases hpost with ⟨hok, rfl, v', L', hr3, hl3, hv3⟩ | ⟨hok, rfl, hr3⟩
  · have HR3 := Lib.hid hr3; have HL3 := Lib.hid hl3; have HV3 := Lib.hid hv3; have HOK := Lib.hid hok
    clear hr3 hl3 hv3 hok
    go_wp2_with fail
    refine (pop_any g b r c (lk L) w3 PI.out).mono ?_
    rintro e w4 ⟨⟨_, rfl, hi4⟩ | ⟨hno, _, _⟩, hf4⟩
    · have HI4 := Lib.hid hi4; have HF4 := Lib.hid hf4
      clear hi4 hf4
      go_wp2_with fail
      go_ret
      have hl3 := HL3.out
      obtain ⟨hs4, hf4⟩ := HS2.out.after HR3.out HI4.out hl3 (HF4.out.mono (fun y hy _ => by simp at hy; simp [hy])) (HS2.out.2.2.pop hl3) HF3.out
      exact ⟨ret_bool (by simp), v', (c + 1), L', hs4, (HF1.out.nil _).trans1 hf4, .inr fun y hy => Nat.le_trans HSZ.out (HV3.out y hy)⟩
    · rw [HOK.out] at hno; cases hno
  · have HR3 := Lib.hid hr3; have HOK := Lib.hid hok
    clear hr3 hok
    go_wp2_with fail
    refine (pop_any g b r c (lk L) w3 PI.out).mono ?_
    rintro e w4 ⟨⟨hno, _, _⟩ | ⟨_, rfl, hi4⟩, hf4⟩
    · rw [HOK.out] at hno; cases hno
    · have HI4 := Lib.hid hi4; have HF4 := Lib.hid hf4
      clear hi4 hf4
      go_wp2_with fail
      go_ret
      obtain ⟨hs4, hf4⟩ := HS2.out.after HR3.out HI4.out rfl (HF4.out.mono (fun y hy _ => by simp at hy; simp [hy])) HS2.out.2.2 HF3.out
      exact ⟨ret_bool (by simp), vp, c, L, hs4, (HF1.out.nil _).trans1 hf4, .inl rfl⟩
set_option maxRecDepth 100000 in
set_option maxHeartbeats 8000000 in
theorem changesA_toss (base X g b gp : Nat) (vp h1 h3 vL vW inV : Value) (r c : Nat) (L : List (Int × Int)) (slot num x : Int) (w : World) (h : Row w X [ptr g, h1, ptr gp, h3, vL, vW] 74) (hS : SideA w base g b gp vp r c L) (hb : base ≤ w.heap.size) (hsl : slot % 2 = 0) (hnum : (Lit.int .i64 num).wf = true) (hx : (Lit.int .i64 x).wf = true) :
    Calls Try.prog 42 #[.pointer (some ⟨X, 0, none⟩), .agg #[.int .i64 4, .int .i64 slot, .int .i64 num, .int .i64 x, inV]] w fun e w' => e = .returned (.bool true) ∧ ∃ vp' c' L', SideA w' base g b gp vp' r c' L' ∧ Fr (SideS g b gp vp) w w' ∧ (vp'.ownBlock = vp.ownBlock ∨ ∀ y, vp'.ownBlock = some y → w.heap.size ≤ y) := by
  have hsl2 : bits .and .i64 slot 1 = 0 := by rw [i64_and1]; exact hsl
  have H := Lib.hid h; have HS := Lib.hid hS; have HB := Lib.hid hb; have HNUM := Lib.hid hnum; have HX := Lib.hid hx
  clear h hS hb hsl hnum hx
  go_enter Try.func42, Try.ntmps42
  go_upto_region 1 with fail
  have hr1 := H.out.alloc (.cells #[.int .i64 4, .int .i64 slot, .int .i64 num, .int .i64 x, inV] 55)
  have ho1 := Row.new w [.int .i64 4, .int .i64 slot, .int .i64 num, .int .i64 x, inV] 55
  have hf1 := (Fr.refl [] w).alloc (.cells #[.int .i64 4, .int .i64 slot, .int .i64 num, .int .i64 x, inV] 55)
  generalize w.alloc (.cells #[.int .i64 4, .int .i64 slot, .int .i64 num, .int .i64 x, inV] 55) = w1 at hr1 ho1 hf1 ⊢
  generalize w.heap.size = n0 at ho1 ⊢
  have HR1 := Lib.hid hr1; have HO1 := Lib.hid ho1; have HF1 := Lib.hid hf1
  have c0 := hr1.cell' (j := 0) rfl
  have c2 := hr1.cell' (j := 2) rfl
  have o0 := ho1.cell' (j := 0) rfl
  have o1 := ho1.cell' (j := 1) rfl
  have o2 := ho1.cell' (j := 2) rfl
  have o3 := ho1.cell' (j := 3) rfl
  clear hr1 ho1 hf1
  go_quiet (fail)
  have hfq := HF1.out.drewN nq
  have hrq := HR1.out.drewN nq
  have hoq := HO1.out.drewN nq
  clear c0 c2 o0 o1 o2 o3 HR1 HO1 HF1
  generalize w1.drewN nq = w2 at hfq hrq hoq ⊢
  have HR1 := Lib.hid hrq; have HO1 := Lib.hid hoq; have HF1 := Lib.hid hfq
  have c0 := hrq.cell' (j := 0) rfl
  have c2 := hrq.cell' (j := 2) rfl
  have o0 := hoq.cell' (j := 0) rfl
  have o1 := hoq.cell' (j := 1) rfl
  have o2 := hoq.cell' (j := 2) rfl
  have o3 := hoq.cell' (j := 3) rfl
  have HS2 := Lib.hid (HS.out.fr0 hfq)
  have HSZ := Lib.hid hfq.size
  have hne0 : NoKd w2 (gp :: vp.ownBlock.toList) (55 + 1) := NoKd.cons HS2.out.kds.2.2.1 (by decide) (fun y hy => by rw [HS2.out.kds.2.2.2 y (by simpa using hy)]; decide)
  have hne1 : NoKd w2 (gp :: vp.ownBlock.toList) (74 + 1) := NoKd.cons HS2.out.kds.2.2.1 (by decide) (fun y hy => by rw [HS2.out.kds.2.2.2 y (by simpa using hy)]; decide)
  have HNE0 := Lib.hid hne0; have HNE1 := Lib.hid hne1
  clear hfq hrq hoq hne0 hne1
  go_wp2_with fail
  refine (rfToss_any base gp vp r c L w2 HS2.out.2.1 (by have := HB.out; have := HSZ.out; omega)).mono ?_
  rintro e w3 ⟨hpost, hf3'⟩
  have hf3 : Fr (gp :: vp.ownBlock.toList) w2 w3 := hf3'.mono (fun y hy _ => by simp at hy; simp [hy])
  have e0 := hf3.cell c0 (HNE1.out.not HR1.out.kd)
  have p2 := hf3.cell o2 (HNE0.out.not HO1.out.kd)
  have p3 := hf3.cell o3 (HNE0.out.not HO1.out.kd)
  have PI := Lib.hid (HS2.out.ibx hf3)
  have HF3 := Lib.hid hf3
  clear hf3 hf3' c0 c2 o0 o1 o2 o3
  rcases hpost with ⟨hok, rfl, v', L', hr3, hl3, hv3⟩ | ⟨hok, rfl, hr3⟩
  · have HR3 := Lib.hid hr3; have HL3 := Lib.hid hl3; have HV3 := Lib.hid hv3; have HOK := Lib.hid hok
    clear hr3 hl3 hv3 hok
    go_wp2_with fail
    refine (toss_any g b r c (lk L) w3 PI.out).mono ?_
    rintro e w4 ⟨⟨_, rfl, hi4⟩ | ⟨hno, _, _⟩, hf4⟩
    · have HI4 := Lib.hid hi4; have HF4 := Lib.hid hf4
      clear hi4 hf4
      go_wp2_with fail
      go_ret
      have hl3 := HL3.out
      obtain ⟨hs4, hf4⟩ := HS2.out.after HR3.out HI4.out hl3 (HF4.out.mono (fun y hy _ => by simp at hy; simp [hy])) (HS2.out.2.2.toss hl3) HF3.out
      exact ⟨ret_bool (by simp), v', c, L', hs4, (HF1.out.nil _).trans1 hf4, .inr fun y hy => Nat.le_trans HSZ.out (HV3.out y hy)⟩
    · rw [HOK.out] at hno; cases hno
  · have HR3 := Lib.hid hr3; have HOK := Lib.hid hok
    clear hr3 hok
    go_wp2_with fail
    refine (toss_any g b r c (lk L) w3 PI.out).mono ?_
    rintro e w4 ⟨⟨hno, _, _⟩ | ⟨_, rfl, hi4⟩, hf4⟩
    · rw [HOK.out] at hno; cases hno
    · have HI4 := Lib.hid hi4; have HF4 := Lib.hid hf4
      clear hi4 hf4
      go_wp2_with fail
      go_ret
      obtain ⟨hs4, hf4⟩ := HS2.out.after HR3.out HI4.out rfl (HF4.out.mono (fun y hy _ => by simp at hy; simp [hy])) HS2.out.2.2 HF3.out
      exact ⟨ret_bool (by simp), vp, c, L, hs4, (HF1.out.nil _).trans1 hf4, .inl rfl⟩
set_option maxRecDepth 100000 in
set_option maxHeartbeats 8000000 in
theorem changesA_reset (base X g b gp : Nat) (vp h1 h3 vL vW inV : Value) (r c : Nat) (L : List (Int × Int)) (slot num x : Int) (w : World) (h : Row w X [ptr g, h1, ptr gp, h3, vL, vW] 74) (hS : SideA w base g b gp vp r c L) (hb : base ≤ w.heap.size) (hsl : slot % 2 = 0) (hnum : (Lit.int .i64 num).wf = true) (hx : (Lit.int .i64 x).wf = true) :
    Calls Try.prog 42 #[.pointer (some ⟨X, 0, none⟩), .agg #[.int .i64 7, .int .i64 slot, .int .i64 num, .int .i64 x, inV]] w fun e w' => e = .returned (.bool true) ∧ ∃ vp' c' L', SideA w' base g b gp vp' r c' L' ∧ Fr (SideS g b gp vp) w w' ∧ (vp'.ownBlock = vp.ownBlock ∨ ∀ y, vp'.ownBlock = some y → w.heap.size ≤ y) := by
  have hsl2 : bits .and .i64 slot 1 = 0 := by rw [i64_and1]; exact hsl
  have H := Lib.hid h; have HS := Lib.hid hS; have HB := Lib.hid hb; have HNUM := Lib.hid hnum; have HX := Lib.hid hx
  clear h hS hb hsl hnum hx
  go_enter Try.func42, Try.ntmps42
  go_upto_region 1 with fail
  have hr1 := H.out.alloc (.cells #[.int .i64 7, .int .i64 slot, .int .i64 num, .int .i64 x, inV] 55)
  have ho1 := Row.new w [.int .i64 7, .int .i64 slot, .int .i64 num, .int .i64 x, inV] 55
  have hf1 := (Fr.refl [] w).alloc (.cells #[.int .i64 7, .int .i64 slot, .int .i64 num, .int .i64 x, inV] 55)
  generalize w.alloc (.cells #[.int .i64 7, .int .i64 slot, .int .i64 num, .int .i64 x, inV] 55) = w1 at hr1 ho1 hf1 ⊢
  generalize w.heap.size = n0 at ho1 ⊢
  have HR1 := Lib.hid hr1; have HO1 := Lib.hid ho1; have HF1 := Lib.hid hf1
  have c0 := hr1.cell' (j := 0) rfl
  have c2 := hr1.cell' (j := 2) rfl
  have o0 := ho1.cell' (j := 0) rfl
  have o1 := ho1.cell' (j := 1) rfl
  have o2 := ho1.cell' (j := 2) rfl
  have o3 := ho1.cell' (j := 3) rfl
  clear hr1 ho1 hf1
  go_quiet (fail)
  have hfq := HF1.out.drewN nq
  have hrq := HR1.out.drewN nq
  have hoq := HO1.out.drewN nq
  clear c0 c2 o0 o1 o2 o3 HR1 HO1 HF1
  generalize w1.drewN nq = w2 at hfq hrq hoq ⊢
  have HR1 := Lib.hid hrq; have HO1 := Lib.hid hoq; have HF1 := Lib.hid hfq
  have c0 := hrq.cell' (j := 0) rfl
  have c2 := hrq.cell' (j := 2) rfl
  have o0 := hoq.cell' (j := 0) rfl
  have o1 := hoq.cell' (j := 1) rfl
  have o2 := hoq.cell' (j := 2) rfl
  have o3 := hoq.cell' (j := 3) rfl
  have HS2 := Lib.hid (HS.out.fr0 hfq)
  have HSZ := Lib.hid hfq.size
  have hne0 : NoKd w2 (gp :: vp.ownBlock.toList) (55 + 1) := NoKd.cons HS2.out.kds.2.2.1 (by decide) (fun y hy => by rw [HS2.out.kds.2.2.2 y (by simpa using hy)]; decide)
  have hne1 : NoKd w2 (gp :: vp.ownBlock.toList) (74 + 1) := NoKd.cons HS2.out.kds.2.2.1 (by decide) (fun y hy => by rw [HS2.out.kds.2.2.2 y (by simpa using hy)]; decide)
  have HNE0 := Lib.hid hne0; have HNE1 := Lib.hid hne1
  clear hfq hrq hoq hne0 hne1
  go_wp2_with fail
  refine (rfReset_any base gp vp r c L w2 HS2.out.2.1).mono ?_
  rintro e w3 ⟨rfl, hr3, hf3'⟩
  have hf3 : Fr (gp :: vp.ownBlock.toList) w2 w3 := hf3'.mono (fun y hy _ => by simp at hy; simp [hy])
  have e0 := hf3.cell c0 (HNE1.out.not HR1.out.kd)
  have p2 := hf3.cell o2 (HNE0.out.not HO1.out.kd)
  have p3 := hf3.cell o3 (HNE0.out.not HO1.out.kd)
  have PI := Lib.hid (HS2.out.ibx hf3)
  have HF3 := Lib.hid hf3; have HR3 := Lib.hid hr3
  clear hf3 hf3' hr3 c0 c2 o0 o1 o2 o3
  go_wp2_with fail
  refine (reset_any g b r c (lk L) w3 PI.out).mono ?_
  rintro e w4 ⟨rfl, hi4, hf4⟩
  have HI4 := Lib.hid hi4; have HF4 := Lib.hid hf4
  clear hi4 hf4
  go_wp2_with fail
  go_ret
  obtain ⟨hs4, hf4⟩ := HS2.out.after HR3.out HI4.out lk_nil (HF4.out.mono (fun y hy _ => by simp at hy; simp [hy])) (InR.nil r) HF3.out
  exact ⟨ret_bool (by simp), _, 0, [], hs4, (HF1.out.nil _).trans1 hf4, .inr fun y hy => by cases hy⟩
set_option maxRecDepth 100000 in
set_option maxHeartbeats 8000000 in
theorem changesB_put (base X g b gp : Nat) (vp h0 h2 vL vW inV : Value) (r c : Nat) (L : List (Int × Int)) (slot num x : Int) (w : World) (h : Row w X [h0, ptr g, h2, ptr gp, vL, vW] 74) (hS : SideB w base g b gp vp r c L) (hb : base ≤ w.heap.size) (hsl : slot % 2 = 1) (hnum : (Lit.int .i64 num).wf = true) (hx : (Lit.int .i64 x).wf = true) :
    Calls Try.prog 42 #[.pointer (some ⟨X, 0, none⟩), .agg #[.int .i64 1, .int .i64 slot, .int .i64 num, .int .i64 x, inV]] w fun e w' => e = .returned (.bool true) ∧ ∃ vp' c' L', SideB w' base g b gp vp' r c' L' ∧ Fr (SideS g b gp vp) w w' ∧ (vp'.ownBlock = vp.ownBlock ∨ ∀ y, vp'.ownBlock = some y → w.heap.size ≤ y) := by
  have hsl2 : bits .and .i64 slot 1 = 1 := by rw [i64_and1]; exact hsl
  have H := Lib.hid h; have HS := Lib.hid hS; have HB := Lib.hid hb; have HNUM := Lib.hid hnum; have HX := Lib.hid hx
  clear h hS hb hsl hnum hx
  go_enter Try.func42, Try.ntmps42
  go_upto_region 1 with fail
  have hr1 := H.out.alloc (.cells #[.int .i64 1, .int .i64 slot, .int .i64 num, .int .i64 x, inV] 55)
  have ho1 := Row.new w [.int .i64 1, .int .i64 slot, .int .i64 num, .int .i64 x, inV] 55
  have hf1 := (Fr.refl [] w).alloc (.cells #[.int .i64 1, .int .i64 slot, .int .i64 num, .int .i64 x, inV] 55)
  generalize w.alloc (.cells #[.int .i64 1, .int .i64 slot, .int .i64 num, .int .i64 x, inV] 55) = w1 at hr1 ho1 hf1 ⊢
  generalize w.heap.size = n0 at ho1 ⊢
  have HR1 := Lib.hid hr1; have HO1 := Lib.hid ho1; have HF1 := Lib.hid hf1
  have c0 := hr1.cell' (j := 1) rfl
  have c2 := hr1.cell' (j := 3) rfl
  have o0 := ho1.cell' (j := 0) rfl
  have o1 := ho1.cell' (j := 1) rfl
  have o2 := ho1.cell' (j := 2) rfl
  have o3 := ho1.cell' (j := 3) rfl
  clear hr1 ho1 hf1
  go_quiet (fail)
  have hfq := HF1.out.drewN nq
  have hrq := HR1.out.drewN nq
  have hoq := HO1.out.drewN nq
  clear c0 c2 o0 o1 o2 o3 HR1 HO1 HF1
  generalize w1.drewN nq = w2 at hfq hrq hoq ⊢
  have HR1 := Lib.hid hrq; have HO1 := Lib.hid hoq; have HF1 := Lib.hid hfq
  have c0 := hrq.cell' (j := 1) rfl
  have c2 := hrq.cell' (j := 3) rfl
  have o0 := hoq.cell' (j := 0) rfl
  have o1 := hoq.cell' (j := 1) rfl
  have o2 := hoq.cell' (j := 2) rfl
  have o3 := hoq.cell' (j := 3) rfl
  have HS2 := Lib.hid (HS.out.fr0 hfq)
  have HSZ := Lib.hid hfq.size
  have hne0 : NoKd w2 (gp :: vp.ownBlock.toList) (55 + 1) := NoKd.cons HS2.out.kds.2.2.1 (by decide) (fun y hy => by rw [HS2.out.kds.2.2.2 y (by simpa using hy)]; decide)
  have hne1 : NoKd w2 (gp :: vp.ownBlock.toList) (74 + 1) := NoKd.cons HS2.out.kds.2.2.1 (by decide) (fun y hy => by rw [HS2.out.kds.2.2.2 y (by simpa using hy)]; decide)
  have HNE0 := Lib.hid hne0; have HNE1 := Lib.hid hne1
  clear hfq hrq hoq hne0 hne1
  go_wp2_with fail
  refine (rfPut_any base gp vp r c L num x w2 HS2.out.2.1 (by have := HB.out; have := HSZ.out; omega) HNUM.out).mono ?_
  rintro e w3 ⟨rfl, ⟨v', L', hr3, hl3, hv3⟩, hf3⟩
  have e0 := hf3.cell c0 (HNE1.out.not HR1.out.kd)
  have p2 := hf3.cell o2 (HNE0.out.not HO1.out.kd)
  have p3 := hf3.cell o3 (HNE0.out.not HO1.out.kd)
  have PI := Lib.hid (HS2.out.ibx hf3)
  have kb : kd w3 b = 0 := PI.out.2.1.kd
  have kX : kd w3 X = 74 + 1 := (HR1.out.fr hf3 (HNE1.out.not HR1.out.kd)).kd
  have kn : kd w3 n0 = 55 + 1 := (HO1.out.fr hf3 (HNE0.out.not HO1.out.kd)).kd
  have nX : X ∉ [b] := by simp; exact kd_ne kX kb (by decide)
  have nn : n0 ∉ [b] := by simp; exact kd_ne kn kb (by decide)
  have NX := Lib.hid nX; have NN := Lib.hid nn; have HR3 := Lib.hid hr3; have HL3 := Lib.hid hl3; have HV3 := Lib.hid hv3; have HF3 := Lib.hid hf3
  obtain ⟨code, hcode⟩ : ∃ code, code = putCode r c (lk L) num := ⟨_, rfl⟩
  rw [← hcode]
  have HC := Lib.hid hcode
  clear hr3 hl3 hv3 hf3 kb kX kn nX nn c0 c2 o0 o1 o2 o3 hcode
  go_wp2_with fail
  have P5 : Hid (∀ w5, Fr [] w3 w5 → w5.cell? ⟨X, 1, none⟩ = some (ptr g) ∧ w5.cell? ⟨n0, 2, none⟩ = some (.int .i64 num) ∧ w5.cell? ⟨n0, 3, none⟩ = some (.int .i64 x)) := Lib.hid fun w5 hf => ⟨hf.cell e0 (by simp), hf.cell p2 (by simp), hf.cell p3 (by simp)⟩
  go_region_held3 (fun w' => w'.cell? ⟨X, 1, none⟩ = some (ptr g) ∧ w'.cell? ⟨n0, 2, none⟩ = some (.int .i64 num) ∧ w'.cell? ⟨n0, 3, none⟩ = some (.int .i64 x)) (first | exact ⟨e0, p2, p3⟩ | exact P5.out _ HF5.out | exact ⟨q0, q2, q3⟩ | go_keep) (first
    | (go_at_call 46; refine (op_any x w3.drew).mono ?_; rintro e w5 ⟨rfl, hf5⟩; have HF5 : Hid (Fr [] w3 w5) := Lib.hid ((Fr.refl [] w3).drew.trans0 hf5); clear hf5)
    | (go_at_call 56; refine (put_anyO g b r c (lk L) num x w5 (PI.out.fr0 HF5.out) HX.out).mono ?_; rintro e w4 ⟨rfl, hi4, hf4⟩; have q5 := P5.out _ HF5.out; have q0 := hf4.cell q5.1 NX.out; have q2 := hf4.cell q5.2.1 NN.out; have q3 := hf4.cell q5.2.2 NN.out; have HI4 := Lib.hid hi4; have HF4 : Hid (Fr [b] w3 w4) := Lib.hid ((HF5.out.nil [b]).trans1 hf4); rw [← HC.out]; clear hi4 hf4 q5))
  all_goals go_wp2_with fail
  all_goals go_ret
  all_goals
    obtain ⟨hs4, hf4⟩ := HS2.out.after HR3.out HI4.out HL3.out (HF4.out.mono (fun y hy _ => by simp at hy; simp [hy])) (HS2.out.2.2.put HL3.out) HF3.out
    exact ⟨ret_bool (by simp), v', c, L', hs4, (HF1.out.nil _).trans1 hf4, HV3.out.imp (fun h => h) (fun ⟨y, hy, hl⟩ z hz => by rw [hy] at hz; obtain rfl := Option.some.inj hz; exact Nat.le_trans HSZ.out hl)⟩
set_option maxRecDepth 100000 in
set_option maxHeartbeats 8000000 in
theorem changesB_pop (base X g b gp : Nat) (vp h0 h2 vL vW inV : Value) (r c : Nat) (L : List (Int × Int)) (slot num x : Int) (w : World) (h : Row w X [h0, ptr g, h2, ptr gp, vL, vW] 74) (hS : SideB w base g b gp vp r c L) (hb : base ≤ w.heap.size) (hsl : slot % 2 = 1) (hnum : (Lit.int .i64 num).wf = true) (hx : (Lit.int .i64 x).wf = true) :
    Calls Try.prog 42 #[.pointer (some ⟨X, 0, none⟩), .agg #[.int .i64 3, .int .i64 slot, .int .i64 num, .int .i64 x, inV]] w fun e w' => e = .returned (.bool true) ∧ ∃ vp' c' L', SideB w' base g b gp vp' r c' L' ∧ Fr (SideS g b gp vp) w w' ∧ (vp'.ownBlock = vp.ownBlock ∨ ∀ y, vp'.ownBlock = some y → w.heap.size ≤ y) := by
  have hsl2 : bits .and .i64 slot 1 = 1 := by rw [i64_and1]; exact hsl
  have H := Lib.hid h; have HS := Lib.hid hS; have HB := Lib.hid hb; have HNUM := Lib.hid hnum; have HX := Lib.hid hx
  clear h hS hb hsl hnum hx
  go_enter Try.func42, Try.ntmps42
  go_upto_region 1 with fail
  have hr1 := H.out.alloc (.cells #[.int .i64 3, .int .i64 slot, .int .i64 num, .int .i64 x, inV] 55)
  have ho1 := Row.new w [.int .i64 3, .int .i64 slot, .int .i64 num, .int .i64 x, inV] 55
  have hf1 := (Fr.refl [] w).alloc (.cells #[.int .i64 3, .int .i64 slot, .int .i64 num, .int .i64 x, inV] 55)
  generalize w.alloc (.cells #[.int .i64 3, .int .i64 slot, .int .i64 num, .int .i64 x, inV] 55) = w1 at hr1 ho1 hf1 ⊢
  generalize w.heap.size = n0 at ho1 ⊢
  have HR1 := Lib.hid hr1; have HO1 := Lib.hid ho1; have HF1 := Lib.hid hf1
  have c0 := hr1.cell' (j := 1) rfl
  have c2 := hr1.cell' (j := 3) rfl
  have o0 := ho1.cell' (j := 0) rfl
  have o1 := ho1.cell' (j := 1) rfl
  have o2 := ho1.cell' (j := 2) rfl
  have o3 := ho1.cell' (j := 3) rfl
  clear hr1 ho1 hf1
  go_quiet (fail)
  have hfq := HF1.out.drewN nq
  have hrq := HR1.out.drewN nq
  have hoq := HO1.out.drewN nq
  clear c0 c2 o0 o1 o2 o3 HR1 HO1 HF1
  generalize w1.drewN nq = w2 at hfq hrq hoq ⊢
  have HR1 := Lib.hid hrq; have HO1 := Lib.hid hoq; have HF1 := Lib.hid hfq
  have c0 := hrq.cell' (j := 1) rfl
  have c2 := hrq.cell' (j := 3) rfl
  have o0 := hoq.cell' (j := 0) rfl
  have o1 := hoq.cell' (j := 1) rfl
  have o2 := hoq.cell' (j := 2) rfl
  have o3 := hoq.cell' (j := 3) rfl
  have HS2 := Lib.hid (HS.out.fr0 hfq)
  have HSZ := Lib.hid hfq.size
  have hne0 : NoKd w2 (gp :: vp.ownBlock.toList) (55 + 1) := NoKd.cons HS2.out.kds.2.2.1 (by decide) (fun y hy => by rw [HS2.out.kds.2.2.2 y (by simpa using hy)]; decide)
  have hne1 : NoKd w2 (gp :: vp.ownBlock.toList) (74 + 1) := NoKd.cons HS2.out.kds.2.2.1 (by decide) (fun y hy => by rw [HS2.out.kds.2.2.2 y (by simpa using hy)]; decide)
  have HNE0 := Lib.hid hne0; have HNE1 := Lib.hid hne1
  clear hfq hrq hoq hne0 hne1
  go_wp2_with fail
  refine (rfPop_any base gp vp r c L w2 HS2.out.2.1 (by have := HB.out; have := HSZ.out; omega)).mono ?_
  rintro e w3 ⟨hpost, hf3'⟩
  have hf3 : Fr (gp :: vp.ownBlock.toList) w2 w3 := hf3'.mono (fun y hy _ => by simp at hy; simp [hy])
  have e0 := hf3.cell c0 (HNE1.out.not HR1.out.kd)
  have p2 := hf3.cell o2 (HNE0.out.not HO1.out.kd)
  have p3 := hf3.cell o3 (HNE0.out.not HO1.out.kd)
  have PI := Lib.hid (HS2.out.ibx hf3)
  have HF3 := Lib.hid hf3
  clear hf3 hf3' c0 c2 o0 o1 o2 o3
  rcases hpost with ⟨hok, rfl, v', L', hr3, hl3, hv3⟩ | ⟨hok, rfl, hr3⟩
  · have HR3 := Lib.hid hr3; have HL3 := Lib.hid hl3; have HV3 := Lib.hid hv3; have HOK := Lib.hid hok
    clear hr3 hl3 hv3 hok
    go_wp2_with fail
    refine (pop_anyO g b r c (lk L) w3 PI.out).mono ?_
    rintro e w4 ⟨⟨_, rfl, hi4⟩ | ⟨hno, _, _⟩, hf4⟩
    · have HI4 := Lib.hid hi4; have HF4 := Lib.hid hf4
      clear hi4 hf4
      go_wp2_with fail
      go_ret
      have hl3 := HL3.out
      obtain ⟨hs4, hf4⟩ := HS2.out.after HR3.out HI4.out hl3 (HF4.out.mono (fun y hy _ => by simp at hy; simp [hy])) (HS2.out.2.2.pop hl3) HF3.out
      exact ⟨ret_bool (by simp), v', (c + 1), L', hs4, (HF1.out.nil _).trans1 hf4, .inr fun y hy => Nat.le_trans HSZ.out (HV3.out y hy)⟩
    · rw [HOK.out] at hno; cases hno
  · have HR3 := Lib.hid hr3; have HOK := Lib.hid hok
    clear hr3 hok
    go_wp2_with fail
    refine (pop_anyO g b r c (lk L) w3 PI.out).mono ?_
    rintro e w4 ⟨⟨hno, _, _⟩ | ⟨_, rfl, hi4⟩, hf4⟩
    · rw [HOK.out] at hno; cases hno
    · have HI4 := Lib.hid hi4; have HF4 := Lib.hid hf4
      clear hi4 hf4
      go_wp2_with fail
      go_ret
      obtain ⟨hs4, hf4⟩ := HS2.out.after HR3.out HI4.out rfl (HF4.out.mono (fun y hy _ => by simp at hy; simp [hy])) HS2.out.2.2 HF3.out
      exact ⟨ret_bool (by simp), vp, c, L, hs4, (HF1.out.nil _).trans1 hf4, .inl rfl⟩
set_option maxRecDepth 100000 in
set_option maxHeartbeats 8000000 in
theorem changesB_toss (base X g b gp : Nat) (vp h0 h2 vL vW inV : Value) (r c : Nat) (L : List (Int × Int)) (slot num x : Int) (w : World) (h : Row w X [h0, ptr g, h2, ptr gp, vL, vW] 74) (hS : SideB w base g b gp vp r c L) (hb : base ≤ w.heap.size) (hsl : slot % 2 = 1) (hnum : (Lit.int .i64 num).wf = true) (hx : (Lit.int .i64 x).wf = true) :
    Calls Try.prog 42 #[.pointer (some ⟨X, 0, none⟩), .agg #[.int .i64 4, .int .i64 slot, .int .i64 num, .int .i64 x, inV]] w fun e w' => e = .returned (.bool true) ∧ ∃ vp' c' L', SideB w' base g b gp vp' r c' L' ∧ Fr (SideS g b gp vp) w w' ∧ (vp'.ownBlock = vp.ownBlock ∨ ∀ y, vp'.ownBlock = some y → w.heap.size ≤ y) := by
  have hsl2 : bits .and .i64 slot 1 = 1 := by rw [i64_and1]; exact hsl
  have H := Lib.hid h; have HS := Lib.hid hS; have HB := Lib.hid hb; have HNUM := Lib.hid hnum; have HX := Lib.hid hx
  clear h hS hb hsl hnum hx
  go_enter Try.func42, Try.ntmps42
  go_upto_region 1 with fail
  have hr1 := H.out.alloc (.cells #[.int .i64 4, .int .i64 slot, .int .i64 num, .int .i64 x, inV] 55)
  have ho1 := Row.new w [.int .i64 4, .int .i64 slot, .int .i64 num, .int .i64 x, inV] 55
  have hf1 := (Fr.refl [] w).alloc (.cells #[.int .i64 4, .int .i64 slot, .int .i64 num, .int .i64 x, inV] 55)
  generalize w.alloc (.cells #[.int .i64 4, .int .i64 slot, .int .i64 num, .int .i64 x, inV] 55) = w1 at hr1 ho1 hf1 ⊢
  generalize w.heap.size = n0 at ho1 ⊢
  have HR1 := Lib.hid hr1; have HO1 := Lib.hid ho1; have HF1 := Lib.hid hf1
  have c0 := hr1.cell' (j := 1) rfl
  have c2 := hr1.cell' (j := 3) rfl
  have o0 := ho1.cell' (j := 0) rfl
  have o1 := ho1.cell' (j := 1) rfl
  have o2 := ho1.cell' (j := 2) rfl
  have o3 := ho1.cell' (j := 3) rfl
  clear hr1 ho1 hf1
  go_quiet (fail)
  have hfq := HF1.out.drewN nq
  have hrq := HR1.out.drewN nq
  have hoq := HO1.out.drewN nq
  clear c0 c2 o0 o1 o2 o3 HR1 HO1 HF1
  generalize w1.drewN nq = w2 at hfq hrq hoq ⊢
  have HR1 := Lib.hid hrq; have HO1 := Lib.hid hoq; have HF1 := Lib.hid hfq
  have c0 := hrq.cell' (j := 1) rfl
  have c2 := hrq.cell' (j := 3) rfl
  have o0 := hoq.cell' (j := 0) rfl
  have o1 := hoq.cell' (j := 1) rfl
  have o2 := hoq.cell' (j := 2) rfl
  have o3 := hoq.cell' (j := 3) rfl
  have HS2 := Lib.hid (HS.out.fr0 hfq)
  have HSZ := Lib.hid hfq.size
  have hne0 : NoKd w2 (gp :: vp.ownBlock.toList) (55 + 1) := NoKd.cons HS2.out.kds.2.2.1 (by decide) (fun y hy => by rw [HS2.out.kds.2.2.2 y (by simpa using hy)]; decide)
  have hne1 : NoKd w2 (gp :: vp.ownBlock.toList) (74 + 1) := NoKd.cons HS2.out.kds.2.2.1 (by decide) (fun y hy => by rw [HS2.out.kds.2.2.2 y (by simpa using hy)]; decide)
  have HNE0 := Lib.hid hne0; have HNE1 := Lib.hid hne1
  clear hfq hrq hoq hne0 hne1
  go_wp2_with fail
  refine (rfToss_any base gp vp r c L w2 HS2.out.2.1 (by have := HB.out; have := HSZ.out; omega)).mono ?_
  rintro e w3 ⟨hpost, hf3'⟩
  have hf3 : Fr (gp :: vp.ownBlock.toList) w2 w3 := hf3'.mono (fun y hy _ => by simp at hy; simp [hy])
  have e0 := hf3.cell c0 (HNE1.out.not HR1.out.kd)
  have p2 := hf3.cell o2 (HNE0.out.not HO1.out.kd)
  have p3 := hf3.cell o3 (HNE0.out.not HO1.out.kd)
  have PI := Lib.hid (HS2.out.ibx hf3)
  have HF3 := Lib.hid hf3
  clear hf3 hf3' c0 c2 o0 o1 o2 o3
  rcases hpost with ⟨hok, rfl, v', L', hr3, hl3, hv3⟩ | ⟨hok, rfl, hr3⟩
  · have HR3 := Lib.hid hr3; have HL3 := Lib.hid hl3; have HV3 := Lib.hid hv3; have HOK := Lib.hid hok
    clear hr3 hl3 hv3 hok
    go_wp2_with fail
    refine (toss_anyO g b r c (lk L) w3 PI.out).mono ?_
    rintro e w4 ⟨⟨_, rfl, hi4⟩ | ⟨hno, _, _⟩, hf4⟩
    · have HI4 := Lib.hid hi4; have HF4 := Lib.hid hf4
      clear hi4 hf4
      go_wp2_with fail
      go_ret
      have hl3 := HL3.out
      obtain ⟨hs4, hf4⟩ := HS2.out.after HR3.out HI4.out hl3 (HF4.out.mono (fun y hy _ => by simp at hy; simp [hy])) (HS2.out.2.2.toss hl3) HF3.out
      exact ⟨ret_bool (by simp), v', c, L', hs4, (HF1.out.nil _).trans1 hf4, .inr fun y hy => Nat.le_trans HSZ.out (HV3.out y hy)⟩
    · rw [HOK.out] at hno; cases hno
  · have HR3 := Lib.hid hr3; have HOK := Lib.hid hok
    clear hr3 hok
    go_wp2_with fail
    refine (toss_anyO g b r c (lk L) w3 PI.out).mono ?_
    rintro e w4 ⟨⟨hno, _, _⟩ | ⟨_, rfl, hi4⟩, hf4⟩
    · rw [HOK.out] at hno; cases hno
    · have HI4 := Lib.hid hi4; have HF4 := Lib.hid hf4
      clear hi4 hf4
      go_wp2_with fail
      go_ret
      obtain ⟨hs4, hf4⟩ := HS2.out.after HR3.out HI4.out rfl (HF4.out.mono (fun y hy _ => by simp at hy; simp [hy])) HS2.out.2.2 HF3.out
      exact ⟨ret_bool (by simp), vp, c, L, hs4, (HF1.out.nil _).trans1 hf4, .inl rfl⟩
set_option maxRecDepth 100000 in
set_option maxHeartbeats 8000000 in
theorem changesB_reset (base X g b gp : Nat) (vp h0 h2 vL vW inV : Value) (r c : Nat) (L : List (Int × Int)) (slot num x : Int) (w : World) (h : Row w X [h0, ptr g, h2, ptr gp, vL, vW] 74) (hS : SideB w base g b gp vp r c L) (hb : base ≤ w.heap.size) (hsl : slot % 2 = 1) (hnum : (Lit.int .i64 num).wf = true) (hx : (Lit.int .i64 x).wf = true) :
    Calls Try.prog 42 #[.pointer (some ⟨X, 0, none⟩), .agg #[.int .i64 7, .int .i64 slot, .int .i64 num, .int .i64 x, inV]] w fun e w' => e = .returned (.bool true) ∧ ∃ vp' c' L', SideB w' base g b gp vp' r c' L' ∧ Fr (SideS g b gp vp) w w' ∧ (vp'.ownBlock = vp.ownBlock ∨ ∀ y, vp'.ownBlock = some y → w.heap.size ≤ y) := by
  have hsl2 : bits .and .i64 slot 1 = 1 := by rw [i64_and1]; exact hsl
  have H := Lib.hid h; have HS := Lib.hid hS; have HB := Lib.hid hb; have HNUM := Lib.hid hnum; have HX := Lib.hid hx
  clear h hS hb hsl hnum hx
  go_enter Try.func42, Try.ntmps42
  go_upto_region 1 with fail
  have hr1 := H.out.alloc (.cells #[.int .i64 7, .int .i64 slot, .int .i64 num, .int .i64 x, inV] 55)
  have ho1 := Row.new w [.int .i64 7, .int .i64 slot, .int .i64 num, .int .i64 x, inV] 55
  have hf1 := (Fr.refl [] w).alloc (.cells #[.int .i64 7, .int .i64 slot, .int .i64 num, .int .i64 x, inV] 55)
  generalize w.alloc (.cells #[.int .i64 7, .int .i64 slot, .int .i64 num, .int .i64 x, inV] 55) = w1 at hr1 ho1 hf1 ⊢
  generalize w.heap.size = n0 at ho1 ⊢
  have HR1 := Lib.hid hr1; have HO1 := Lib.hid ho1; have HF1 := Lib.hid hf1
  have c0 := hr1.cell' (j := 1) rfl
  have c2 := hr1.cell' (j := 3) rfl
  have o0 := ho1.cell' (j := 0) rfl
  have o1 := ho1.cell' (j := 1) rfl
  have o2 := ho1.cell' (j := 2) rfl
  have o3 := ho1.cell' (j := 3) rfl
  clear hr1 ho1 hf1
  go_quiet (fail)
  have hfq := HF1.out.drewN nq
  have hrq := HR1.out.drewN nq
  have hoq := HO1.out.drewN nq
  clear c0 c2 o0 o1 o2 o3 HR1 HO1 HF1
  generalize w1.drewN nq = w2 at hfq hrq hoq ⊢
  have HR1 := Lib.hid hrq; have HO1 := Lib.hid hoq; have HF1 := Lib.hid hfq
  have c0 := hrq.cell' (j := 1) rfl
  have c2 := hrq.cell' (j := 3) rfl
  have o0 := hoq.cell' (j := 0) rfl
  have o1 := hoq.cell' (j := 1) rfl
  have o2 := hoq.cell' (j := 2) rfl
  have o3 := hoq.cell' (j := 3) rfl
  have HS2 := Lib.hid (HS.out.fr0 hfq)
  have HSZ := Lib.hid hfq.size
  have hne0 : NoKd w2 (gp :: vp.ownBlock.toList) (55 + 1) := NoKd.cons HS2.out.kds.2.2.1 (by decide) (fun y hy => by rw [HS2.out.kds.2.2.2 y (by simpa using hy)]; decide)
  have hne1 : NoKd w2 (gp :: vp.ownBlock.toList) (74 + 1) := NoKd.cons HS2.out.kds.2.2.1 (by decide) (fun y hy => by rw [HS2.out.kds.2.2.2 y (by simpa using hy)]; decide)
  have HNE0 := Lib.hid hne0; have HNE1 := Lib.hid hne1
  clear hfq hrq hoq hne0 hne1
  go_wp2_with fail
  refine (rfReset_any base gp vp r c L w2 HS2.out.2.1).mono ?_
  rintro e w3 ⟨rfl, hr3, hf3'⟩
  have hf3 : Fr (gp :: vp.ownBlock.toList) w2 w3 := hf3'.mono (fun y hy _ => by simp at hy; simp [hy])
  have e0 := hf3.cell c0 (HNE1.out.not HR1.out.kd)
  have p2 := hf3.cell o2 (HNE0.out.not HO1.out.kd)
  have p3 := hf3.cell o3 (HNE0.out.not HO1.out.kd)
  have PI := Lib.hid (HS2.out.ibx hf3)
  have HF3 := Lib.hid hf3; have HR3 := Lib.hid hr3
  clear hf3 hf3' hr3 c0 c2 o0 o1 o2 o3
  go_wp2_with fail
  refine (reset_anyO g b r c (lk L) w3 PI.out).mono ?_
  rintro e w4 ⟨rfl, hi4, hf4⟩
  have HI4 := Lib.hid hi4; have HF4 := Lib.hid hf4
  clear hi4 hf4
  go_wp2_with fail
  go_ret
  obtain ⟨hs4, hf4⟩ := HS2.out.after HR3.out HI4.out lk_nil (HF4.out.mono (fun y hy _ => by simp at hy; simp [hy])) (InR.nil r) HF3.out
  exact ⟨ret_bool (by simp), _, 0, [], hs4, (HF1.out.nil _).trans1 hf4, .inr fun y hy => by cases hy⟩
end Go.Proofs.Ytjhemoekmlhlpaa
