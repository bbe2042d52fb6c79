/- The walk of jotterlaw09.InboxOrder. -/
import Derived.Test.YtjhemoekmlhlpaaOrdA
import Derived.Deep.DeepCutAuto
import Derived.Deep.LoopGhost
import Derived.Deep.CutBlock
import Derived.Deep.RegionHeld3
namespace Go.Proofs.Ytjhemoekmlhlpaa
open Go Go.RowKit
set_option linter.unusedVariables false

/-- the two inboxes, the array, all that lay before -/
def OrdI (w wr : World) (gs gx bx gy bY : Nat) (L : List Int) (fx fy : Int → Option Int) (cx cy : Nat) : Prop :=
  Row wr gs (SeenR L) 59 ∧ Ibx wr gx bx 20 cx fx ∧ Ibx wr gy bY 20 cy fy ∧ Fr [] w wr ∧ w.heap.size ≤ gs ∧ w.heap.size ≤ gx ∧ w.heap.size ≤ bx ∧ w.heap.size ≤ gy ∧ w.heap.size ≤ bY ∧ gx ≠ gy ∧ bx ≠ bY
section
variable {w wr w' : World} {gs gx bx gy bY cx cy : Nat} {L : List Int} {fx fy fx' fy' : Int → Option Int}
theorem OrdI.fr0 (h : OrdI w wr gs gx bx gy bY L fx fy cx cy) (hf : Fr [] wr w') : OrdI w w' gs gx bx gy bY L fx fy cx cy := by
  obtain ⟨h1, h2, h3, h4, h5⟩ := h
  exact ⟨h1.fr hf (by simp), h2.fr0 hf, h3.fr0 hf, h4.trans0 hf, h5⟩
theorem OrdI.x (h : OrdI w wr gs gx bx gy bY L fx fy cx cy) {cx' : Nat} (hi : Ibx w' gx bx 20 cx' fx') (hf : Fr [gx, bx] wr w') : OrdI w w' gs gx bx gy bY L fx' fy cx' cy := by
  obtain ⟨h1, h2, h3, h4, h5, h6, h7, h8, h9, h10, h11⟩ := h
  have e1 : gs ≠ gx := fun e => by
    subst e
    have a := h1; have b := h2.1
    unfold Row at a b
    rw [a] at b
    exact absurd (Obj.cells.inj (Option.some.inj b)).2.1 (by decide)
  have e2 := h1.neMap h2.2.1
  have e3 := h3.1.neMap h2.2.1
  have e4 := h2.1.neMap h3.2.1
  refine ⟨h1.fr hf (by simp; exact ⟨e1, e2⟩), hi, h3.fr hf (by simp; exact ⟨fun e => h10 e.symm, e3⟩) (by simp; exact ⟨fun e => e4 e.symm, fun e => h11 e.symm⟩), h4.trans hf (fun b hb hlt => ?_), h5, h6, h7, h8, h9, h10, h11⟩
  simp only [List.mem_cons, List.not_mem_nil, or_false] at hb
  rcases hb with rfl | rfl <;> omega
theorem OrdI.y (h : OrdI w wr gs gx bx gy bY L fx fy cx cy) {cy' : Nat} (hi : Ibx w' gy bY 20 cy' fy') (hf : Fr [gy, bY] wr w') : OrdI w w' gs gx bx gy bY L fx fy' cx cy' := by
  obtain ⟨h1, h2, h3, h4, h5, h6, h7, h8, h9, h10, h11⟩ := h
  have e1 : gs ≠ gy := fun e => by
    subst e
    have a := h1; have b := h3.1
    unfold Row at a b
    rw [a] at b
    exact absurd (Obj.cells.inj (Option.some.inj b)).2.1 (by decide)
  have e2 := h1.neMap h3.2.1
  have e3 := h2.1.neMap h3.2.1
  have e4 := h3.1.neMap h2.2.1
  refine ⟨h1.fr hf (by simp; exact ⟨e1, e2⟩), h2.fr hf (by simp; exact ⟨h10, e3⟩) (by simp; exact ⟨fun e => e4 e.symm, h11⟩), hi, h4.trans hf (fun b hb hlt => ?_), h5, h6, h7, h8, h9, h10, h11⟩
  simp only [List.mem_cons, List.not_mem_nil, or_false] at hb
  rcases hb with rfl | rfl <;> omega
theorem fr_map {g b : Nat} (k : Fr [b] wr w') : Fr [g, b] wr w' := k.mono (fun x hx _ => by simp at hx; simp [hx])
/-- a row of ints of the call's own is none of the inboxes' blocks -/
theorem OrdI.ownX (h : OrdI w wr gs gx bx gy bY L fx fy cx cy) {base n : Nat} {v : Value} {xs : List Value} (ho : wr.ownsRow base 3 1 v n xs) (hf : Fr [gx, bx] wr w') : w'.ownsRow base 3 1 v n xs := by
  refine owns_fr ho hf (fun b hb hm => ?_)
  simp only [List.mem_cons, List.not_mem_nil, or_false] at hm
  rcases hm with rfl | rfl
  · exact (h.2.1.1.neOwn ho (by decide)) _ hb rfl
  · exact own_neMap ho h.2.1.2.1 hb
theorem OrdI.ownY (h : OrdI w wr gs gx bx gy bY L fx fy cx cy) {base n : Nat} {v : Value} {xs : List Value} (ho : wr.ownsRow base 3 1 v n xs) (hf : Fr [gy, bY] wr w') : w'.ownsRow base 3 1 v n xs := by
  refine owns_fr ho hf (fun b hb hm => ?_)
  simp only [List.mem_cons, List.not_mem_nil, or_false] at hm
  rcases hm with rfl | rfl
  · exact (h.2.2.1.1.neOwn ho (by decide)) _ hb rfl
  · exact own_neMap ho h.2.2.1.2.1 hb
theorem OrdI.own (h : OrdI w wr gs gx bx gy bY L fx fy cx cy) {base n : Nat} {v : Value} {xs : List Value} (ho : wr.ownsRow base 3 1 v n xs) (hb : w.heap.size ≤ base) (hf : Fr v.ownBlock.toList wr w') : OrdI w w' gs gx bx gy bY L fx fy cx cy := by
  obtain ⟨h1, h2, h3, h4, h5⟩ := h
  have n1 : gs ∉ v.ownBlock.toList := fun hm => (h1.neOwn ho (by decide)) _ (mem_own hm) rfl
  have n2 : gx ∉ v.ownBlock.toList := fun hm => (h2.1.neOwn ho (by decide)) _ (mem_own hm) rfl
  have n3 : gy ∉ v.ownBlock.toList := fun hm => (h3.1.neOwn ho (by decide)) _ (mem_own hm) rfl
  exact ⟨h1.fr hf n1, h2.fr hf n2 (fun hm => own_neMap ho h2.2.1 (mem_own hm)), h3.fr hf n3 (fun hm => own_neMap ho h3.2.1 (mem_own hm)), h4.trans hf (fun b hb2 hlt => by have := ownsRow_base ho _ (mem_own hb2); omega), h5⟩
/-- a number is marked as seen -/
theorem OrdI.seen (h : OrdI w wr gs gx bx gy bY L fx fy cx cy) (n : Nat) : OrdI w (wr.setCell ⟨gs, n, none⟩ (.bool true)) gs gx bx gy bY (L ++ [(n : Int)]) fx fy cx cy ∧ Fr [gs] wr (wr.setCell ⟨gs, n, none⟩ (.bool true)) := by
  have hf : Fr [gs] wr (wr.setCell ⟨gs, n, none⟩ (.bool true)) := (Fr.refl _ wr).setCell _ (fun _ => by simp)
  obtain ⟨h1, h2, h3, h4, h5, h6, h7, h8, h9, h10, h11⟩ := h
  have e1 : gs ≠ gx := fun e => by
    subst e
    have a := h1; have b := h2.1
    unfold Row at a b
    rw [a] at b
    exact absurd (Obj.cells.inj (Option.some.inj b)).2.1 (by decide)
  have e2 : gs ≠ gy := fun e => by
    subst e
    have a := h1; have b := h3.1
    unfold Row at a b
    rw [a] at b
    exact absurd (Obj.cells.inj (Option.some.inj b)).2.1 (by decide)
  have e3 := h1.neMap h2.2.1
  have e4 := h1.neMap h3.2.1
  refine ⟨⟨by rw [← SeenR_set]; exact h1.set n _, h2.fr hf (by simp; exact fun e => e1 e.symm) (by simp; exact fun e => e3 e.symm), h3.fr hf (by simp; exact fun e => e2 e.symm) (by simp; exact fun e => e4 e.symm), h4.trans hf (fun b hb hlt => by simp at hb; omega), h5, h6, h7, h8, h9, h10, h11⟩, hf⟩
end

theorem ownsRow_lower {w : World} {base base' n size : Nat} {e : TypeId} {v : Value} {xs : List Value} (h : w.ownsRow base e size v n xs) (hb : base' ≤ base) : w.ownsRow base' e size v n xs := by
  refine ⟨h.1, ?_⟩
  rcases h.2 with h2 | ⟨g, cap, cur, rfl, h3, h4⟩
  · exact .inl h2
  · exact .inr ⟨g, cap, cur, rfl, by omega, h4⟩
theorem ints_of_owns {w : World} {base n c : Nat} {a : Option Addr} {L : List Int} (h : w.ownsRow base 3 1 (.slice a n c) L.length (is L)) : IntsAt w a L := by
  by_cases hl : 0 < L.length
  · obtain ⟨b, rfl, _, hc⟩ := owns_cells h hl
    exact .inr ⟨b, 0, rfl, fun i hi => by rw [Nat.zero_add]; exact hc i hi⟩
  · exact .inl (List.eq_nil_of_length_eq_zero (by omega))
theorem ordX {w wr : World} {gs gx bx gy bY : Nat} {L : List Int} {fy : Int → Option Int} {i : Nat} (h : OrdI w wr gs gx bx gy bY L (fs (L.take i) 0) fy 0 0) (hnd : L.Nodup) (hbd : ∀ x ∈ L, 1 ≤ x ∧ x ≤ 20) (hi : i < L.length) :
    Calls Try.prog 15 #[.pointer (some ⟨gx, 0, none⟩), .int .i64 L[i], .int .i64 (100 + L[i])] wr fun e w2 => e = .returned (.int .i64 0) ∧ OrdI w w2 gs gx bx gy bY L (fs (L.take (i + 1)) 0) fy 0 0 ∧ Fr [bx] wr w2 := by
  have hb := hbd _ (List.getElem_mem hi)
  have ht := List.take_succ_eq_append_getElem hi
  have hn : L[i] ∉ L.take i := fun hm => by
    have h1 : (L.take (i + 1)).Nodup := hnd.sublist (List.take_sublist _ _)
    rw [ht] at h1
    exact (List.nodup_append.1 h1).2.2 _ hm _ (by simp) rfl
  have hp := fs_put (S := L.take i) hb.1 hb.2 hn
  refine (put_any gx bx 20 0 _ L[i] (100 + L[i]) wr h.2.1 (wfI (by omega) (by omega))).mono ?_
  rintro e w2 ⟨he, hi2, hf2⟩
  rw [hp.1] at he
  rw [hp.2, fs_congr (M := L.take (i + 1)) (fun j _ => by rw [ht, List.mem_append, List.mem_singleton, List.mem_cons]; exact or_comm)] at hi2
  exact ⟨he, h.x hi2 (fr_map hf2), hf2⟩
theorem ordY {w wr : World} {gs gx bx gy bY : Nat} {L : List Int} {fx : Int → Option Int} {i : Nat} (h : OrdI w wr gs gx bx gy bY L fx (fs (L.drop (i + 1)) 0) 0 0) (hnd : L.Nodup) (hbd : ∀ x ∈ L, 1 ≤ x ∧ x ≤ 20) (hi : i < L.length) :
    Calls Try.prog 15 #[.pointer (some ⟨gy, 0, none⟩), .int .i64 L[i], .int .i64 (100 + L[i])] wr fun e w2 => e = .returned (.int .i64 0) ∧ OrdI w w2 gs gx bx gy bY L fx (fs (L.drop i) 0) 0 0 ∧ Fr [bY] wr w2 := by
  have hb := hbd _ (List.getElem_mem hi)
  have ht := List.drop_eq_getElem_cons hi
  have hn : L[i] ∉ L.drop (i + 1) := fun hm => by
    have h1 : (L.drop i).Nodup := hnd.sublist (List.drop_sublist _ _)
    rw [ht] at h1
    exact (List.nodup_cons.1 h1).1 hm
  have hp := fs_put (S := L.drop (i + 1)) hb.1 hb.2 hn
  refine (put_any gy bY 20 0 _ L[i] (100 + L[i]) wr h.2.2.1 (wfI (by omega) (by omega))).mono ?_
  rintro e w2 ⟨he, hi2, hf2⟩
  rw [hp.1] at he
  rw [hp.2, ← ht] at hi2
  exact ⟨he, h.y hi2 (fr_map hf2), hf2⟩

set_option maxRecDepth 100000 in
set_option maxHeartbeats 16000000 in
theorem inboxOrder_walk (b : Option Addr) (Ch : List Int) (cb : Nat) {w : World} (hb : IntsAt w b Ch) (h2 : Ch.length ≤ cb) (m2 : cb ≤ maxLen) (hw2 : ∀ x ∈ Ch, (Lit.int .i64 x).wf = true) (hs2 : Ch.length ≤ 17592186043904) :
    Calls Try.prog 7 #[.slice b Ch.length cb] w fun e w' => e = .returned (.bool true) ∧ Fr [] w w' := by
  obtain ⟨R, hR⟩ : ∃ n, n = Ch.length := ⟨_, rfl⟩
  rw [← hR] at h2 hs2 ⊢
  have HR := Lib.hid hR; have HB := Lib.hid hb; have HW2 := Lib.hid hw2
  have M2 := Lib.hid m2
  clear hR hb hw2 m2
  go_enter Try.func7, Try.ntmps7
  go_wp2_with fail
  refine (fixed_ok _).mono ?_
  rintro e w0 ⟨rfl, hf0⟩
  have HF0 := Lib.hid hf0
  clear hf0
  go_wp2_with fail
  refine (new_ok 20 _ (by omega) (by omega)).mono ?_
  rintro e w1 ⟨gx, bx, rfl, hgx, hbx, hix, hf⟩
  have HIX := Lib.hid hix; have HF1 := Lib.hid (HF0.out.trans0 hf)
  have HGX : Hid (w.heap.size ≤ gx ∧ w.heap.size ≤ bx) := Lib.hid ⟨Nat.le_trans HF0.out.size hgx, Nat.le_trans HF0.out.size hbx⟩
  clear hix hf hgx hbx HF0
  go_wp2_with fail
  refine (new_ok 20 _ (by omega) (by omega)).mono ?_
  rintro e w2 ⟨gy, bY, rfl, hgy, hby, hiy, hf⟩
  have HIY := Lib.hid hiy
  have HGY : Hid (w.heap.size ≤ gy ∧ w.heap.size ≤ bY) := Lib.hid ⟨Nat.le_trans HF1.out.size hgy, Nat.le_trans HF1.out.size hby⟩
  have HNE : Hid (gx ≠ gy ∧ bx ≠ bY) := Lib.hid (by
    have h1 := HIX.out.1.lt
    obtain ⟨_, _, h3⟩ := HIX.out.2.1.block
    have h3 := (Array.getElem?_eq_some_iff.1 h3).1
    exact ⟨by omega, by omega⟩)
  have HIX2 := Lib.hid (HIX.out.fr0 hf); have HF2 := Lib.hid (HF1.out.trans0 hf)
  clear hiy hf hgy hby HIX HF1
  obtain ⟨gs, hgs⟩ : ∃ gs, gs = w2.heap.size := ⟨_, rfl⟩
  have HO : Hid (OrdI w (w2.alloc (.cells (SeenR []).toArray 59)) gs gx bx gy bY [] (fun _ => none) (fun _ => none) 0 0) := Lib.hid (by
    subst hgs
    exact ⟨Row.new w2 (SeenR []) 59, HIX2.out.fr0 ((Fr.refl _ _).alloc _), HIY.out.fr0 ((Fr.refl _ _).alloc _), HF2.out.alloc _, HF2.out.size, HGX.out.1, HGX.out.2, HGY.out.1, HGY.out.2, HNE.out.1, HNE.out.2⟩)
  have HGS := Lib.hid hgs
  clear HIX2 HIY HGX HGY HNE
  go_wp2_with fail
  rw [← hgs]
  clear hgs
  go_loopw [8, 9] (fun lv iv wr => ∃ (i cl : Nat) (al : Option Addr) (L : List Int), lv = .slice al L.length cl ∧ iv = .int .i64 i ∧ i ≤ R ∧ L.length ≤ i ∧ L.length ≤ cl ∧ Hid (OrdI w wr gs gx bx gy bY L (fun _ => none) (fun _ => none) 0 0) ∧ Hid (wr.ownsRow w.heap.size 3 1 (.slice al L.length cl) L.length (is L)) ∧ Hid (L.Nodup ∧ ∀ x ∈ L, 1 ≤ x ∧ x ≤ 20)) (fun _ iv _ => R - (intOf iv).toNat)
  case atStart => exact ⟨0, 0, none, [], rfl, rfl, Nat.zero_le _, Nat.le_refl _, Nat.le_refl _, HO, Lib.hid (World.ownsRow_nil _ _ _ _), Lib.hid ⟨List.nodup_nil, by simp⟩⟩
  case round =>
    clear HO
    obtain ⟨i, cl, al, L, rfl, rfl, hiR, hLi, hLc, HO, HL, HN⟩ := hrel
    obtain ⟨n, hn⟩ : ∃ n, n = L.length := ⟨_, rfl⟩
    rw [← hn] at hLi hLc HL
    rw [← hn]
    have HNL := Lib.hid hn
    clear hn
    by_cases hi : i < R
    · have hjl : i < Ch.length := by have := HR.out; omega
      have hcell : ∃ bb ob, b = some ⟨bb, ob, none⟩ ∧ wr.cell? ⟨bb, ob + i, none⟩ = some (.int .i64 (Ch[i]'hjl)) := (HB.out.fr0 HO.out.2.2.2.1).get i hjl
      obtain ⟨bb, ob, rfl, hcell⟩ := hcell
      have HWJ : Hid ((Lit.int .i64 (Ch[i]'hjl)).wf = true) := Lib.hid (HW2.out _ (List.getElem_mem hjl))
      generalize (Ch[i]'hjl) = c0 at hcell HWJ
      go_wp2_with fail
      refine (within_any c0 1 20 _ (by omega) (by omega) (by omega) HWJ.out).mono ?_
      rintro e w1' ⟨q, rfl, hq1, hq2, _, rfl⟩
      have hseen := HO.out.1.cell' (SeenR_get L q (by omega))
      have hfree := HO.out.1.free q
      by_cases hin : (q : Int) ∈ L
      · rw [decide_eq_true hin] at hseen
        clear hin
        go_wp2_with fail
        go_roundw
        case rel => exact ⟨i + 1, cl, al, L, by rw [HNL.out], by go_num, by omega, by have := HNL.out; omega, by have := HNL.out; omega, HO, Lib.hid (by rw [← HNL.out]; exact HL.out), HN⟩
        case measure => simp [intOf]; omega
      · rw [decide_eq_false hin] at hseen
        have HIN := Lib.hid hin
        obtain ⟨ho5, hf5⟩ := HO.out.seen q
        obtain ⟨w5, hw5⟩ : ∃ w5, w5 = wr.setCell ⟨gs, q, none⟩ (.bool true) := ⟨_, rfl⟩
        rw [← hw5] at ho5 hf5
        have HO5 := Lib.hid ho5
        have HF5 := Lib.hid hf5
        have HL5 : Hid (w5.ownsRow w.heap.size 3 1 (.slice al n cl) n (is L)) := Lib.hid (owns_fr HL.out hf5 (fun b hb hm => by simp at hm; subst hm; exact (HO.out.1.neOwn HL.out (by decide)) _ hb rfl))
        have HW5 := Lib.hid hw5
        clear hin ho5 hf5 hw5
        go_upto_region 15 with fail
        rw [← HW5.out]
        clear hcell hseen hfree
        go_wp2_with (at_builtin; refine wpList_append_at rfl (.tmp 61) (.tmp 63) 23 rfl w.heap.size 3 (.int .i64 0) 1 8 Try.underlying23 infoI rfl (by decide) (.slice al n cl) n (is L) rfl (owns_fr0 HL5.out ((Fr.refl _ _).alloc _)) ⟨w5.heap.size, 0, none⟩ 1 1 [.int .i64 (q : Int)] rfl rfl (lit1 _ _ _) (by intro u hu; simp at hu; subst hu; rfl) (by unfold maxLen; omega) (by omega) (by have := HO5.out.2.2.2.1.size; simp; omega) ?_; intro v' w9 ho9 hf9 hat9; obtain ⟨ag9, cg9, rfl, hcg9, hcg92, _, _⟩ := owns_slice ho9; have HO9 := Lib.hid ho9; have HF9 := Lib.hid hf9; clear ho9 hf9 hat9)
        have HO9' : Hid (OrdI w w9 gs gx bx gy bY (L ++ [(q : Int)]) (fun _ => none) (fun _ => none) 0 0) := Lib.hid ((HO5.out.fr0 ((Fr.refl _ _).alloc _)).own (owns_fr0 HL5.out ((Fr.refl _ _).alloc (.cells #[.int .i64 (q : Int)] 3))) (Nat.le_refl _) HF9.out)
        have hll : (L ++ [(q : Int)]).length = n + 1 := by rw [List.length_append, ← HNL.out]; rfl
        refine ⟨⟨i + 1, cg9, ag9, L ++ [(q : Int)], by rw [hll], by go_num, by omega, by omega, by omega, HO9', Lib.hid (by rw [hll, is_append]; exact HO9.out), Lib.hid ⟨?_, ?_⟩⟩, by simp [intOf]; omega⟩
        · refine List.nodup_append.2 ⟨HN.out.1, by simp, fun x hx y hy => ?_⟩
          simp at hy
          subst hy
          rintro rfl
          exact HIN.out hx
        · intro x hx
          rcases List.mem_append.1 hx with hx | hx
          · exact HN.out.2 x hx
          · simp at hx
            subst hx
            omega
    · have h0 : (fun _ => none : Int → Option Int) = fs (L.take 0) 0 := by funext j; simp [fs]
      have h00 : (fun _ => none : Int → Option Int) = fs (L.drop (n - 0)) 0 := by funext j; rw [Nat.sub_zero, HNL.out]; simp [fs]
      have HO2 : Hid (OrdI w wr gs gx bx gy bY L (fs (L.take 0) 0) (fs (L.drop (n - 0)) 0) 0 0) := Lib.hid (by have := HO.out; rw [← h0, ← h00]; exact this)
      clear h0 h00 HO
      have hnR : n ≤ R := by omega
      go_wp2_with fail
      go_loopw [11] (fun iv wr => ∃ (i : Nat), iv = .int .i64 i ∧ i ≤ n ∧ Hid (OrdI w wr gs gx bx gy bY L (fs (L.take i) 0) (fs (L.drop (n - i)) 0) 0 0) ∧ Hid (wr.ownsRow w.heap.size 3 1 (.slice al n cl) n (is L))) (fun iv _ => n - (intOf iv).toNat)
      case atStart => exact ⟨0, rfl, Nat.zero_le _, HO2, HL⟩
      case round =>
        clear HO2 HL hi hiR hLi
        obtain ⟨i, rfl, hin, HO, HL⟩ := hrel
        by_cases hi : i < n
        · have hil : i < L.length := by have := HNL.out; omega
          obtain ⟨i2, hi2⟩ : ∃ i2, i2 = n - 1 - i := ⟨_, rfl⟩
          have hi2n : i2 < n := by omega
          have hi2l : i2 < L.length := by have := HNL.out; omega
          have hi2i : (n : Int) - 1 - (i : Int) = (i2 : Int) := by omega
          have hown : wr.ownsRow w.heap.size 3 1 (.slice al n cl) L.length (is L) := by rw [← HNL.out]; exact HL.out
          obtain ⟨bl, hal, c1⟩ := owns_get hown i hil
          subst hal
          obtain ⟨bl', hal, c2⟩ := owns_get hown i2 hi2l
          cases hal
          obtain ⟨x, hx⟩ : ∃ x, x = L[i] := ⟨_, rfl⟩
          obtain ⟨y, hy⟩ : ∃ y, y = L[i2] := ⟨_, rfl⟩
          rw [← hx] at c1
          rw [← hy] at c2
          have hxb := HN.out.2 _ (List.getElem_mem hil)
          have hyb := HN.out.2 _ (List.getElem_mem hi2l)
          rw [← hx] at hxb
          rw [← hy] at hyb
          have hdi : n - i = i2 + 1 := by omega
          have hdi2 : n - (i + 1) = i2 := by omega
          have HDI2 := Lib.hid hdi2
          have PX : Hid (∀ w', w' = wr.drew → Calls Try.prog 15 #[.pointer (some ⟨gx, 0, none⟩), .int .i64 x, .int .i64 (100 + x)] w' fun e w2 => e = .returned (.int .i64 0) ∧ OrdI w w2 gs gx bx gy bY L (fs (L.take (i + 1)) 0) (fs (L.drop (i2 + 1)) 0) 0 0 ∧ Fr [bx] wr w2) := Lib.hid (by
            rintro w' rfl
            rw [hx]
            have h1 := HO.out.fr0 (Fr.refl [] wr).drew
            rw [hdi] at h1
            refine (ordX h1 HN.out.1 HN.out.2 hil).mono ?_
            rintro e w2 ⟨he, ho, hf⟩
            exact ⟨he, ho, ((Fr.refl [bx] wr).drew).trans1 hf⟩)
          have PY : Hid (∀ w', OrdI w w' gs gx bx gy bY L (fs (L.take (i + 1)) 0) (fs (L.drop (i2 + 1)) 0) 0 0 → Calls Try.prog 15 #[.pointer (some ⟨gy, 0, none⟩), .int .i64 y, .int .i64 (100 + y)] w' fun e w2 => e = .returned (.int .i64 0) ∧ OrdI w w2 gs gx bx gy bY L (fs (L.take (i + 1)) 0) (fs (L.drop i2) 0) 0 0 ∧ Fr [bY] w' w2) := Lib.hid (by
            intro w' ho
            rw [hy]
            exact ordY ho HN.out.1 HN.out.2 hi2l)
          have hbx : bl ≠ bx := fun e => own_neMap HL.out HO.out.2.1.2.1 (by rw [← e]; rfl)
          have HBX := Lib.hid hbx
          have HBY : Hid (bl ≠ bY) := Lib.hid (fun e => own_neMap HL.out HO.out.2.2.1.2.1 (by rw [← e]; rfl))
          clear hx hy hdi hdi2 hown hbx
          have hwx : IntKind.i64.wrap (100 + x) = 100 + x := IntWalk.i64_in _ (by omega)
          have hwy : IntKind.i64.wrap (100 + y) = 100 + y := IntWalk.i64_in _ (by omega)
          have HI2 := Lib.hid hi2
          clear hi2
          have hw1 : IntKind.i64.wrap ((n : Int) - 1) = (n : Int) - 1 := IntWalk.i64_in _ (by omega)
          have hw2 : IntKind.i64.wrap (i2 : Int) = (i2 : Int) := IntWalk.i64_in _ (by omega)
          have hz2 : (i2 : Int) < (n : Int) := by omega
          have hz1 : (i : Int) < (n : Int) := by omega
          go_upto_region 19 with fail
          go_region_held3 (fun w' => w'.cell? ⟨bl, i, none⟩ = some (.int .i64 x) ∧ w'.cell? ⟨bl, i2, none⟩ = some (.int .i64 y)) (first | exact ⟨c1, c2⟩ | exact ⟨q1, q2⟩ | exact ⟨r1, r2⟩ | go_keep) (first
            | (go_at_call_of 15 (Value.pointer (some ⟨gx, 0, none⟩)); refine (PX.out wr.drew rfl).mono ?_; rintro e w3 ⟨rfl, ho3, hf3⟩; have HO3 := Lib.hid ho3; have q1 : w3.cell? ⟨bl, i, none⟩ = some (.int .i64 x) := hf3.cell c1 (by simpa using HBX.out); have q2 : w3.cell? ⟨bl, i2, none⟩ = some (.int .i64 y) := hf3.cell c2 (by simpa using HBX.out); have HF3 := Lib.hid hf3; clear ho3 hf3)
            | (go_at_call_of 15 (Value.pointer (some ⟨gy, 0, none⟩)); refine (PY.out _ HO3.out).mono ?_; rintro e w4 ⟨rfl, ho4, hf4⟩; have HO4 := Lib.hid ho4; have r1 : w4.cell? ⟨bl, i, none⟩ = some (.int .i64 x) := hf4.cell q1 (by simpa using HBY.out); have r2 : w4.cell? ⟨bl, i2, none⟩ = some (.int .i64 y) := hf4.cell q2 (by simpa using HBY.out); have HF4 := Lib.hid hf4; clear ho4 hf4))
          all_goals go_wp2_with fail
          have HL4 : Hid (w4.ownsRow w.heap.size 3 1 (.slice (some ⟨bl, 0, none⟩) n cl) n (is L)) := Lib.hid (owns_fr (owns_fr HL.out HF3.out (fun b hb hm => by cases hb; simp at hm; exact HBX.out hm)) HF4.out (fun b hb hm => by cases hb; simp at hm; exact HBY.out hm))
          exact ⟨⟨i + 1, by go_num, by omega, Lib.hid (by rw [HDI2.out]; exact HO4.out), HL4⟩, by simp [intOf]; omega⟩
        · have hin2 : i = n := by omega
          have HO2 : Hid (OrdI w wr gs gx bx gy bY L (fs L 0) (fs L 0) 0 0) := Lib.hid (by
            have h1 := HO.out
            rw [hin2, Nat.sub_self, List.drop_zero, HNL.out, List.take_of_length_le (Nat.le_refl _)] at h1
            exact h1)
          clear hin2 HO HL
          go_wp2_with fail
          refine (held_any gx bx 20 0 _ _ HO2.out.2.1).mono ?_
          rintro e w3 ⟨aA, cA, A, rfl, hoA, hpA, hmA, hfA⟩
          have HOA := Lib.hid (HO2.out.fr0 hfA)
          have HRA := Lib.hid hoA
          have HFA := Lib.hid hfA
          have HOX : Hid (w.heap.size ≤ wr.heap.size) := Lib.hid HO2.out.2.2.2.1.size
          have HPA := Lib.hid hpA
          have HMA : Hid (∀ k, k ∈ A ↔ k ∈ L) := Lib.hid (fun k => by rw [hmA, fs_isSome]; exact ⟨fun h => h.1, fun h => ⟨h, by have := HN.out.2 k h; omega⟩⟩)
          clear hoA hfA hpA hmA HO2
          obtain ⟨m, hm⟩ : ∃ m, m = A.length := ⟨_, rfl⟩
          have HM := Lib.hid hm
          have hmn : m = n := by rw [hm, rising_length HPA.out HN.out.1 HMA.out, ← HNL.out]
          rw [← hm] at HRA
          rw [← hm]
          clear hm
          subst hmn
          go_wp2_with fail
          refine (held_any gy bY 20 0 _ _ HOA.out.2.2.1).mono ?_
          rintro e w4 ⟨aB, cB, B, rfl, hoB, hpB, hmB, hfB⟩
          have hBA : B = A := rising_eq hpB HPA.out (fun k => by rw [HMA.out k, hmB, fs_isSome]; exact ⟨fun h => h.1, fun h => ⟨h, by have := HN.out.2 k h; omega⟩⟩)
          subst hBA
          have HOB := Lib.hid (HOA.out.fr0 hfB)
          have HRA2 := Lib.hid (owns_fr0 HRA.out hfB)
          have HRB := Lib.hid hoB
          have HOX2 : Hid (w.heap.size ≤ w3.heap.size) := Lib.hid HOA.out.2.2.2.1.size
          clear hoB hfB hpB hmB HOA HRA
          rw [← HM.out] at HRB
          rw [← HM.out]
          have HIA : Hid (IntsAt w4 aA B) := Lib.hid (ints_of_owns (n := m) (c := cA) (base := w.heap.size) (by rw [← HM.out]; exact ownsRow_lower HRA2.out (by have := HOX.out; omega)))
          have HIB : Hid (IntsAt w4 aB B) := Lib.hid (ints_of_owns (n := m) (c := cB) (base := w.heap.size) (by rw [← HM.out]; exact ownsRow_lower HRB.out (by have := HOX2.out; omega)))
          go_wp2_with fail
          refine (eq_at aA aB B B m m cA cB w4 HM.out HM.out HIA.out HIB.out (by unfold maxLen; omega) (by unfold maxLen; omega) true (by simp)).mono ?_
          rintro e w5 ⟨rfl, ne, hw5⟩
          have hf5 : Fr [] w4 w5 := by rw [hw5]; exact (Fr.refl _ _).drewN ne
          have HO5 := Lib.hid (HOB.out.fr0 hf5)
          have HR5 := Lib.hid (owns_fr0 HRA2.out hf5)
          clear hf5 hw5 HOB HRA2 HRB
          have HBn : Hid (Below' B 0 1) := Lib.hid ⟨Nat.zero_le _, fun j hj h => by omega, fun j hj _ => by have := HN.out.2 _ ((HMA.out _).1 (List.getElem_mem hj)); omega⟩
          clear hi hin
          go_wp2_with fail
          go_loopw [13, 14] (fun kv nv wr => ∃ (k q : Nat), kv = .int .i64 k ∧ nv = .int .i64 q ∧ 1 ≤ q ∧ q ≤ 21 ∧ k ≤ m ∧ Hid (Below' B k q) ∧ Hid (OrdI w wr gs gx bx gy bY L (fs L 0) (fs L 0) 0 0) ∧ Hid (wr.ownsRow w.heap.size 3 1 (.slice aA m cA) m (is B))) (fun _ nv _ => 21 - (intOf nv).toNat)
          case atStart => exact ⟨0, 1, rfl, rfl, by omega, by omega, Nat.zero_le _, HBn, HO5, Lib.hid (ownsRow_lower HR5.out (by have := HOX.out; omega))⟩
          case round =>
            clear HBn HO5 HR5 HIA HIB
            obtain ⟨k, q, rfl, rfl, hq1, hq21, hkm, HBn, HO5, HR5⟩ := hrel
            by_cases hq : q ≤ 20
            · have hseen := HO5.out.1.cell' (SeenR_get L q (by omega))
              by_cases hin : (q : Int) ∈ L
              · rw [decide_eq_true hin] at hseen
                obtain ⟨hk, he, HB2⟩ := HBn.out.there HPA.out ((HMA.out _).2 hin)
                have hkm2 : k < m := by have := HM.out; omega
                have hown : wr.ownsRow w.heap.size 3 1 (.slice aA m cA) B.length (is B) := by rw [← HM.out]; exact HR5.out
                obtain ⟨bl2, hal2, c1⟩ := owns_get hown k hk
                subst hal2
                rw [he] at c1
                have HB3 := Lib.hid HB2
                clear hin he HB2 hown hk
                go_wp2_with fail
                go_roundw
                case rel => exact ⟨k + 1, q + 1, by go_num, by go_num, by omega, by omega, by omega, HB3, HO5, HR5⟩
                case measure => simp [intOf]; omega
              · rw [decide_eq_false hin] at hseen
                have HB3 := Lib.hid (HBn.out.not (fun h => hin ((HMA.out _).1 h)))
                clear hin
                go_wp2_with fail
                go_roundw
                case rel => exact ⟨k, q + 1, rfl, by go_num, by omega, by omega, hkm, HB3, HO5, HR5⟩
                case measure => simp [intOf]; omega
            · clear HBn HR5
              go_wp2_with fail
              go_loopw [15] (fun nv wr => ∃ (c : Nat), nv = .int .i64 ((c + 1 : Nat) : Int) ∧ c ≤ 20 ∧ Hid (OrdI w wr gs gx bx gy bY L (fs L c) (fs L c) c c)) (fun nv _ => 21 - (intOf nv).toNat)
              case atStart => exact ⟨0, rfl, by omega, HO5⟩
              case round =>
                clear HO5 hq hq1 hq21 hkm
                obtain ⟨c, rfl, hc20, HO⟩ := hrel
                obtain ⟨c1, hc1⟩ : ∃ c1, c1 = c + 1 := ⟨_, rfl⟩
                rw [← hc1]
                have HC1 := Lib.hid hc1
                have hc1b : c1 ≤ 21 := by omega
                have hc1a : 1 ≤ c1 := by omega
                clear hc1
                by_cases hc : c1 ≤ 20
                · have hseen := HO.out.1.cell' (SeenR_get L c1 (by omega))
                  by_cases hin : (c1 : Int) ∈ L
                  · rw [decide_eq_true hin] at hseen
                    have HIN := Lib.hid hin
                    clear hin
                    have hsome : fs L c ((c + 1 : Nat) : Int) = some (100 + (c1 : Int)) := by
                      have h1 := HIN.out
                      have h2 := HC1.out
                      rw [h2] at h1 ⊢
                      exact fs_some h1
                    have HSO := Lib.hid hsome
                    clear hsome
                    go_wp2_with fail
                    refine (head_any gx bx 20 c _ _ HO.out.2.1).mono ?_
                    rintro e w6 ⟨he, n6, hw6⟩
                    rw [HSO.out] at he
                    simp only [Option.getD_some, Option.isSome_some] at he
                    subst he
                    have hf6 : Fr [] wr w6 := by rw [hw6]; exact (Fr.refl _ _).drewN n6
                    have HO6 := Lib.hid (HO.out.fr0 hf6)
                    clear hf6 hw6 HO hseen
                    go_wp2_with fail
                    refine (head_any gy bY 20 c _ _ HO6.out.2.2.1).mono ?_
                    rintro e w7 ⟨he, n7, hw7⟩
                    rw [HSO.out] at he
                    simp only [Option.getD_some, Option.isSome_some] at he
                    subst he
                    have hf7 : Fr [] w6 w7 := by rw [hw7]; exact (Fr.refl _ _).drewN n7
                    have HO7 := Lib.hid (HO6.out.fr0 hf7)
                    clear hf7 hw7 HO6
                    go_wp2_with fail
                    refine (pop_any gx bx 20 c _ _ HO7.out.2.1).mono ?_
                    rintro e w8 ⟨hpost, hf8⟩
                    rw [HSO.out, fs_pop] at hpost
                    obtain ⟨rfl, hi8⟩ : e = .returned (.int .i64 0) ∧ Ibx w8 gx bx 20 (c + 1) (fs L (c + 1)) := by
                      rcases hpost with ⟨_, h1, h2⟩ | ⟨h, _⟩
                      · exact ⟨h1, h2⟩
                      · cases h
                    have HO8 := Lib.hid (HO7.out.x hi8 hf8)
                    clear hpost hi8 hf8 HO7
                    go_wp2_with fail
                    refine (pop_any gy bY 20 c _ _ HO8.out.2.2.1).mono ?_
                    rintro e w9 ⟨hpost, hf9⟩
                    rw [HSO.out, fs_pop] at hpost
                    obtain ⟨rfl, hi9⟩ : e = .returned (.int .i64 0) ∧ Ibx w9 gy bY 20 (c + 1) (fs L (c + 1)) := by
                      rcases hpost with ⟨_, h1, h2⟩ | ⟨h, _⟩
                      · exact ⟨h1, h2⟩
                      · cases h
                    have HO9 := Lib.hid (HO8.out.y hi9 hf9)
                    clear hpost hi9 hf9 HO8
                    go_wp2_with fail
                    go_roundw
                    case rel => exact ⟨c + 1, by rw [HC1.out]; go_num, by have := HC1.out; omega, HO9⟩
                    case measure => simp [intOf]; omega
                  · rw [decide_eq_false hin] at hseen
                    clear hin
                    go_wp2_with fail
                    refine (held_any gx bx 20 c _ _ HO.out.2.1).mono ?_
                    rintro e v3 ⟨aX, cX, X, rfl, hoX, hpX, hmX, hfX⟩
                    obtain ⟨mx, hmx⟩ : ∃ mx, mx = X.length := ⟨_, rfl⟩
                    rw [← hmx] at hoX
                    rw [← hmx]
                    have hmc : mx ≤ 9223372036854775807 := by
                      obtain ⟨_, _, hv, h5, h6, _, _⟩ := owns_slice hoX
                      unfold maxLen at h6
                      cases hv
                      omega
                    have HO3 := Lib.hid (HO.out.fr0 hfX)
                    have HRX := Lib.hid hoX
                    have HPX := Lib.hid hpX
                    have HMX := Lib.hid hmX
                    have HML := Lib.hid hmx
                    have HZ := Lib.hid HO.out.2.2.2.1.size
                    clear hoX hpX hmX hfX hmx HO
                    go_wp2_with fail
                    refine (held_any gy bY 20 c _ _ HO3.out.2.2.1).mono ?_
                    rintro e v4 ⟨aY, cY, Y, rfl, hoY, hpY, hmY, hfY⟩
                    have hYX : Y = X := rising_eq hpY HPX.out (fun k => by rw [hmY, HMX.out])
                    subst hYX
                    rw [← HML.out] at hoY
                    rw [← HML.out]
                    have HZ3 := Lib.hid HO3.out.2.2.2.1.size
                    have HO4 := Lib.hid (HO3.out.fr0 hfY)
                    have HRX4 := Lib.hid (owns_fr0 HRX.out hfY)
                    have HIX4 : Hid (IntsAt v4 aX Y) := Lib.hid (ints_of_owns (n := mx) (c := cX) (base := w.heap.size) (by rw [← HML.out]; exact ownsRow_lower HRX4.out (by have := HZ.out; omega)))
                    have HIY4 : Hid (IntsAt v4 aY Y) := Lib.hid (ints_of_owns (n := mx) (c := cY) (base := w.heap.size) (by rw [← HML.out]; exact ownsRow_lower hoY (by have := HZ3.out; omega)))
                    clear hoY hpY hmY hfY HO3 HRX HRX4
                    go_wp2_with fail
                    refine (eq_at aX aY Y Y mx mx cX cY v4 HML.out HML.out HIX4.out HIY4.out (by unfold maxLen; omega) (by unfold maxLen; omega) true (by simp)).mono ?_
                    rintro e v5 ⟨rfl, nz, hv5⟩
                    have hf5 : Fr [] v4 v5 := by rw [hv5]; exact (Fr.refl _ _).drewN nz
                    have HO5 := Lib.hid (HO4.out.fr0 hf5)
                    clear hf5 hv5 HO4 HIX4 HIY4
                    go_wp2_with fail
                    refine (cum_any gx bx 20 c _ _ HO5.out.2.1).mono ?_
                    rintro e v6 ⟨rfl, rfl⟩
                    go_wp2_with fail
                    refine (cum_any gy bY 20 c _ _ HO5.out.2.2.1).mono ?_
                    rintro e v6 ⟨rfl, rfl⟩
                    go_wp2_with fail
                    go_ret
                    exact ⟨rfl, HO5.out.2.2.2.1⟩
                · go_wp2_with fail
                  refine (held_any gx bx 20 c _ _ HO.out.2.1).mono ?_
                  rintro e v3 ⟨aX, cX, X, rfl, hoX, hpX, hmX, hfX⟩
                  obtain ⟨mx, hmx⟩ : ∃ mx, mx = X.length := ⟨_, rfl⟩
                  rw [← hmx] at hoX
                  rw [← hmx]
                  have hmc : mx ≤ 9223372036854775807 := by
                    obtain ⟨_, _, hv, h5, h6, _, _⟩ := owns_slice hoX
                    unfold maxLen at h6
                    cases hv
                    omega
                  have HO3 := Lib.hid (HO.out.fr0 hfX)
                  have HRX := Lib.hid hoX
                  have HPX := Lib.hid hpX
                  have HMX := Lib.hid hmX
                  have HML := Lib.hid hmx
                  have HZ := Lib.hid HO.out.2.2.2.1.size
                  clear hoX hpX hmX hfX hmx HO
                  go_wp2_with fail
                  refine (held_any gy bY 20 c _ _ HO3.out.2.2.1).mono ?_
                  rintro e v4 ⟨aY, cY, Y, rfl, hoY, hpY, hmY, hfY⟩
                  have hYX : Y = X := rising_eq hpY HPX.out (fun k => by rw [hmY, HMX.out])
                  subst hYX
                  rw [← HML.out] at hoY
                  rw [← HML.out]
                  have HZ3 := Lib.hid HO3.out.2.2.2.1.size
                  have HO4 := Lib.hid (HO3.out.fr0 hfY)
                  have HRX4 := Lib.hid (owns_fr0 HRX.out hfY)
                  have HIX4 : Hid (IntsAt v4 aX Y) := Lib.hid (ints_of_owns (n := mx) (c := cX) (base := w.heap.size) (by rw [← HML.out]; exact ownsRow_lower HRX4.out (by have := HZ.out; omega)))
                  have HIY4 : Hid (IntsAt v4 aY Y) := Lib.hid (ints_of_owns (n := mx) (c := cY) (base := w.heap.size) (by rw [← HML.out]; exact ownsRow_lower hoY (by have := HZ3.out; omega)))
                  clear hoY hpY hmY hfY HO3 HRX HRX4
                  go_wp2_with fail
                  refine (eq_at aX aY Y Y mx mx cX cY v4 HML.out HML.out HIX4.out HIY4.out (by unfold maxLen; omega) (by unfold maxLen; omega) true (by simp)).mono ?_
                  rintro e v5 ⟨rfl, nz, hv5⟩
                  have hf5 : Fr [] v4 v5 := by rw [hv5]; exact (Fr.refl _ _).drewN nz
                  have HO5 := Lib.hid (HO4.out.fr0 hf5)
                  clear hf5 hv5 HO4 HIX4 HIY4
                  go_wp2_with fail
                  refine (cum_any gx bx 20 c _ _ HO5.out.2.1).mono ?_
                  rintro e v6 ⟨rfl, rfl⟩
                  go_wp2_with fail
                  refine (cum_any gy bY 20 c _ _ HO5.out.2.2.1).mono ?_
                  rintro e v6 ⟨rfl, rfl⟩
                  go_wp2_with fail
                  go_ret
                  exact ⟨rfl, HO5.out.2.2.2.1⟩
end Go.Proofs.Ytjhemoekmlhlpaa
