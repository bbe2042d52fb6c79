/- Contracts: outbox.Outbox[int]: first, Due, Ack. -/
import Derived.Test.YtjhemoekmlhlpaaOutb
namespace Go.Proofs.Ytjhemoekmlhlpaa
open Go Go.RowKit
set_option linter.unusedVariables false

/-- what is due: the numbers from acked + 1 on, each with its thing -/
def items (acked : Nat) : List Int → List Value
  | [] => []
  | x :: L => .int .i64 ((acked + 1 : Nat) : Int) :: .int .i64 x :: items (acked + 1) L
theorem items_length (acked : Nat) (L : List Int) : (items acked L).length = 2 * L.length := by
  induction L generalizing acked with
  | nil => rfl
  | cons x L ih => simp [items, ih]; omega
theorem items_append (acked : Nat) (L M : List Int) : items acked (L ++ M) = items acked L ++ items (acked + L.length) M := by
  induction L generalizing acked with
  | nil => rfl
  | cons x L ih => simp [items, ih]; congr 1; omega
theorem infoItem : (Try.prog.info? 37).map (fun i => (i.zero, i.size, i.bytes)) = some (some (.agg #[.int .i64 0, .int .i64 0]), 2, 16) := by kernel_rfl

theorem lit2 (w : World) (u v : Value) (T : TypeId) : ∀ j y, [u, v][j]? = some y → (w.alloc (.cells #[u, v] T)).cell? ((⟨w.heap.size, 0, none⟩ : Addr).add j) = some y := by
  intro j y hj
  match j, hj with
  | 0, hj => simp at hj; subst hj; simp [Addr.add]
  | 1, hj => simp at hj; subst hj; simp [Addr.add]
theorem _root_.Go.World.ownsRow.slice2 {w : World} {base : Nat} {e : TypeId} {size n : Nat} {v : Value} {xs : List Value} (h : w.ownsRow base e size v n xs) : ∃ a c, v = .slice a n c ∧ n ≤ c := by
  rcases h.2 with ⟨rfl, rfl⟩ | ⟨g, cap, cur, rfl, hb, hg, hn, hc, _, _⟩
  · exact ⟨none, 0, rfl, Nat.le_refl _⟩
  · exact ⟨_, cap, rfl, hn⟩
theorem owns_get {w : World} {base n c : Nat} {a : Option Addr} {L : List Int} (h : w.ownsRow base 3 1 (.slice a n c) L.length (is L)) (k : Nat) (hk : k < L.length) :
    ∃ b, a = some ⟨b, 0, none⟩ ∧ w.cell? ⟨b, k, none⟩ = some (.int .i64 L[k]) := by
  rcases h.2 with ⟨_, hn⟩ | ⟨g, cap, cur, hv, hb, hg, hn, hc, _, ht⟩
  · omega
  · simp only [Value.slice.injEq] at hv
    obtain ⟨rfl, _, _⟩ := hv
    refine ⟨g, rfl, ?_⟩
    have hrow : Row w g cur.toList 3 := by unfold Row; simpa using hg
    rw [hrow.cell k]
    have h1 : (cur.toList.take (L.length * 1))[k]? = some (.int .i64 L[k]) := by
      rw [ht]
      simp [is, hk]
    rw [List.getElem?_take, if_pos (by omega)] at h1
    exact h1

set_option maxRecDepth 100000 in
set_option maxHeartbeats 4000000 in
theorem first_any (base g : Nat) (v : Value) (win acked sent m : Nat) (L : List Int) (w : World) (h : Obx w base g v win acked sent L) (hm : m ≤ L.length) :
    Calls Try.prog 36 #[.pointer (some ⟨g, 0, none⟩), .int .i64 m] w fun e w' => ∃ a c, e = .returned (.slice a m c) ∧ w'.ownsRow w.heap.size 37 2 (.slice a m c) m (items acked (L.take m)) ∧ Fr [] w w' := by
  have H := Lib.hid h
  obtain ⟨a, c, rfl, hc1, hc2⟩ := h.slice
  obtain ⟨n, hn⟩ : ∃ n, n = L.length := ⟨_, rfl⟩
  have hb := h.2.2.2.2.1
  rw [← hn] at hm hb hc1
  have HN := Lib.hid hn
  obtain ⟨i0, hi, hz0, hz1, hz2⟩ := info_parts infoItem
  have HI := Lib.hid hi; have HZ0 := Lib.hid hz0; have HZ1 := Lib.hid hz1; have HZ2 := Lib.hid hz2
  have c3 := h.1.cell' (j := 3) rfl
  rw [← hn] at c3
  clear h hn hi hz0 hz1 hz2
  have hm4 : m ≤ 4096 := by omega
  go_enter Try.func36, Try.ntmps36
  go_wp2_with (refine wpList_make_own _ rfl _ _ 34 rfl w.heap.size 37 i0 _ 2 Try.underlying34 HI.out HZ0.out HZ1.out .i64 .i64 (m : Int) m rfl rfl rfl (by rw [HZ2.out]; omega) (by unfold maxLen; omega) (Nat.le_refl _) ?_; intro w2 ho hg; have HO := Lib.hid ho; have HG : Hid (Fr [] w w2) := Lib.hid (Fr.ofGrown hg (fun b hb => by cases hb)); have d3 := HG.out.cell c3 (by simp); clear ho hg)
  have HX : Hid (∀ w2, Fr [] w w2 → Obx w2 base g (.slice a L.length c) win acked sent L) := Lib.hid fun w2 hf => H.out.fr0 hf
  clear d3 c3
  go_loopw [5, 17] (fun l i wr => ∃ (k cl : Nat) (al : Option Addr), l = .slice al k cl ∧ i = .int .i64 k ∧ k ≤ m ∧ Hid (wr.ownsRow w.heap.size 37 2 (.slice al k cl) k (items acked (L.take k))) ∧ Hid (Fr [] w wr)) (fun _ i _ => m - (intOf i).toNat)
  case atStart => exact ⟨0, m, _, rfl, rfl, Nat.zero_le _, Lib.hid (by simpa [items] using HO.out), HG⟩
  case round =>
    clear HO HG
    obtain ⟨k, cl, al, rfl, rfl, hk, HO, HG⟩ := hrel
    by_cases hlt : k < m
    · have c1 := (HX.out _ HG.out).1.cell' (j := 1) rfl
      obtain ⟨bl, hbl, hcell⟩ := owns_get (HX.out _ HG.out).2.1 k (by have := HN.out; omega)
      obtain ⟨x, hx⟩ : ∃ x, x = L[k]'(by have := HN.out; omega) := ⟨_, rfl⟩
      rw [← hx] at hcell
      have HXX := Lib.hid hx
      obtain ⟨p, hp⟩ : ∃ p, p = acked + 1 + k := ⟨_, rfl⟩
      have hpi : (acked : Int) + 1 + (k : Int) = (p : Int) := by omega
      have hp2 : p ≤ 4096 := by omega
      have HP := Lib.hid hp
      clear hp hx
      subst hbl
      have HST : Hid (items acked (L.take (k + 1)) = items acked (L.take k) ++ [.int .i64 p, .int .i64 x]) := Lib.hid (by
        rw [List.take_succ_eq_append_getElem (by have := HN.out; omega), items_append, List.length_take, Nat.min_eq_left (by have := HN.out; omega), ← HXX.out]
        simp only [items]
        rw [show acked + k + 1 = p by have := HP.out; omega])
      go_wp2_with (at_builtin; refine wpList_append_at rfl (.tmp 22) (.tmp 32) 34 rfl w.heap.size 37 (.agg #[.int .i64 0, .int .i64 0]) 2 16 Try.underlying34 infoItem rfl (by decide) (.slice al k cl) k (items acked (L.take k)) rfl (owns_fr0 HO.out ((Fr.refl _ _).alloc _)) ⟨wr.heap.size, 0, none⟩ 1 1 [.int .i64 p, .int .i64 x] rfl rfl (lit2 _ _ _ _) (by intro u hu; simp at hu; rcases hu with rfl | rfl <;> rfl) (by unfold maxLen; omega) (by omega) (by have := HG.out.size; simp; omega) ?_; intro v' w3 ho3 hf3 _; have HO3 := Lib.hid ho3; have HF3 := Lib.hid ((HG.out.alloc _).own (Nat.le_refl _) (owns_fr0 HO.out ((Fr.refl _ _).alloc _)) hf3); clear ho3 hf3)
      obtain ⟨al2, cl2, rfl, _⟩ := HO3.out.slice2
      go_wp2_with fail
      go_roundw
      case rel => exact ⟨k + 1, cl2, al2, rfl, by go_num, by omega, Lib.hid (by rw [HST.out]; exact HO3.out), HF3⟩
      case measure => simp [intOf]; omega
    · have hkm : k = m := by omega
      have HK := Lib.hid hkm
      clear hkm
      go_wp2_with fail
      go_ret
      have ho := HO.out
      rw [HK.out] at ho
      exact ⟨al, cl, by rw [← HK.out]; rfl, ho, HG.out⟩

set_option maxRecDepth 100000 in
set_option maxHeartbeats 4000000 in
theorem due_any (base g : Nat) (v : Value) (win acked sent : Nat) (L : List Int) (w : World) (h : Obx w base g v win acked sent L) :
    Calls Try.prog 14 #[.pointer (some ⟨g, 0, none⟩)] w fun e w' => ∃ a c, e = .returned (.slice a (min win L.length) c) ∧ w'.ownsRow w.heap.size 37 2 (.slice a (min win L.length) c) (min win L.length) (items acked (L.take (min win L.length))) ∧
      Obx w' base g v win acked (acked + min win L.length) L ∧ Fr [g] w w' := by
  have H := Lib.hid h
  obtain ⟨a, c, rfl, hc1, hc2⟩ := h.slice
  obtain ⟨n, hn⟩ : ∃ n, n = L.length := ⟨_, rfl⟩
  have hb := h.2.2.2.2.1
  have hwin := h.2.2.2.1
  have hsent := h.2.2.2.2.2.2
  rw [← hn] at hb hc1 hsent
  have c0 := h.1.cell' (j := 0) rfl
  have c1 := h.1.cell' (j := 1) rfl
  have c2 := h.1.cell' (j := 2) rfl
  have c3 := h.1.cell' (j := 3) rfl
  have f2 := h.1.free 2
  rw [← hn] at c3 ⊢
  have HN := Lib.hid hn
  clear h hn
  by_cases hlt : n < win
  · have hmin : min win n = n := by omega
    rw [hmin]
    have hm : n ≤ n := by omega
    obtain ⟨q, hq⟩ : ∃ q, q = acked + n := ⟨_, rfl⟩
    have hqi : (acked : Int) + (n : Int) = (q : Int) := by omega
    have hsq : sent ≤ q := by omega
    have hq4 : q ≤ 4096 := by omega
    have q1 : IntKind.i64.wrap (q : Int) = (q : Int) := IntWalk.i64_in _ (by omega)
    have HMIN := Lib.hid hmin
    have HQ := Lib.hid hq
    rw [← hq]
    clear hmin hsent hq
    have HL : Hid (n ≤ L.length) := Lib.hid (by rw [← HN.out]; exact hm)
    go_enter Try.func14, Try.ntmps14
    go_wp2_with fail
    go_quiet (fail)
    go_wp2_with fail
    obtain ⟨wq, hwq⟩ : ∃ wq, wq = w.drewN nq := ⟨_, rfl⟩
    rw [← hwq]
    have HO : Hid (Obx wq base g (.slice a L.length c) win acked sent L) := Lib.hid (by rw [hwq]; exact H.out.drewN nq)
    have HF : Hid (Fr [g] w wq) := Lib.hid (by rw [hwq]; exact (Fr.refl _ _).drewN nq)
    clear hwq c0 c1 c2 c3 f2
    have c1 := HO.out.1.cell' (j := 1) rfl
    have c2 := HO.out.1.cell' (j := 2) rfl
    have hite : (if sent < q then (q : Int) else (sent : Int)) = (q : Int) := by split <;> omega
    go_still_tail 14, (by kernel_rfl)
    change wpList _ _ _ _ _ wq.drew
    obtain ⟨w3, hw3⟩ : ∃ w3, w3 = wq.drew := ⟨_, rfl⟩
    rw [← hw3]
    have HO3 : Hid (Obx w3 base g (.slice a L.length c) win acked sent L) := Lib.hid (by rw [hw3]; exact HO.out)
    have HF3 : Hid (Fr [g] w w3) := Lib.hid (by rw [hw3]; exact HF.out.drew)
    clear hw3 c1 c2
    have c2 := HO3.out.1.cell' (j := 2) rfl
    have f2 := HO3.out.1.free 2
    go_wp2_with fail
    obtain ⟨w4, hw4⟩ : ∃ w4, w4 = w3.setCell ⟨g, 2, none⟩ (.int .i64 (q : Int)) := ⟨_, rfl⟩
    have HO4 : Hid (Obx w4 base g (.slice a L.length c) win acked q L) := Lib.hid (by
      rw [hw4]
      have hne := HO3.out.1.neOwn HO3.out.2.1 (by decide)
      have hb := H.out.2.2
      refine ⟨HO3.out.1.set 2 _, owns_fr HO3.out.2.1 ((Fr.refl [g] w3).setCell (a := ⟨g, 2, none⟩) _ (fun _ => by simp)) (fun y hy => by simpa using fun e => hne y hy e.symm), hb.1, hb.2.1, hb.2.2.1, ?_, ?_⟩
      · have := HQ.out; omega
      · have := HQ.out; rw [← HN.out, HMIN.out]; omega)
    have HF4 : Hid (Fr [g] w w4) := Lib.hid (by rw [hw4]; exact HF3.out.setCell (a := ⟨g, 2, none⟩) _ (fun _ => by simp))
    rw [← hw4]
    clear hw4 c2 f2
    refine (first_any base g _ win acked q n L _ HO4.out HL.out).mono ?_
    rintro e w5 ⟨a5, c5, rfl, ho5, hf5⟩
    have HO5 := Lib.hid ho5; have HF5 := Lib.hid hf5
    clear ho5 hf5
    go_wp2_with fail
    go_ret
    refine ⟨a5, c5, rfl, ?_, by rw [HN.out]; exact HO4.out.fr0 HF5.out, HF4.out.trans0 HF5.out⟩
    have h5 := HO5.out
    refine ⟨h5.1, ?_⟩
    rcases h5.2 with h2 | ⟨g', cap, cur, h1, hb, r⟩
    · exact .inl h2
    · exact .inr ⟨g', cap, cur, h1, Nat.le_trans HF4.out.size hb, r⟩
  · have hmin : min win n = win := by omega
    rw [hmin]
    have hm : win ≤ n := by omega
    obtain ⟨q, hq⟩ : ∃ q, q = acked + win := ⟨_, rfl⟩
    have hqi : (acked : Int) + (win : Int) = (q : Int) := by omega
    have hsq : sent ≤ q := by omega
    have hq4 : q ≤ 4096 := by omega
    have q1 : IntKind.i64.wrap (q : Int) = (q : Int) := IntWalk.i64_in _ (by omega)
    have HMIN := Lib.hid hmin
    have HQ := Lib.hid hq
    rw [← hq]
    clear hmin hsent hq
    have HL : Hid (win ≤ L.length) := Lib.hid (by rw [← HN.out]; exact hm)
    go_enter Try.func14, Try.ntmps14
    go_wp2_with fail
    go_quiet (fail)
    go_wp2_with fail
    obtain ⟨wq, hwq⟩ : ∃ wq, wq = w.drewN nq := ⟨_, rfl⟩
    rw [← hwq]
    have HO : Hid (Obx wq base g (.slice a L.length c) win acked sent L) := Lib.hid (by rw [hwq]; exact H.out.drewN nq)
    have HF : Hid (Fr [g] w wq) := Lib.hid (by rw [hwq]; exact (Fr.refl _ _).drewN nq)
    clear hwq c0 c1 c2 c3 f2
    have c1 := HO.out.1.cell' (j := 1) rfl
    have c2 := HO.out.1.cell' (j := 2) rfl
    have hite : (if sent < q then (q : Int) else (sent : Int)) = (q : Int) := by split <;> omega
    go_still_tail 14, (by kernel_rfl)
    change wpList _ _ _ _ _ wq.drew
    obtain ⟨w3, hw3⟩ : ∃ w3, w3 = wq.drew := ⟨_, rfl⟩
    rw [← hw3]
    have HO3 : Hid (Obx w3 base g (.slice a L.length c) win acked sent L) := Lib.hid (by rw [hw3]; exact HO.out)
    have HF3 : Hid (Fr [g] w w3) := Lib.hid (by rw [hw3]; exact HF.out.drew)
    clear hw3 c1 c2
    have c2 := HO3.out.1.cell' (j := 2) rfl
    have f2 := HO3.out.1.free 2
    go_wp2_with fail
    obtain ⟨w4, hw4⟩ : ∃ w4, w4 = w3.setCell ⟨g, 2, none⟩ (.int .i64 (q : Int)) := ⟨_, rfl⟩
    have HO4 : Hid (Obx w4 base g (.slice a L.length c) win acked q L) := Lib.hid (by
      rw [hw4]
      have hne := HO3.out.1.neOwn HO3.out.2.1 (by decide)
      have hb := H.out.2.2
      refine ⟨HO3.out.1.set 2 _, owns_fr HO3.out.2.1 ((Fr.refl [g] w3).setCell (a := ⟨g, 2, none⟩) _ (fun _ => by simp)) (fun y hy => by simpa using fun e => hne y hy e.symm), hb.1, hb.2.1, hb.2.2.1, ?_, ?_⟩
      · have := HQ.out; omega
      · have := HQ.out; rw [← HN.out, HMIN.out]; omega)
    have HF4 : Hid (Fr [g] w w4) := Lib.hid (by rw [hw4]; exact HF3.out.setCell (a := ⟨g, 2, none⟩) _ (fun _ => by simp))
    rw [← hw4]
    clear hw4 c2 f2
    refine (first_any base g _ win acked q win L _ HO4.out HL.out).mono ?_
    rintro e w5 ⟨a5, c5, rfl, ho5, hf5⟩
    have HO5 := Lib.hid ho5; have HF5 := Lib.hid hf5
    clear ho5 hf5
    go_wp2_with fail
    go_ret
    refine ⟨a5, c5, rfl, ?_, by rw [HN.out]; exact HO4.out.fr0 HF5.out, HF4.out.trans0 HF5.out⟩
    have h5 := HO5.out
    refine ⟨h5.1, ?_⟩
    rcases h5.2 with h2 | ⟨g', cap, cur, h1, hb, r⟩
    · exact .inl h2
    · exact .inr ⟨g', cap, cur, h1, Nat.le_trans HF4.out.size hb, r⟩
end Go.Proofs.Ytjhemoekmlhlpaa
