/- Contract: outbox.Outbox[int].Ack of a number from acked to sent. -/
import Derived.Test.YtjhemoekmlhlpaaOutc
import Derived.Deep.RegionLaw
namespace Go.Proofs.Ytjhemoekmlhlpaa
open Go Go.RowKit
set_option linter.unusedVariables false

theorem owns_cells {w : World} {base n c : Nat} {a : Option Addr} {L : List Int} (h : w.ownsRow base 3 1 (.slice a n c) L.length (is L)) (hl : 0 < L.length) :
    ∃ b, a = some ⟨b, 0, none⟩ ∧ n = L.length ∧ ∀ k (hk : k < L.length), w.cell? ⟨b, k, none⟩ = some (.int .i64 L[k]) := by
  obtain ⟨b, hb, _⟩ := owns_get h 0 hl
  refine ⟨b, hb, ?_, fun k hk => ?_⟩
  · rcases h.2 with ⟨hv, hn⟩ | ⟨g, cap, cur, hv, _⟩
    · omega
    · simp only [Value.slice.injEq] at hv
      exact hv.2.1
  · obtain ⟨b', hb', hc⟩ := owns_get h k hk
    rw [hb] at hb'
    simp only [Option.some.injEq, Addr.mk.injEq, and_true] at hb'
    obtain rfl := hb'
    exact hc

/-- append onto nil, as a step of a region that draws -/
theorem step_append_nil {P : Program} {ops : Array Oper} {o : Oper} {a : Act} {w : World} {K : Act → World → Prop} {Q : Exit → Act → World → Prop} {E : Prop}
    (hg : o.guard = none) (s x : Operand) (t : TypeId) (hop : o.op = Op.call { callee := Callee.builtin Builtin.append, args := #[s, x], argTypes := #[t, t] })
    (e : TypeId) (z : Value) (size bytes : Nat) (h1 : P.underlying t = some (.slice e)) (hi : (P.info? e).map (fun i => (i.zero, i.size, i.bytes)) = some (some z, size, bytes)) (h6 : z.cells.size = size) (h7 : 0 < size)
    (hs : a.eval s = .slice none 0 0)
    (ad : Addr) (m c : Nat) (news : List Value) (hx : a.eval x = .slice (some ad) m c) (hn : news.length = m * size) (hc : ∀ j u, news[j]? = some u → w.cell? (ad.add j) = some u) (h1c : ∀ u ∈ news, u.oneCell' = true)
    (b1 : 0 + m ≤ maxLen) (b2 : (0 + m) * bytes ≤ 140737488355328)
    (hK : ∀ v' w', w'.ownsRow w.heap.size e size v' (0 + m) ([] ++ news) → Fr [] w w' → K (a.put o.dst v') w') :
    if Region.wanted o (yielded ops a.tmps) = true then Oper.wp P o a w K Q else E := by
  have hw : Region.wanted o (yielded ops a.tmps) = true := by simp [Region.wanted, hg]
  rw [if_pos hw]
  obtain ⟨i, h2, h3, h4, h5⟩ := info_parts hi
  obtain ⟨v', w', hrun, r1, r2, _⟩ := run_append_own (P := P) w w.heap.size t o.type e i z size bytes h1 h2 h3 h4 h5 h6 h7 (.slice none 0 0) 0 [] (World.ownsRow_nil w _ e size) ad m c news hn hc h1c b1 b2 (Nat.le_refl _)
  unfold Oper.wp
  simp [execOp, hop, resolve, invoke, builtin, hs, hx, hrun, Result.andThen]
  exact hK v' w' r1 (Fr.ofGrown r2 (fun b hb _ => by cases hb))

theorem ack_same (base g : Nat) (v : Value) (win acked sent : Nat) (L : List Int) (w : World) (h : Obx w base g v win acked sent L) :
    Calls Try.prog 20 #[.pointer (some ⟨g, 0, none⟩), .int .i64 acked] w fun e w' => e = .returned (.int .i64 0) ∧ w = w' := by
  have c1 := h.1.cell' (j := 1) rfl
  have c2 := h.1.cell' (j := 2) rfl
  have hs := h.2.2.2.2.2.1
  clear h
  go_enter Try.func20, Try.ntmps20
  go_wp2_with fail
  go_ret
  exact ⟨rfl, rfl⟩

set_option maxRecDepth 100000 in
set_option maxHeartbeats 4000000 in
theorem ack_more (base g : Nat) (v : Value) (win acked sent x : Nat) (L : List Int) (w : World) (h : Obx w base g v win acked sent L) (hb : base ≤ w.heap.size) (hx1 : acked < x) (hx2 : x ≤ sent) :
    Calls Try.prog 20 #[.pointer (some ⟨g, 0, none⟩), .int .i64 x] w fun e w' => e = .returned (.int .i64 0) ∧
      ∃ v', Obx w' base g v' win x sent (L.drop (x - acked)) ∧ Fr [g] w w' ∧ (∀ y, v'.ownBlock = some y → w.heap.size ≤ y) := by
  have H := Lib.hid h
  obtain ⟨a, c, rfl, hc1, hc2⟩ := h.slice
  obtain ⟨n, hn⟩ : ∃ n, n = L.length := ⟨_, rfl⟩
  have hcap := h.2.2.2.2.1
  have hsent := h.2.2.2.2.2.2
  rw [← hn] at hcap hc1 hsent
  obtain ⟨d, hd⟩ : ∃ d, d = x - acked := ⟨_, rfl⟩
  have hdi : (x : Int) - (acked : Int) = (d : Int) := by omega
  have hdn : d ≤ n := by omega
  have q1 : IntKind.i64.wrap (d : Int) = (d : Int) := IntWalk.i64_in _ (by omega)
  obtain ⟨bl, rfl, _, hcells⟩ := owns_cells h.2.1 (by omega)
  obtain ⟨A, hA, hAc⟩ : ∃ A : Addr, (if c = d then (some ⟨bl, 0, none⟩ : Option Addr) else some ⟨bl, d, none⟩) = some A ∧ ∀ w2 : World, Fr [] w w2 → ∀ j u, (is (L.drop d))[j]? = some u → w2.cell? (A.add j) = some u := by
    by_cases e : c = d
    · refine ⟨⟨bl, 0, none⟩, if_pos e, fun w2 _ j u hj => ?_⟩
      rw [List.drop_of_length_le (by omega)] at hj
      simp [is] at hj
    · refine ⟨⟨bl, d, none⟩, if_neg e, fun w2 hf j u hj => ?_⟩
      have hjl : j < L.length - d := by
        have := (List.getElem?_eq_some_iff.1 hj).1
        rw [is_length, List.length_drop] at this
        exact this
      have h1 := hf.cell (hcells (d + j) (by omega)) (by simp)
      have h2 : u = .int .i64 (L[d + j]'(by omega)) := by
        simp [is, List.getElem?_drop] at hj
        obtain ⟨y, hy, rfl⟩ := hj
        rw [List.getElem?_eq_getElem (by omega)] at hy
        rw [Option.some.inj hy]
      rw [h2]
      have hadd : (⟨bl, d, none⟩ : Addr).add j = ⟨bl, d + j, none⟩ := by unfold Addr.add; split <;> simp_all
      rw [hadd]
      exact h1
  have c1 := h.1.cell' (j := 1) rfl
  have c2 := h.1.cell' (j := 2) rfl
  have c3 := h.1.cell' (j := 3) rfl
  rw [← hn] at c3
  have HN := Lib.hid hn; have HD := Lib.hid hd; have HAC := Lib.hid hAc; have HB := Lib.hid hb
  have HML : Hid (n - d = (is (L.drop d)).length) := Lib.hid (by rw [is_length, List.length_drop, ← hn])
  have HBS : Hid (base ≤ w.heap.size) := Lib.hid hb
  have hlen : (L.drop d).length = n - d := by rw [List.length_drop, ← hn]
  have FIN : Hid (∀ (w' : World) (a2 : Option Addr) (c2 : Nat), w'.ownsRow w.drew.heap.size 3 1 (.slice a2 (0 + (n - d)) c2) (0 + (n - d)) ([] ++ is (L.drop d)) → Fr [] w w' → Row w' g [.int .i64 win, .int .i64 acked, .int .i64 sent, .slice (some ⟨bl, 0, none⟩) L.length c] 79 →
      Obx ((w'.setCell ⟨g, 3, none⟩ (.slice a2 (n - d) c2)).setCell ⟨g, 1, none⟩ (.int .i64 (x : Int))) base g (.slice a2 (n - d) c2) win x sent (L.drop d) ∧ Fr [g] w ((w'.setCell ⟨g, 3, none⟩ (.slice a2 (n - d) c2)).setCell ⟨g, 1, none⟩ (.int .i64 (x : Int))) ∧ (∀ y, (Value.slice a2 (n - d) c2).ownBlock = some y → w.heap.size ≤ y)) := Lib.hid fun w' a2 c2 ho hf hr => by
    rw [Nat.zero_add, List.nil_append] at ho
    have hne := hr.neOwn ho (by decide)
    have hfr : Fr [g] w' ((w'.setCell ⟨g, 3, none⟩ (.slice a2 (n - d) c2)).setCell ⟨g, 1, none⟩ (.int .i64 (x : Int))) := ((Fr.refl [g] w').setCell (a := ⟨g, 3, none⟩) _ (fun _ => by simp)).setCell (a := ⟨g, 1, none⟩) _ (fun _ => by simp)
    have hb2 := H.out.2.2
    have hob : ∀ y, (Value.slice a2 (n - d) c2).ownBlock = some y → w.heap.size ≤ y := by
      intro y hy
      rcases ho.2 with ⟨hv, _⟩ | ⟨g', cap, cur, hv, hbs, _⟩
      · rw [hv] at hy; cases hy
      · rw [hv] at hy
        obtain rfl := Option.some.inj hy
        exact hbs
    refine ⟨⟨(hr.set 3 _).set 1 _, ?_, hb2.1, hb2.2.1, ?_, hx2, ?_⟩, (hf.nil [g]).trans1 hfr, hob⟩
    · rw [hlen]
      have h2 := owns_fr ho hfr (fun y hy => by simpa using fun e => hne y hy e.symm)
      refine ⟨h2.1, ?_⟩
      rcases h2.2 with h3 | ⟨g', cap, cur, h1, hbs, r⟩
      · exact .inl h3
      · exact .inr ⟨g', cap, cur, h1, Nat.le_trans (by have : w.drew.heap.size = w.heap.size := rfl; omega) hbs, r⟩
    · rw [hlen]; omega
    · rw [hlen]; omega
  rw [← hd]
  clear h hn hcells hAc hd hb hlen
  go_enter Try.func20, Try.ntmps20
  go_wp2_with fail
  have e1 := H.out.1.cell' (j := 1) rfl
  have e3 := H.out.1.cell' (j := 3) rfl
  have HW : Hid (Fr [] w w.drew) := Lib.hid ((Fr.refl _ _).drew)
  go_region_law (refine step_append_nil rfl (.const (.slice none 0 0)) (.tmp 32) 23 rfl 3 (.int .i64 0) 1 8 Try.underlying23 infoI rfl (by decide) (by simp [Act.eval]) A (n - d) (c - d) (is (L.drop d)) (by simp [Act.eval, Act.put]) (by rw [← HML.out]; omega) (HAC.out w.drew HW.out) (is_one _) (by unfold maxLen; omega) (by omega) ?_; intro v' w' ho hf; have hr3 := (H.out.1.drew).fr hf (by simp); obtain ⟨a2, c2, rfl, _, _, _, _⟩ := owns_slice ho; have HO3 := Lib.hid ho; have HF3 := Lib.hid (HW.out.trans0 hf); have HR3 := Lib.hid hr3; have d1 := hr3.cell' (j := 1) rfl; have d3 := hr3.cell' (j := 3) rfl; have f3 := hr3.free 3; have f1 := hr3.free 1; clear ho hf hr3)
  all_goals go_wp2_with fail
  all_goals go_ret
  all_goals exact ⟨rfl, _, FIN.out _ _ _ HO3.out HF3.out HR3.out⟩
end Go.Proofs.Ytjhemoekmlhlpaa
