/- The walk of InboxRuns. -/
import Derived.Test.YtjhemoekmlhlpaaRunD
namespace Go.Proofs.Ytjhemoekmlhlpaa
open Go Go.RowKit
set_option linter.unusedVariables false

/-- an Op's five cells -/
def opC (o : Op9) : List Value := [.int .i64 o.kind, .int .i64 o.slot, .int .i64 o.n, .int .i64 o.v, .slice o.ina o.inl o.inc]
def opCs : List Op9 → List Value
  | [] => []
  | o :: l => opC o ++ opCs l
theorem opCs_length (l : List Op9) : (opCs l).length = l.length * 5 := by
  induction l with
  | nil => rfl
  | cons o l ih => simp [opCs, opC, ih]; omega
theorem opCs_append (l m : List Op9) : opCs (l ++ m) = opCs l ++ opCs m := by
  induction l with
  | nil => rfl
  | cons o l ih => simp [opCs, ih]
theorem opCs_one (l : List Op9) : ∀ v ∈ opCs l, v.oneCell' = true := by
  induction l with
  | nil => simp [opCs]
  | cons o l ih =>
    intro v hv
    simp only [opCs, opC, List.mem_append, List.mem_cons, List.not_mem_nil, or_false] at hv
    rcases hv with (rfl | rfl | rfl | rfl | rfl) | hv
    · rfl
    · rfl
    · rfl
    · rfl
    · rfl
    · exact ih v hv
theorem opCs_get (l : List Op9) (i : Nat) (hi : i < l.length) (q : Nat) (hq : q < 5) : (opCs l)[i * 5 + q]? = (opC l[i])[q]? := by
  induction l generalizing i with
  | nil => simp at hi
  | cons o l ih =>
    have hlen : (opC o).length = 5 := rfl
    cases i with
    | zero =>
      unfold opCs
      rw [List.getElem?_append_left (by omega)]
      simp
    | succ i =>
      unfold opCs
      rw [List.getElem?_append_right (by omega), hlen, show (i + 1) * 5 + q - 5 = i * 5 + q by omega]
      simpa using ih i (by simpa using hi)
theorem Ops9.src {w : World} {a : Option Addr} {l : List Op9} {c : Nat} (h : Ops9 w a l) (hn : a = none → c = 0) : Src w a l.length c (opCs l) := by
  rcases h with rfl | ⟨b, off, rfl, h⟩
  · cases a with
    | none => exact .inl ⟨rfl, rfl, hn rfl, rfl⟩
    | some ad => exact .inr ⟨ad, rfl, fun j u hj => by simp [opCs] at hj⟩
  · refine .inr ⟨_, rfl, fun j u hj => ?_⟩
    have hjl : j < l.length * 5 := by have := (List.getElem?_eq_some_iff.1 hj).1; rwa [opCs_length] at this
    have hadd : (⟨b, off, none⟩ : Addr).add j = ⟨b, off + j, none⟩ := by unfold Addr.add; split <;> simp_all
    rw [hadd]
    have hi : j / 5 < l.length := by omega
    have hq : j % 5 < 5 := by omega
    have e := opCs_get l (j / 5) hi (j % 5) hq
    rw [show j / 5 * 5 + j % 5 = j by omega, hj] at e
    obtain ⟨h0, h1, h2, h3, h4, _⟩ := h (j / 5) hi
    have hj5 : off + j = off + j / 5 * 5 + j % 5 := by omega
    rw [hj5]
    obtain ⟨q, hqq⟩ : ∃ q, q = j % 5 := ⟨_, rfl⟩
    rw [← hqq] at e hq ⊢
    match q, hq with
    | 0, _ => rw [e]; simpa [opC] using h0
    | 1, _ => rw [e]; simpa [opC] using h1
    | 2, _ => rw [e]; simpa [opC] using h2
    | 3, _ => rw [e]; simpa [opC] using h3
    | 4, _ => rw [e]; simpa [opC] using h4
theorem owns_op {w : World} {base n c b : Nat} {l : List Op9} (h : w.ownsRow base 55 5 (.slice (some ⟨b, 0, none⟩) n c) n (opCs l)) (i : Nat) (hi : i < l.length) (q : Nat) (hq : q < 5) (u : Value) (hu : (opC l[i])[q]? = some u) : w.cell? ⟨b, i * 5 + q, none⟩ = some u := by
  have h5 := h.cells (g := b) rfl (i * 5 + q) u (by rw [opCs_get l i hi q hq]; exact hu)
  have hadd : (⟨b, 0, none⟩ : Addr).add (i * 5 + q) = ⟨b, i * 5 + q, none⟩ := by unfold Addr.add; split <;> simp_all
  rwa [hadd] at h5
theorem FrB.own {base bs n size : Nat} {e : TypeId} {v : Value} {xs : List Value} {w w' : World} (h : FrB base w w') (ho : w.ownsRow bs e size v n xs) (he : e + 1 ∉ KS) : w'.ownsRow bs e size v n xs := by
  obtain ⟨S, f, hS⟩ := h
  exact owns_fr ho f fun y hy hm => he (by rw [← own_kd ho y hy]; exact (hS y hm (ho.lt y hy).2).2.1)
theorem OpsD.nil (w : World) (d : Nat) (a : Option Addr) : OpsD w d a 0 := by
  cases d with
  | zero => exact rfl
  | succ d => exact ⟨by omega, [], rfl, .inl rfl, fun i h => absurd h (by simp)⟩
theorem infoOp9 : (Try.prog.info? 55).map (fun i => (i.zero, i.size, i.bytes)) = some (some (.agg #[.int .i64 0, .int .i64 0, .int .i64 0, .int .i64 0, .slice none 0 0]), 5, 56) := by kernel_rfl
theorem built_a (w : World) : (Instr.build 55 #[(0, .int .i64 1), (2, .int .i64 1), (3, .int .i64 77)]).run Try.prog w = .ok (.agg #[.int .i64 1, .int .i64 0, .int .i64 1, .int .i64 77, .slice none 0 0]) w := run_build w _ _ _ (by kernel_rfl)
theorem built_b (w : World) : (Instr.build 55 #[(0, .int .i64 8), (3, .int .i64 1)]).run Try.prog w = .ok (.agg #[.int .i64 8, .int .i64 0, .int .i64 0, .int .i64 1, .slice none 0 0]) w := run_build w _ _ _ (by kernel_rfl)
theorem built_c (w : World) : (Instr.build 55 #[(0, .int .i64 5)]).run Try.prog w = .ok (.agg #[.int .i64 5, .int .i64 0, .int .i64 0, .int .i64 0, .slice none 0 0]) w := run_build w _ _ _ (by kernel_rfl)
def lits3 : List Op9 := [⟨1, 0, 1, 77, none, 0, 0⟩, ⟨8, 0, 0, 1, none, 0, 0⟩, ⟨5, 0, 0, 0, none, 0, 0⟩]

set_option maxRecDepth 100000 in
set_option maxHeartbeats 8000000 in
theorem inboxRuns_walk (x0 : Int) (wx0 : (Lit.int .i64 x0).wf = true) (a : Option Addr) (S : List Op9) (ca : Nat) (h1 : S.length ≤ ca) (m1 : ca * 56 ≤ 140737488351232) (hna : a = none → ca = 0) {w : World} (ha : Ops9 w a S) (d : Nat) (hd : ∀ i (h : i < S.length), OpsD w d S[i].ina S[i].inl) :
    Calls Try.prog 9 #[.int .i64 x0, .slice a S.length ca] w fun e w' => e = .returned (.bool true) ∧ Fr [] w w' := by
  obtain ⟨n, hn⟩ : ∃ n, n = S.length := ⟨_, rfl⟩
  rw [← hn] at h1 ⊢
  have HA := Lib.hid ha; have HN := Lib.hid hn; have HD := Lib.hid hd; have HNA := Lib.hid hna
  have hba := built_a
  have hbb := built_b
  have hbc := built_c
  have PB := Lib.hid (boxed_ok x0 1 w wx0 (by decide))
  have hn2 : n ≤ 2513169434843 := by omega
  have HCA := Lib.hid h1
  clear ha hn hd wx0 m1 hna h1
  go_enter Try.func9, Try.ntmps9
  go_wp2_with fail
  refine PB.out.mono ?_
  rintro e w1 ⟨X, gA, bA, r, rfl, hi1, hf1⟩
  have HI1 := Lib.hid hi1; have HF1 := Lib.hid hf1
  clear hi1 hf1 PB
  go_wp2_with fail
  refine (fixed_ok w1).mono ?_
  rintro e w2 ⟨rfl, hf2⟩
  have hi2 := HI1.out.fr0 hf2
  have HI2 := Lib.hid hi2; have HF2 := Lib.hid (HF1.out.trans0 hf2)
  have c0 : w2.cell? ⟨X, 0, none⟩ = some (ptr gA) := by
    obtain ⟨gB, bB, gp, gq, vp, vq, vL, vW, cA, s, cB, Lp, Lq, xs, ys, ls, h, _⟩ := hi2
    exact h.1.1.cell' (j := 0) rfl
  clear hf2 hi2 HI1 HF1
  go_wp2_with fail
  refine (run_any gA w2).mono ?_
  rintro e w3 ⟨B, rfl, hB, hrB, hf3⟩
  have HI3 := Lib.hid (HI2.out.fr0 hf3); have HF3 := Lib.hid (HF2.out.trans0 hf3); have HRB := Lib.hid hrB
  clear hB hrB hf3 c0 HI2 HF2
  go_wp2_with (at_builtin; refine wpList_append_src rfl (.tmp 31) (.tmp 32) 46 rfl w3.heap.size 55 (.agg #[.int .i64 0, .int .i64 0, .int .i64 0, .int .i64 0, .slice none 0 0]) 5 56 Try.underlying46 infoOp9 rfl (by decide) (.slice (some ⟨w3.heap.size, 0, none⟩) 3 3) 3 (opCs lits3) rfl ⟨rfl, .inr ⟨w3.heap.size, 3, _, rfl, Nat.le_refl _, heap_alloc_new w3 _, Nat.le_refl _, by decide, rfl, rfl⟩⟩ a n ca (opCs S) rfl (by rw [opCs_length, ← HN.out]) (by rw [HN.out]; exact (HA.out.fr0 (HF3.out.alloc _)).src HNA.out) (opCs_one _) (by unfold maxLen; omega) (by omega) (by simp) ?_; intro v4 w4 ho4 hf4 hat4; have HO4 := Lib.hid ho4; have HF4 := Lib.hid hf4; clear ho4 hf4 hat4)
  obtain ⟨N, hN⟩ : ∃ N, N = 3 + n := ⟨_, rfl⟩
  obtain ⟨L, hL⟩ : ∃ L : List Op9, L = lits3 ++ S := ⟨_, rfl⟩
  have hLN : N = L.length := by rw [hL, List.length_append, hN, HN.out]; rfl
  have hprop : ∀ i (h : i < L.length), L[i].fits ∧ OpsD w d L[i].ina L[i].inl := by
    subst hL
    intro i hi
    by_cases h3 : i < 3
    · rw [List.getElem_append_left (show i < lits3.length from h3)]
      match i, h3 with
      | 0, _ => exact ⟨(show (⟨1, 0, 1, 77, none, 0, 0⟩ : Op9).fits from ⟨rfl, rfl, rfl, rfl⟩), OpsD.nil _ _ _⟩
      | 1, _ => exact ⟨(show (⟨8, 0, 0, 1, none, 0, 0⟩ : Op9).fits from ⟨rfl, rfl, rfl, rfl⟩), OpsD.nil _ _ _⟩
      | 2, _ => exact ⟨(show (⟨5, 0, 0, 0, none, 0, 0⟩ : Op9).fits from ⟨rfl, rfl, rfl, rfl⟩), OpsD.nil _ _ _⟩
    · rw [List.getElem_append_right (show lits3.length ≤ i by simpa [lits3] using h3)]
      have hi2 : i - lits3.length < S.length := by rw [List.length_append] at hi; have : lits3.length = 3 := rfl; omega
      exact ⟨by obtain ⟨b, off, _, _, _, _, _, _, hfit⟩ := HA.out.get _ hi2; exact hfit, HD.out _ hi2⟩
  have hN2 : N ≤ 9223372036854775807 := by omega
  have ho4 := HO4.out
  rw [← opCs_append, ← hL, ← hN] at ho4
  have hf34 : Fr [] w3 w4 := ((Fr.refl [] w3).alloc _).trans HF4.out (fun y hy hl => by simp [Value.ownBlock] at hy; omega)
  have HPROP := Lib.hid hprop; have HLN := Lib.hid hLN
  have HI4 := Lib.hid (HI3.out.fr0 hf34); have HF4' := Lib.hid (HF3.out.trans0 hf34); have HB4 := Lib.hid (HRB.out.fr hf34 (by simp))
  obtain ⟨bl, c4, rfl⟩ : ∃ bl c4, v4 = .slice (some ⟨bl, 0, none⟩) N c4 := by
    rcases ho4.2 with ⟨_, h0⟩ | ⟨g, cap, cur, hv, _⟩
    · omega
    · exact ⟨g, cap, hv⟩
  have HO4' := Lib.hid ho4
  clear hN hL hLN hprop ho4 hf34 HO4 HF4 HI3 HF3 HRB HA HD HNA HCA HN hba hbb hbc hn2
  go_loopw [7, 9] (fun kv i wr => ∃ (j B' : Nat), kv = .func (.func 50) #[] #[.pointer (some ⟨B', 0, none⟩)] ∧ i = .int .i64 j ∧ j ≤ N ∧ Hid (BxI [] wr w.heap.size X gA bA r) ∧ Hid (Fr [] w wr) ∧ Hid (wr.ownsRow w3.heap.size 55 5 (.slice (some ⟨bl, 0, none⟩) N c4) N (opCs L)) ∧ Hid (Row wr B' [ptr gA] 29)) (fun _ i _ => N - (intOf i).toNat)
  case atStart => exact ⟨0, B, rfl, rfl, Nat.zero_le _, HI4, HF4', HO4', HB4⟩
  case round =>
    obtain ⟨j, B', rfl, rfl, hj, HI, HF, HO, HB⟩ := hrel
    by_cases hlt : j < N
    · have hjl : j < L.length := by have := HLN.out; omega
      have hpr := HPROP.out j hjl
      have q0 := owns_op HO.out j hjl 0 (by omega) _ rfl
      have q1 := owns_op HO.out j hjl 1 (by omega) _ rfl
      have q2 := owns_op HO.out j hjl 2 (by omega) _ rfl
      have q3 := owns_op HO.out j hjl 3 (by omega) _ rfl
      have q4 := owns_op HO.out j hjl 4 (by omega) _ rfl
      obtain ⟨o, ho⟩ : ∃ o, o = L[j] := ⟨_, rfl⟩
      rw [← ho] at q0 q1 q2 q3 q4 hpr
      obtain ⟨kd1, sl1, num, x, ia, il, ic⟩ := o
      rw [Nat.add_zero] at q0
      have HPR := Lib.hid hpr
      have hjN : (j : Int) < (N : Int) := by omega
      clear ho hpr hjl
      go_upto_region 10 with (go_at_call 32; refine (here_any kd1 sl1 num x ia il ic wr).mono ?_; rintro e w5' ⟨rfl, hf5⟩; have HF5' := Lib.hid hf5; clear hf5)
      have hr5 := Row.new w5' [.int .i64 kd1, .int .i64 0, .int .i64 num, .int .i64 x, .slice ia il ic] 55
      have hf5 := HF5'.out.alloc (.cells #[.int .i64 kd1, .int .i64 0, .int .i64 num, .int .i64 x, .slice ia il ic] 55)
      generalize w5'.alloc (.cells #[.int .i64 kd1, .int .i64 0, .int .i64 num, .int .i64 x, .slice ia il ic] 55) = w5 at hr5 hf5 ⊢
      generalize w5'.heap.size = bt at hr5 ⊢
      have RT := Lib.hid hr5
      have t0 := hr5.cell' (j := 0) rfl
      have t1 := hr5.cell' (j := 1) rfl
      have t2 := hr5.cell' (j := 2) rfl
      have t3 := hr5.cell' (j := 3) rfl
      have t4 := hr5.cell' (j := 4) rfl
      have HI5 := Lib.hid (HI.out.fr0 hf5); have HF5 := Lib.hid (HF.out.trans0 hf5); have HO5 := Lib.hid (owns_fr0 HO.out hf5); have HB5 := Lib.hid (HB.out.fr hf5 (by simp))
      have tX : w5.cell? ⟨X, 0, none⟩ = some (ptr gA) := by
        obtain ⟨gB, bB, gp, gq, vp, vq, vL, vW, cA, s, cB, Lp, Lq, xs, ys, ls, h, _⟩ := HI5.out
        exact h.1.1.cell' (j := 0) rfl
      clear hr5 hf5 q0 q1 q2 q3 q4 HF5' HI HF HO HB HI4 HF4' HO4' HB4
      by_cases h9 : kd1 = 9
      · subst h9
        go_wp2_with (first
          | (go_at_call 31; refine (run_any gA _).mono ?_; rintro e w6 ⟨B6, rfl, hB6, hR6, hf6⟩; have u0 := hf6.cell t0 (by simp); have u1 := hf6.cell t1 (by simp); have u2 := hf6.cell t2 (by simp); have u3 := hf6.cell t3 (by simp); have u4 := hf6.cell t4 (by simp); have uX := hf6.cell tX (by simp); have HI6 := Lib.hid (HI5.out.fr0 hf6); have HF6 := Lib.hid (HF5.out.trans0 hf6); have HO6 := Lib.hid (owns_fr0 HO5.out hf6); have HB6 := Lib.hid (HB5.out.fr hf6 (by simp)); have HR6 := Lib.hid hR6; clear hB6 hR6 hf6)
          | (go_at_call 27; refine (step_ok [] w.heap.size X gA bA r (.slice ia il ic) 9 0 num x _ (by simp) HI6.out HPR.out.1.2.2.1 HPR.out.1.2.2.2).mono ?_; rintro e w7 ⟨rfl, hi7, hfb⟩; have HI7 := Lib.hid hi7; have HF7 := Lib.hid (FrB.fr0 HF6.out hfb); have HO7 := Lib.hid (hfb.own HO6.out (by decide)); have HB7 := Lib.hid (hfb.row HR6.out (by decide)); clear hi7 hfb)
          | (go_at_call 28; refine (calm_ok [] w.heap.size X gA bA r _ HI7.out).mono ?_; rintro e w8 ⟨rfl, nd, hw8⟩; have hf8 : Fr [] w7 w8 := (by rw [hw8]; exact (Fr.refl _ _).drewN _); have HI8 := Lib.hid (HI7.out.fr0 hf8); have HF8 := Lib.hid (HF7.out.trans0 hf8); have HO8 := Lib.hid (owns_fr0 HO7.out hf8); have HB8 := Lib.hid (HB7.out.fr hf8 (by simp)); clear hw8 hf8))
        go_roundw
        case rel => exact ⟨j + 1, _, rfl, by go_num, by omega, HI8, HF8, HO8, HB8⟩
        case measure => simp [intOf]; omega
      · have h91 : (kd1 == 9) = false := by rw [beq_eq_false_iff_ne]; exact h9
        by_cases h8 : kd1 = 8
        · subst h8
          cases hx2 : (x.tmod 2 != 0)
          · go_wp2_with fail
            go_region_held3 (fun w' => w'.cell? ⟨bt, 0, none⟩ = some (.int .i64 8) ∧ w'.cell? ⟨bt, 1, none⟩ = some (.int .i64 0) ∧ w'.cell? ⟨bt, 2, none⟩ = some (.int .i64 num) ∧ w'.cell? ⟨bt, 3, none⟩ = some (.int .i64 x) ∧ w'.cell? ⟨bt, 4, none⟩ = some (.slice ia il ic) ∧ w'.cell? ⟨X, 0, none⟩ = some (ptr gA)) (first | exact ⟨t0, t1, t2, t3, t4, tX⟩ | exact ⟨u0, u1, u2, u3, u4, uX⟩ | exact ⟨v0, v1, v2, v3, v4', vX⟩ | go_keep) (first
              | (go_at_call 31; refine (run_any gA _).mono ?_; rintro e w6 ⟨B6, rfl, hB6, hR6, hf6'⟩; have hf6 : Fr [] w5 w6 := (Fr.refl [] w5).drew.trans0 hf6'; have HRT6 := Lib.hid (RT.out.fr hf6 (by simp)); clear hf6'; have u0 := hf6.cell t0 (by simp); have u1 := hf6.cell t1 (by simp); have u2 := hf6.cell t2 (by simp); have u3 := hf6.cell t3 (by simp); have u4 := hf6.cell t4 (by simp); have uX := hf6.cell tX (by simp); have HI6 := Lib.hid (HI5.out.fr0 hf6); have HF6 := Lib.hid (HF5.out.trans0 hf6); have HO6 := Lib.hid (owns_fr0 HO5.out hf6); have HB6 := Lib.hid (HB5.out.fr hf6 (by simp)); have HR6 := Lib.hid hR6; clear hB6 hR6 hf6)
              | (go_at_call 33; refine (gone_any w X gA bA r d 8 num x ia il ic B6 [] w6 (by simp) HPR.out.2 HI6.out HF6.out HR6.out).mono ?_; rintro e w7 ⟨rfl, hi7, hfb⟩; have HI7 := Lib.hid hi7; have HF7 := Lib.hid (FrB.fr0 HF6.out hfb); have HO7 := Lib.hid (hfb.own HO6.out (by decide)); have HB7 := Lib.hid (hfb.row HB6.out (by decide)); have rt7 := hfb.row HRT6.out (by decide); have v0 := rt7.cell' (j := 0) rfl; have v1 := rt7.cell' (j := 1) rfl; have v2 := rt7.cell' (j := 2) rfl; have v3 := rt7.cell' (j := 3) rfl; have v4' := rt7.cell' (j := 4) rfl; have vX : w7.cell? ⟨X, 0, none⟩ = some (ptr gA) := (by obtain ⟨gB, bB, gp, gq, vp, vq, vL, vW, cA, s, cB, Lp, Lq, xs, ys, ls, h, _⟩ := HI7.out; exact h.1.1.cell' (j := 0) rfl); clear hi7 hfb rt7))
            go_wp2_with (go_at_call 28; refine (calm_ok [] w.heap.size X gA bA r _ HI7.out).mono ?_; rintro e w8 ⟨rfl, nd, hw8⟩; have hf8 : Fr [] w7 w8 := (by rw [hw8]; exact (Fr.refl _ _).drewN _); have HI8 := Lib.hid (HI7.out.fr0 hf8); have HF8 := Lib.hid (HF7.out.trans0 hf8); have HO8 := Lib.hid (owns_fr0 HO7.out hf8); have HB8 := Lib.hid (HB7.out.fr hf8 (by simp)); clear hw8 hf8)
            go_roundw
            case rel => exact ⟨j + 1, _, rfl, by go_num, by omega, HI8, HF8, HO8, HB8⟩
            case measure => simp [intOf]; omega
          · go_wp2_with (first
              | (go_at_call 33; refine (gone_any w X gA bA r d 8 num x ia il ic B' [] _ (by simp) HPR.out.2 HI5.out HF5.out HB5.out).mono ?_; rintro e w7 ⟨rfl, hi7, hfb⟩; have HI7 := Lib.hid hi7; have HF7 := Lib.hid (FrB.fr0 HF5.out hfb); have HO7 := Lib.hid (hfb.own HO5.out (by decide)); have HB7 := Lib.hid (hfb.row HB5.out (by decide)); clear hi7 hfb)
              | (go_at_call 28; refine (calm_ok [] w.heap.size X gA bA r _ HI7.out).mono ?_; rintro e w8 ⟨rfl, nd, hw8⟩; have hf8 : Fr [] w7 w8 := (by rw [hw8]; exact (Fr.refl _ _).drewN _); have HI8 := Lib.hid (HI7.out.fr0 hf8); have HF8 := Lib.hid (HF7.out.trans0 hf8); have HO8 := Lib.hid (owns_fr0 HO7.out hf8); have HB8 := Lib.hid (HB7.out.fr hf8 (by simp)); clear hw8 hf8))
            go_roundw
            case rel => exact ⟨j + 1, _, rfl, by go_num, by omega, HI8, HF8, HO8, HB8⟩
            case measure => simp [intOf]; omega
        · have h81 : (kd1 == 8) = false := by rw [beq_eq_false_iff_ne]; exact h8
          go_wp2_with (first
            | (go_at_call 27; refine (step_ok [] w.heap.size X gA bA r (.slice ia il ic) kd1 0 num x _ (by simp) HI5.out HPR.out.1.2.2.1 HPR.out.1.2.2.2).mono ?_; rintro e w7 ⟨rfl, hi7, hfb⟩; have HI7 := Lib.hid hi7; have HF7 := Lib.hid (FrB.fr0 HF5.out hfb); have HO7 := Lib.hid (hfb.own HO5.out (by decide)); have HB7 := Lib.hid (hfb.row HB5.out (by decide)); clear hi7 hfb)
            | (go_at_call 28; refine (calm_ok [] w.heap.size X gA bA r _ HI7.out).mono ?_; rintro e w8 ⟨rfl, nd, hw8⟩; have hf8 : Fr [] w7 w8 := (by rw [hw8]; exact (Fr.refl _ _).drewN _); have HI8 := Lib.hid (HI7.out.fr0 hf8); have HF8 := Lib.hid (HF7.out.trans0 hf8); have HO8 := Lib.hid (owns_fr0 HO7.out hf8); have HB8 := Lib.hid (HB7.out.fr hf8 (by simp)); clear hw8 hf8))
          go_roundw
          case rel => exact ⟨j + 1, _, rfl, by go_num, by omega, HI8, HF8, HO8, HB8⟩
          case measure => simp [intOf]; omega
    · obtain ⟨gB, bB, gp, gq, vp, vq, vL, vW, cA, s, cB, Lp, Lq, xs, ys, ls, hP, _⟩ := HI.out
      have a0 := hP.1.1.cell' (j := 0) rfl
      have a2 := hP.1.1.cell' (j := 2) rfl
      have HP := Lib.hid (hP.fr0 (Fr.refl [] wr).drew); have HF0 := Lib.hid HF.out.drew
      clear hP HI4 HF4' HO4' HB4 HI HF HO HB
      go_wp2_with fail
      go_region_held3 (fun w' => w'.cell? ⟨X, 0, none⟩ = some (ptr gA) ∧ w'.cell? ⟨X, 2, none⟩ = some (ptr gp)) (first | exact ⟨a0, a2⟩ | exact ⟨b0, b2⟩ | exact ⟨c0, c2⟩ | go_keep) (first
        | (go_at_call 29; refine (head0_any w.heap.size X gA bA gB gp gq vp vL vW r cA Lp _ HP.out.1.1 HP.out.2.2.1).mono ?_; rintro e w5 ⟨rfl, hf5⟩; have HP5 := Lib.hid (HP.out.fr0 hf5); have HF5 := Lib.hid (HF0.out.trans0 hf5); have b0 := HP5.out.1.1.cell' (j := 0) rfl; have b2 := HP5.out.1.1.cell' (j := 2) rfl; clear hf5)
        | (go_at_call 30; refine (held0_any w.heap.size X gA bA gB bB gp gq vp vq vL vW r cA s cB Lp Lq xs ys ls w5 HP5.out.1 HP5.out.2.2.1 HP5.out.2.2.2.1 HP5.out.2.2.2.2.2.2 HP5.out.2.2.2.2.2.1.1 HP5.out.2.1).mono ?_; rintro e w6 ⟨rfl, ⟨vL', vW', xs', ys', ls', hb6, _⟩, hf6⟩; have HF6 := Lib.hid (FrB.fr0 HF5.out (FrB.ofK hf6 (by decide) (by decide))); have c0 := hb6.1.cell' (j := 0) rfl; have c2 := hb6.1.cell' (j := 2) rfl; have HPA := Lib.hid (HP5.out.2.2.1.frK hf6); clear hb6 hf6)
        | (go_at_call 18; refine (cum_any gA bA r cA _ w6 HPA.out.1).mono ?_; rintro e w7 ⟨rfl, hw7⟩; subst hw7)
        | (go_at_call 34; refine (rfCum_any w.heap.size gp vp r cA Lp w6 HPA.out.2.1).mono ?_; rintro e w8 ⟨rfl, hw8⟩; subst hw8))
      all_goals go_wp2_with fail
      all_goals go_ret
      all_goals exact ⟨ret_bool (by simp), HF6.out⟩
end Go.Proofs.Ytjhemoekmlhlpaa
