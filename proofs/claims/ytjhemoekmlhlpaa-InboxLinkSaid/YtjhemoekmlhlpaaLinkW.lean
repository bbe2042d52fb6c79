/- The walk of jotterlaw09.InboxLink. -/
import Derived.Test.YtjhemoekmlhlpaaLinkB
import Derived.Deep.DeepCutAuto
import Derived.Deep.LoopGhost
import Derived.Deep.CutBlock
namespace Go.Proofs.Ytjhemoekmlhlpaa
open Go Go.RowKit
set_option linter.unusedVariables false

theorem intsAt_src {w : World} {b off : Nat} {L : List Int} (h : IntsAt w (some ⟨b, off, none⟩) L) : ∀ j u, (is L)[j]? = some u → w.cell? ((⟨b, off, none⟩ : Addr).add j) = some u := by
  intro j u hj
  have hjl : j < L.length := by
    have := (List.getElem?_eq_some_iff.1 hj).1
    rwa [is_length] at this
  obtain ⟨b', o', hb, hc⟩ := h.get j hjl
  simp only [Option.some.injEq, Addr.mk.injEq, and_true] at hb
  obtain ⟨rfl, rfl⟩ := hb
  have hadd : (⟨b, off, none⟩ : Addr).add j = ⟨b, off + j, none⟩ := by unfold Addr.add; split <;> simp_all
  rw [hadd, hc]
  simp [is, hjl] at hj
  rw [hj]

theorem owns_ints {w : World} {base n c : Nat} {a : Option Addr} {L : List Int} (h : w.ownsRow base 3 1 (.slice a n c) L.length (is L)) (hn : n = n) : IntsAt w a L := by
  by_cases hl : 0 < L.length
  · obtain ⟨b, rfl, _, hc⟩ := owns_cells h hl
    exact .inr ⟨b, 0, rfl, fun i hi => by rw [Nat.zero_add]; exact hc i hi⟩
  · exact .inl (List.eq_nil_of_length_eq_zero (by omega))
theorem run_append_zero (w : World) (b n c c' : Nat) (hn : n ≤ c) (ty : TypeId) :
    (Builtin.append_ #[23, 23] ty #[.slice (some ⟨b, 0, none⟩) n c, .slice none 0 c']).run Try.prog w = .ok (.slice (some ⟨b, 0, none⟩) n c) w := by
  simp [Builtin.append_, Builtin.lenOf, Builtin.firstCells, storeCells, run_underlying Try.underlying23, hn, Result.andThen]
/-- append of a []int that came in (nil or not) onto a slice of the call's own that is not nil -/
theorem wpList_append_opt {w : World} {ops : Array Oper} {rest : List Oper} {o : Oper} {a : Act} {Q : Exit → Act → World → Prop} (hgd : o.guard = none) (s x : Operand)
    (ho : o.op = .call { callee := .builtin .append, args := #[s, x], argTypes := #[23, 23] })
    (base b n c : Nat) (xs : List Value) (hs : a.eval s = .slice (some ⟨b, 0, none⟩) n c) (hown : w.ownsRow base 3 1 (.slice (some ⟨b, 0, none⟩) n c) n xs)
    (ad : Option Addr) (m cm : Nat) (M : List Int) (hx : a.eval x = .slice ad m cm) (hm : m = M.length) (hM : IntsAt w ad M)
    (h63 : n + m ≤ maxLen) (hbytes : (n + m) * 8 ≤ 140737488355328) (hbase : base ≤ w.heap.size)
    (h : ∀ v' w', w'.ownsRow base 3 1 v' (n + m) (xs ++ is M) → Fr [b] w w' → wpList Try.prog ops Q rest (a.put o.dst v') w') : wpList Try.prog ops Q (o :: rest) a w := by
  cases ad with
  | none =>
    have hM0 : M = [] := by
      rcases hM with h | ⟨_, _, h, _⟩
      · exact h
      · cases h
    subst hM0
    obtain rfl : m = 0 := hm
    refine wpList_plain hgd fun K hK => ?_
    have hnc : n ≤ c := by
      rcases hown.2 with ⟨hv, _⟩ | ⟨g, cap, cur, hv, _, _, h1, _⟩
      · cases hv
      · simp only [Value.slice.injEq] at hv
        omega
    have hr := run_append_zero w b n c cm hnc o.type
    unfold Oper.wp execOp
    simp only [ho, resolve, invoke, builtin, Sem.run_bind, Sem.run_pure, Result.andThen_ok, List.map_toArray, List.map_cons, List.map_nil, hs, hx, hr]
    exact hK _ _ (h _ _ (by simpa [is] using hown) (Fr.refl _ _))
  | some ad =>
    refine wpList_append_at hgd s x 23 ho base 3 (.int .i64 0) 1 8 Try.underlying23 infoI rfl (by decide) (.slice (some ⟨b, 0, none⟩) n c) n xs hs hown ad m cm (is M) hx (by rw [is_length]; omega) ?_ (is_one _) h63 hbytes hbase (fun v' w' h1 h2 _ => h v' w' h1 (show Fr [b] w w' from h2))
    intro j u hj
    rcases hM with rfl | ⟨b', off, hb, hc⟩
    · simp [is] at hj
    · obtain rfl := Option.some.inj hb
      exact intsAt_src (.inr ⟨b', off, rfl, hc⟩) j u hj
set_option maxRecDepth 100000 in
set_option maxHeartbeats 16000000 in
theorem inboxLink_walk (x0 : Int) (wx0 : (Lit.int .i64 x0).wf = true) (x1 : Int) (wx1 : (Lit.int .i64 x1).wf = true)
    (a : Option Addr) (Th : List Int) (ca : Nat) {w : World} (ha : IntsAt w a Th) (h1 : Th.length ≤ ca) (m1 : ca ≤ maxLen) (hw1 : ∀ x ∈ Th, (Lit.int .i64 x).wf = true) (hs1 : Th.length ≤ 17592186043904)
    (b : Option Addr) (Ch : List Int) (cb : Nat) (hb : IntsAt w b Ch) (h2 : Ch.length ≤ cb) (m2 : cb ≤ maxLen) (hw2 : ∀ x ∈ Ch, (Lit.int .i64 x).wf = true) (hs2 : Ch.length ≤ 17592186043904) :
    Calls Try.prog 4 #[.int .i64 x0, .int .i64 x1, .slice a Th.length ca, .slice b Ch.length cb] w fun e w' => e = .returned (.bool true) ∧ Fr [] w w' := by
  obtain ⟨nt, hnt⟩ : ∃ n, n = Th.length := ⟨_, rfl⟩
  obtain ⟨R, hR⟩ : ∃ n, n = Ch.length := ⟨_, rfl⟩
  rw [← hnt] at h1 hs1 ⊢
  rw [← hR] at h2 hs2 ⊢
  have HNT := Lib.hid hnt; have HR := Lib.hid hR; have HA := Lib.hid ha; have HB := Lib.hid hb; have HW1 := Lib.hid hw1; have HW2 := Lib.hid hw2
  have WX0 := Lib.hid wx0; have WX1 := Lib.hid wx1
  have M1 := Lib.hid m1; have M2 := Lib.hid m2
  clear hnt hR ha hb hw1 hw2 wx0 wx1 m1 m2
  go_enter Try.func4, Try.ntmps4
  go_wp2_with fail
  refine (within_any x0 1 4096 _ (by omega) (by omega) (by omega) WX0.out).mono ?_
  rintro e w1 ⟨win, rfl, hwin1, hwin2, _, rfl⟩
  go_wp2_with fail
  refine (within_any x1 1 4096 _ (by omega) (by omega) (by omega) WX1.out).mono ?_
  rintro e w1 ⟨r, rfl, hr1, hr2, _, rfl⟩
  go_wp2_with fail
  refine (newOut_ok win 0 _ hwin1 hwin2).mono ?_
  rintro e w1 ⟨g, rfl, hg, ho, hf⟩
  have HO := Lib.hid ho; have HF := Lib.hid hf; have HG := Lib.hid hg
  clear ho hf hg
  go_wp2_with fail
  refine (new_ok r _ hr1 hr2).mono ?_
  rintro e w2 ⟨gi, bi, rfl, hgi, hbi, hi, hf⟩
  have HO2 := Lib.hid (HO.out.fr0 hf); have HF2 := Lib.hid (HF.out.trans0 hf); have HI2 := Lib.hid hi
  have HGI : Hid (w.heap.size ≤ gi) := Lib.hid (Nat.le_trans HF.out.size hgi); have HBI : Hid (w.heap.size ≤ bi) := Lib.hid (Nat.le_trans HF.out.size hbi)
  clear hi hf hgi hbi HO HF
  have HLIT : Hid ((w2.alloc (.cells #[.int .i64 41, .int .i64 42] 3)).ownsRow w2.heap.size 3 1 (.slice (some ⟨w2.heap.size, 0, none⟩) 2 2) 2 [.int .i64 41, .int .i64 42]) := Lib.hid (owns_row (Row.new w2 [.int .i64 41, .int .i64 42] 3) (Nat.le_refl _) (by unfold maxLen; decide))
  go_upto_if 61 with (at_builtin; go_loud (refine wpList_append_opt rfl (.tmp 56) (.tmp 57) rfl w2.heap.size w2.heap.size 2 2 [.int .i64 41, .int .i64 42] rfl HLIT.out a nt ca Th rfl HNT.out ((HA.out.fr0 HF2.out).fr0 ((Fr.refl _ _).alloc _)) (by unfold maxLen; omega) (by omega) (by simp) ?_; intro v' w3 ho3 hf3; obtain ⟨at3, ct3, rfl, hct, hct2, _, _⟩ := owns_slice ho3; have HT3 := Lib.hid ho3; have HF3 := Lib.hid hf3; clear ho3 hf3))
  obtain ⟨N, hN⟩ : ∃ N, N = min (2 + nt) 4096 := ⟨_, rfl⟩
  have HNN := Lib.hid hN
  have hN2 : 2 ≤ N := by omega
  have hN4 : N ≤ 4096 := by omega
  have hNc : N ≤ ct3 := by omega
  clear hN
  go_cut [2] (fun t wx => t = .slice at3 N ct3 ∧ wx = w3)
  case first =>
    go_wp2_with fail
    all_goals go_meet
    all_goals exact ⟨by congr 1; have := HNN.out; omega, rfl⟩
  case rest =>
    obtain ⟨rfl, rfl⟩ := hcut
    rename World => wz
    obtain ⟨T, hT⟩ : ∃ T, T = (41 :: 42 :: Th).take N := ⟨_, rfl⟩
    have hlen : (41 :: 42 :: Th : List Int).length = 2 + nt := by rw [HNT.out]; simp; omega
    have HTN : Hid (N = T.length) := Lib.hid (by rw [hT, List.length_take, hlen, HNN.out]; omega)
    have HFW : Hid (Fr [] w2 wz) := Lib.hid (((Fr.refl [] w2).alloc _).trans HF3.out (by simp))
    have HTA : Hid (IntsAt wz at3 T) := Lib.hid (by
      rw [hT]
      refine IntsAt.take ?_ N
      have h3 := HT3.out
      rw [← hlen] at h3
      exact owns_ints (n := _) h3 rfl)
    have HLK : Hid (LinkI w wz wz.heap.size g gi bi win r T 0 0 0 0 (.slice none 0 0) (.slice none 0 0) (fun _ => none)) := Lib.hid (by
      have ho := HO2.out.fr0 HFW.out
      refine ⟨⟨ho.1, World.ownsRow_nil _ _ _ _, ho.2.2.1, ho.2.2.2.1, by simp, Nat.le_refl _, Nat.zero_le _⟩, HI2.out.fr0 HFW.out, World.ownsRow_nil _ _ _ _, (fun y (hy : none = some y) => nomatch hy), Nat.le_refl _, Nat.le_refl _, Nat.le_refl _, Nat.zero_le _, (fun j x (hj : none = some x) => nomatch hj), HF2.out.trans0 HFW.out, Nat.le_trans HF2.out.size HFW.out.size, Nat.le_refl _, HG.out, HGI.out, HBI.out⟩)
    have HWT : Hid (∀ x ∈ T, (Lit.int .i64 x).wf = true) := Lib.hid (fun x hx => by
      rw [hT] at hx
      have hx := List.mem_of_mem_take hx
      simp only [List.mem_cons] at hx
      rcases hx with rfl | rfl | hx
      · exact wfI (by omega) (by omega)
      · exact wfI (by omega) (by omega)
      · exact HW1.out x hx)
    have HTT := Lib.hid hT
    clear hT hlen
    obtain ⟨E, hE⟩ : ∃ E, E = R + 2 * N := ⟨_, rfl⟩
    have hEi : (R : Int) + 2 * (N : Int) = (E : Int) := by omega
    have hE2 : E ≤ 17592186060000 := by omega
    have HEE := Lib.hid hE
    obtain ⟨base, hbase⟩ : ∃ B, B = wz.heap.size := ⟨_, rfl⟩
    rw [← hbase] at HLK
    have HBASE := Lib.hid hbase
    have HF0 : Hid (Fr [g, gi, bi] wz wz) := Lib.hid (Fr.refl _ _)
    have HTB : Hid (∀ y, (Value.slice at3 N ct3).ownBlock = some y → y ∉ [g, gi, bi]) := Lib.hid (fun y hy => by
      have hy' : (Value.slice at3 (2 + nt) ct3).ownBlock = some y := by rw [← hy]; cases at3 <;> rfl
      have h1 := own_lt HT3.out y hy'
      have h2 := HO2.out.1.lt
      have h3 := HI2.out.1.lt
      obtain ⟨_, _, h4⟩ := HI2.out.2.1.block
      have h4 := (Array.getElem?_eq_some_iff.1 h4).1
      simp only [List.mem_cons, List.not_mem_nil, or_false]
      omega)
    clear hE hbase HT3 HF3 HLIT HO2 HI2 HF2 HFW
    go_wp2_with fail
    go_loopg [15, 16, 18] E (fun gk pu go ki wr => ∃ (k p cum acked sent cg : Nat) (ag : Option Addr) (v : Value) (f : Int → Option Int), gk + k = E ∧ pu = .int .i64 p ∧ go = .slice ag cum cg ∧ ki = .int .i64 k ∧ p ≤ N ∧ cum ≤ p ∧ cum ≤ cg ∧ Hid (LinkI w wr base g gi bi win r T p cum acked sent v (.slice ag cum cg) f) ∧ Hid (Fr [g, gi, bi] wz wr) ∧ Hid (R ≤ k → min N (k - R) ≤ acked))
    case atStart => exact ⟨0, 0, 0, 0, 0, 0, none, _, _, rfl, rfl, rfl, rfl, Nat.zero_le _, Nat.le_refl _, Nat.le_refl _, HLK, HF0, Lib.hid (fun _ => by omega)⟩
    case round =>
      clear HLK HF0
      obtain ⟨k, p, cum, acked, sent, cg, ag, v, f, hgk, rfl, rfl, rfl, hpN, hcp, hcc, HLK, HF0, HP⟩ := hrel
      by_cases hk : k < E
      · go_upto_if 77 with fail
        go_cut [19] (fun c wx => ∃ c0 : Int, c = .int .i64 c0 ∧ wx = wr ∧ (R ≤ k → c0 = 65535))
        case first => as_aux_lemma =>
          by_cases hkR : k < R
          · have hcell : ∃ bb ob, b = some ⟨bb, ob, none⟩ ∧ wr.cell? ⟨bb, ob + k, none⟩ = some (.int .i64 (Ch[k]'(by have := HR.out; omega))) := by
              have hfr : Fr [] w wr := HLK.out.2.2.2.2.2.2.2.2.2.1
              exact (HB.out.fr0 hfr).get k (by have := HR.out; omega)
            obtain ⟨bb, ob, rfl, hcell⟩ := hcell
            generalize (Ch[k]'(by have := HR.out; omega)) = c0 at hcell
            go_wp2_with fail
            go_meet
            exact ⟨c0, rfl, rfl, fun h => absurd h (by omega)⟩
          · go_wp2_with fail
            go_meet
            exact ⟨65535, rfl, rfl, fun _ => rfl⟩
        case rest =>
          obtain ⟨c0, rfl, rfl, hc0⟩ := hcut
          have HC0 := Lib.hid hc0
          clear hc0
          obtain ⟨bt, ot, hat3, hct3⟩ : ∃ bt ot, at3 = some ⟨bt, ot, none⟩ ∧ True := by
            obtain ⟨b1, o1, h1, _⟩ := HTA.out.get 0 (by have := HTN.out; omega)
            exact ⟨b1, o1, h1, trivial⟩
          subst hat3
          clear hct3
          go_upto_block 2 with fail
          go_cut [15] (fun pu wr => ∃ (p2 : Nat) (v2 : Value), pu = .int .i64 p2 ∧ p2 ≤ N ∧ Hid (p2 = N ∨ p < p2) ∧ Hid (LinkI w wr base g gi bi win r T p2 cum acked sent v2 (.slice ag cum cg) f) ∧ Hid (Fr [g, gi, bi] wz wr))
          case first =>
            go_wp2_with fail
            go_loopw [15, 20] (fun pu i wr => ∃ (j p2 : Nat) (v2 : Value), pu = .int .i64 p2 ∧ i = .int .i64 j ∧ j ≤ 3 ∧ p2 ≤ N ∧ Hid (p2 = p + j) ∧ Hid (LinkI w wr base g gi bi win r T p2 cum acked sent v2 (.slice ag cum cg) f) ∧ Hid (Fr [g, gi, bi] wz wr)) (fun _ i _ => 3 - (intOf i).toNat)
            case atStart => exact ⟨0, p, v, rfl, rfl, by omega, hpN, Lib.hid rfl, HLK, HF0⟩
            case round => as_aux_lemma =>
              clear HLK HF0
              obtain ⟨j, p2, v2, rfl, rfl, hj3, hp2N, HPJ, HLK, HF0⟩ := hrel
              by_cases hj : j < 3
              · by_cases hp2 : p2 < N
                · have hlt : p2 < T.length := by have := HTN.out; omega
                  have hcell : wr.cell? ⟨bt, ot + p2, none⟩ = some (.int .i64 T[p2]) := by
                    obtain ⟨b1, o1, h1, h2⟩ := (ints_keep HTA.out HTB.out HF0.out).get p2 hlt
                    cases h1
                    exact h2
                  obtain ⟨x, hx⟩ : ∃ x, x = T[p2] := ⟨_, rfl⟩
                  rw [← hx] at hcell
                  have HX := Lib.hid hx
                  clear hx
                  obtain ⟨p3, hp3⟩ : ∃ p3, p3 = p2 + 1 := ⟨_, rfl⟩
                  have hp3i : (p2 : Int) + 1 = (p3 : Int) := by omega
                  have hlen : acked + ((T.take p2).drop acked).length + 1 = p3 := by
                    have h5 := HLK.out.2.2.2.2.1
                    have h6 := HLK.out.2.2.2.2.2.1
                    have h7 := HLK.out.2.2.2.2.2.2.1
                    rw [left_length T p2 acked (by omega)]
                    omega
                  have HLEN := Lib.hid hlen
                  have HP3 := Lib.hid hp3
                  have HLT := Lib.hid hlt
                  clear hlen hp3
                  go_wp2_with fail
                  refine (push_any base g v2 win acked sent _ x _ HLK.out.1 (HLK.out.2.2.2.2.2.2.2.2.2.2.2.1) (by have := HLEN.out; have := HP3.out; omega)).mono ?_
                  rintro e w3 ⟨he, v3, ho3, hf3, hat3⟩
                  rw [HLEN.out] at he
                  subst he
                  have HLK3 : Hid (LinkI w w3 base g gi bi win r T p3 cum acked sent v3 (.slice ag cum cg) f) := Lib.hid (by
                    rw [HP3.out]
                    refine HLK.out.push HLT.out ?_ hf3 hat3
                    rw [← HX.out]
                    exact ho3)
                  have HF3 : Hid (Fr [g, gi, bi] wz w3) := Lib.hid (HLK.out.pushFr HBASE.out HF0.out hf3)
                  clear ho3 hf3 hat3 HLK HF0
                  go_wp2_with fail
                  go_roundw
                  case rel => exact ⟨j + 1, p3, v3, rfl, by go_num, by omega, by have := HP3.out; omega, Lib.hid (by have := HP3.out; have := HPJ.out; omega), HLK3, HF3⟩
                  case measure => simp [intOf]; omega
                · have hpe : p2 = N := by omega
                  subst hpe
                  go_wp2_with fail
                  go_meet
                  exact ⟨_, v2, rfl, Nat.le_refl _, Lib.hid (.inl rfl), HLK, HF0⟩
              · have hj3e : j = 3 := by omega
                subst hj3e
                go_wp2_with fail
                go_meet
                exact ⟨p2, v2, rfl, hp2N, Lib.hid (.inr (by have := HPJ.out; omega)), HLK, HF0⟩
          case rest =>
            clear HLK HF0
            obtain ⟨p2, v2, rfl, hp2N, HPP, HLK, HF0⟩ := hcut
            rename World => wp
            go_wp2_with fail
            refine (due_any base g v2 win acked sent _ _ HLK.out.1).mono ?_
            rintro e w5 ⟨ad, cd, he, hod, ho5, hf5⟩
            obtain ⟨d, hd⟩ : ∃ d, d = min win ((T.take p2).drop acked).length := ⟨_, rfl⟩
            rw [← hd] at he hod ho5
            subst he
            have hdw : d ≤ win := by rw [hd]; exact Nat.min_le_left _ _
            obtain ⟨s5, hs5⟩ : ∃ s5, s5 = acked + d := ⟨_, rfl⟩
            rw [← hs5] at ho5
            have HLK5 : Hid (LinkI w w5 base g gi bi win r T p2 cum acked s5 v2 (.slice ag cum cg) f) := Lib.hid (HLK.out.due (by rw [hs5, hd]) ho5 hf5)
            have HF5 : Hid (Fr [g, gi, bi] wz w5) := Lib.hid (HF0.out.trans hf5 (by simp))
            have hp2T : p2 ≤ T.length := HLK.out.2.2.2.2.2.2.2.1
            have HDD : Hid (d = min win (p2 - acked)) := Lib.hid (by rw [hd, left_length T p2 acked hp2T])
            have HS5 := Lib.hid hs5
            have HAP : Hid (acked ≤ p) := Lib.hid (by have h1 := HLK.out.2.2.2.2.1; omega)
            obtain ⟨bo, hbo⟩ : ∃ bo, bo = wp.heap.size := ⟨_, rfl⟩
            rw [← hbo] at hod
            have HOD := Lib.hid hod
            clear hod ho5 hf5 hs5 hd HLK HF0 hp2T hbo
            have hdwf : decide (win < d) = false := decide_eq_false (by omega)
            have HDW := Lib.hid hdw
            clear hdw
            go_wp2_with fail
            have hdw := HDW.out
            clear hdwf
            go_loopw [24, 16] (fun ix go wr => ∃ (q cum5 cg5 : Nat) (ag5 : Option Addr) (f5 : Int → Option Int), ix = .int .i64 q ∧ go = .slice ag5 cum5 cg5 ∧ q ≤ d ∧ cum5 ≤ p2 ∧ cum5 ≤ cg5 ∧ Hid (LinkI w wr base g gi bi win r T p2 cum5 acked s5 v2 (.slice ag5 cum5 cg5) f5) ∧ Hid (Fr [g, gi, bi] wz wr) ∧ Hid (wr.ownsRow bo 37 2 (.slice ad d cd) d (items acked (((T.take p2).drop acked).take d))) ∧ Hid (R ≤ k → acked + q ≤ cum5)) (fun ix _ _ => d - (intOf ix).toNat)
            case atStart => exact ⟨0, cum, cg, ag, f, rfl, rfl, Nat.zero_le _, by have h1 := HLK5.out.2.2.2.2.2.1; have h2 := HLK5.out.2.2.2.2.2.2.1; omega, hcc, HLK5, HF5, HOD, Lib.hid (fun _ => HLK5.out.2.2.2.2.1)⟩
            case round =>
              clear HLK5 HF5 HOD hcp hcc
              obtain ⟨q, cum5, cg5, ag5, f5, rfl, rfl, hqd, hcp, hcc, HLK, HF0, HOD, HPQ⟩ := hrel
              by_cases hq : q < d
              · have hp2T : p2 ≤ T.length := HLK.out.2.2.2.2.2.2.2.1
                have hdp : d ≤ p2 - acked := by have := HDD.out; omega
                have hdl : d = (((T.take p2).drop acked).take d).length := by rw [List.length_take, left_length T p2 acked hp2T]; omega
                have hap : acked + d ≤ 4096 := by have := HTN.out; omega
                have hrow1 := due_cells HOD.out hdl q hq
                obtain ⟨bd, had, c1, c2⟩ := hrow1
                subst had
                obtain ⟨q3, hq3⟩ : ∃ q3, q3 = d - 1 - q := ⟨_, rfl⟩
                have hq3i : (d : Int) - 1 - (q : Int) = (q3 : Int) := by omega
                have hq3d : q3 < d := by omega
                obtain ⟨bd', had, e1, e2⟩ := due_cells HOD.out hdl q3 hq3d
                cases had
                obtain ⟨l1, L1⟩ := left_get T p2 acked d q hp2T hdp hq
                obtain ⟨l3, L3⟩ := left_get T p2 acked d q3 hp2T hdp hq3d
                obtain ⟨x1, hx1⟩ : ∃ x1, x1 = (((T.take p2).drop acked).take d)[q] := ⟨_, rfl⟩
                obtain ⟨x3, hx3⟩ : ∃ x3, x3 = (((T.take p2).drop acked).take d)[q3] := ⟨_, rfl⟩
                rw [← hx1] at L1 c2
                rw [← hx3] at L3 e2
                obtain ⟨n1, hn1⟩ : ∃ n1, n1 = acked + q + 1 := ⟨_, rfl⟩
                obtain ⟨n3, hn3⟩ : ∃ n3, n3 = acked + q3 + 1 := ⟨_, rfl⟩
                rw [← hn1] at L1 c1
                rw [← hn3] at L3 e1
                have HL1 := Lib.hid L1
                have HL3 := Lib.hid L3
                have HN1 := Lib.hid hn1
                have HN3 := Lib.hid hn3
                have HQ3 := Lib.hid hq3
                have HDL := Lib.hid hdl
                clear hx1 hx3 hn1 hn3 hq3 hdl hp2T L1 L3 l1 l3
                go_upto_if 128 with fail
                go_cut [25] from 116 to 180 (fun dv wx => ∃ (gd n2 : Nat) (x2 : Int), dv = .pointer (some ⟨gd, 0, none⟩) ∧ wx.cell? ⟨gd, 0, none⟩ = some (.int .i64 n2) ∧ wx.cell? ⟨gd, 1, none⟩ = some (.int .i64 x2) ∧ Hid (1 ≤ n2 ∧ n2 ≤ s5) ∧ Hid (T[n2 - 1]? = some x2) ∧ Hid (wr.heap.size ≤ gd) ∧ Hid (Fr [] wr wx) ∧ Hid (R ≤ k → n2 = acked + q + 1))
                case first => as_aux_lemma =>
                  have e1' := ((Fr.refl [] wr).alloc (Obj.cells #[Value.int .i64 n1, .int .i64 x1] 37)).cell e1 (by simp)
                  have e2' := ((Fr.refl [] wr).alloc (Obj.cells #[Value.int .i64 n1, .int .i64 x1] 37)).cell e2 (by simp)
                  clear e1 e2
                  have HX1 : Hid ((wr.alloc (.cells #[.int .i64 n1, .int .i64 x1] 37)).cell? ⟨wr.heap.size, 0, none⟩ = some (.int .i64 n1)) := Lib.hid ((Row.new wr [_, _] 37).cell' rfl)
                  have HX2 : Hid ((wr.alloc (.cells #[.int .i64 n1, .int .i64 x1] 37)).cell? ⟨wr.heap.size, 1, none⟩ = some (.int .i64 x1)) := Lib.hid ((Row.new wr [_, _] 37).cell' rfl)
                  have HX3 : Hid ((wr.alloc (.cells #[.int .i64 n3, .int .i64 x3] 37)).cell? ⟨wr.heap.size, 0, none⟩ = some (.int .i64 n3)) := Lib.hid ((Row.new wr [_, _] 37).cell' rfl)
                  have HX4 : Hid ((wr.alloc (.cells #[.int .i64 n3, .int .i64 x3] 37)).cell? ⟨wr.heap.size, 1, none⟩ = some (.int .i64 x3)) := Lib.hid ((Row.new wr [_, _] 37).cell' rfl)
                  have HS1 : Hid (1 ≤ n1 ∧ n1 ≤ s5) := Lib.hid (by have := HN1.out; have := HS5.out; omega)
                  have HS3 : Hid (1 ≤ n3 ∧ n3 ≤ s5) := Lib.hid (by have := HN3.out; have := HS5.out; omega)
                  cases hb0 : (bits BinOp.and IntKind.i64 c0 1048576 != 0)
                  · go_wp2_with fail
                    go_meet
                    exact ⟨_, n1, x1, rfl, HX1.out, HX2.out, HS1, HL1, Lib.hid (Nat.le_refl _), Lib.hid ((Fr.refl _ _).alloc _), Lib.hid (fun _ => HN1.out)⟩
                  · have HB0 := Lib.hid hb0
                    go_wp2_with fail
                    go_meet
                    exact ⟨_, n3, x3, rfl, HX3.out, HX4.out, HS3, HL3, Lib.hid (Nat.le_refl _), Lib.hid ((Fr.refl _ _).alloc _), Lib.hid (fun h => by
                      have h1 := HB0.out
                      rw [HC0.out h, bit20] at h1
                      cases h1)⟩
                case rest =>
                  obtain ⟨gd, n2, x2, rfl, dc0, dc1, HN2, HL2, HGD, HFD, HRN⟩ := hcut
                  rename World => wd
                  clear c1 c2 e1 e2 hq3i hq3d HN1 HN3 HL1 HL3 HQ3
                  have HLKd : Hid (LinkI w wd base g gi bi win r T p2 cum5 acked s5 v2 (.slice ag5 cum5 cg5) f5) := Lib.hid (HLK.out.fr0 HFD.out)
                  have HF0d : Hid (Fr [g, gi, bi] wz wd) := Lib.hid (HF0.out.trans0 HFD.out)
                  have HODd := Lib.hid (owns_fr0 HOD.out HFD.out)
                  obtain ⟨m16, hm16⟩ : ∃ m, m = q % 16 := ⟨_, rfl⟩
                  have hm16i : (q : Int).tmod 16 = (m16 : Int) := by rw [hm16]; rfl
                  have hm16l : m16 < 16 := by omega
                  clear HLK HF0 HOD hm16
                  have HBIN : Hid (gd ≠ bi) := Lib.hid (by
                    rintro rfl
                    obtain ⟨es, cl, he⟩ := HLKd.out.2.1.2.1.block
                    unfold World.cell? at dc0
                    simp [he] at dc0)
                  go_upto_if 142 with fail
                  go_cut [25] from 116 to 180 (fun dv wx => ∃ (f6 : Int → Option Int), dv = .pointer (some ⟨gd, 0, none⟩) ∧ Hid (LinkI w wx base g gi bi win r T p2 cum5 acked s5 v2 (.slice ag5 cum5 cg5) f6) ∧ Hid (Fr [g, gi, bi] wz wx) ∧ Hid (wx.ownsRow bo 37 2 (.slice (some ⟨bd, 0, none⟩) d cd) d (items acked (((T.take p2).drop acked).take d))) ∧ Hid (R ≤ k → cum5 = acked + q → (f6 ((cum5 + 1 : Nat) : Int)).isSome = true))
                  case first => as_aux_lemma =>
                    have HWX2 : Hid ((Lit.int .i64 x2).wf = true) := Lib.hid (HWT.out x2 (List.mem_of_getElem? HL2.out))
                    cases hb1 : (bits BinOp.and IntKind.i64 c0 (wrap64 (2 ^ m16)) != 0)
                    · have HB1 := Lib.hid hb1
                      have HML := Lib.hid hm16l
                      go_wp2_with fail
                      go_meet
                      exact ⟨f5, rfl, HLKd, HF0d, HODd, Lib.hid (fun h _ => by
                        have h1 := HB1.out
                        rw [HC0.out h, bit16 m16 HML.out] at h1
                        cases h1)⟩
                    · go_wp2_with fail
                      refine (put_any gi bi r cum5 f5 n2 x2 _ HLKd.out.2.1 HWX2.out).mono ?_
                      rintro e w8 ⟨rfl, hi8, hf8⟩
                      have HLK8 := Lib.hid (HLKd.out.putOne HN2.out.2 HL2.out hi8 hf8)
                      have HF8 := Lib.hid (fr_bi HF0d.out hf8)
                      have HOD8 := Lib.hid (HLKd.out.dueKeep HODd.out (fr_two hf8))
                      have dc8 := hf8.cell dc0 (by simpa using HBIN.out)
                      have HI8 := Lib.hid hi8
                      obtain ⟨f6, hf6⟩ : ∃ f6, f6 = putF r cum5 f5 n2 x2 := ⟨_, rfl⟩
                      have HSO : Hid (R ≤ k → cum5 = acked + q → (f6 ((cum5 + 1 : Nat) : Int)).isSome = true) := Lib.hid (fun hR he => by
                        have h1 := HRN.out hR
                        rw [hf6, show n2 = cum5 + 1 by omega]
                        exact putF_there hr1 (by omega))
                      have HF6E := Lib.hid hf6
                      rw [← hf6] at HLK8
                      clear hi8 hf8 dc0 dc1 hf6
                      cases hb2 : (bits BinOp.and IntKind.i64 c0 2097152 != 0)
                      · go_wp2_with fail
                        go_meet
                        exact ⟨f6, rfl, HLK8, HF8, HOD8, HSO⟩
                      · go_wp2_with fail
                        refine (put_any gi bi r cum5 _ n2 (-1) _ HI8.out (wfI (by omega) (by omega))).mono ?_
                        rintro e w9 ⟨rfl, hi9, hf9⟩
                        have HLK9 : Hid (LinkI w w9 base g gi bi win r T p2 cum5 acked s5 v2 (.slice ag5 cum5 cg5) f6) := Lib.hid (by
                          have h1 := HLK8.out
                          rw [HF6E.out] at h1 ⊢
                          exact h1.putTwo HN2.out.2 HL2.out hi9 hf9)
                        have HF9 := Lib.hid (fr_bi HF8.out hf9)
                        have HOD9 := Lib.hid (HLK8.out.dueKeep HOD8.out (fr_two hf9))
                        clear hi9 hf9
                        go_wp2_with fail
                        go_meet
                        exact ⟨f6, rfl, HLK9, HF9, HOD9, HSO⟩
                  case rest =>
                    obtain ⟨f6, rfl, HLK, HF0, HOD, HSOME⟩ := hcut
                    rename World => we
                    clear HLKd HF0d HODd dc0 dc1 HN2 HL2 HGD HFD HRN HBIN hm16i hm16l
                    go_wp2_with fail
                    refine (head_any gi bi r cum5 f6 _ HLK.out.2.1).mono ?_
                    rintro e w7 ⟨he, nd, hw7⟩
                    obtain ⟨y7, hy7⟩ : ∃ y, y = (f6 ((cum5 + 1 : Nat) : Int)).getD 0 := ⟨_, rfl⟩
                    obtain ⟨b7, hb7⟩ : ∃ b, b = (f6 ((cum5 + 1 : Nat) : Int)).isSome := ⟨_, rfl⟩
                    rw [← hy7, ← hb7] at he
                    subst he
                    have hf7 : Fr [] we w7 := by rw [hw7]; exact (Fr.refl _ _).drewN nd
                    have HLK7 := Lib.hid (HLK.out.fr0 hf7)
                    have HF7 := Lib.hid (HF0.out.trans0 hf7)
                    have HOD7 := Lib.hid (owns_fr0 HOD.out hf7)
                    have HY7 := Lib.hid hy7
                    have HB7 := Lib.hid hb7
                    clear hy7 hb7 hf7 hw7 HLK HF0 HOD
                    go_wp2_with fail
                    go_loopw [26, 27, 16] (fun yv bv go wr => ∃ (y : Int) (bb : Bool) (cum6 cg6 : Nat) (ag6 : Option Addr) (f7 : Int → Option Int), yv = .int .i64 y ∧ bv = .bool bb ∧ go = .slice ag6 cum6 cg6 ∧ cum6 ≤ p2 ∧ cum6 ≤ cg6 ∧ Hid (y = (f7 ((cum6 + 1 : Nat) : Int)).getD 0) ∧ Hid (bb = (f7 ((cum6 + 1 : Nat) : Int)).isSome) ∧ Hid (LinkI w wr base g gi bi win r T p2 cum6 acked s5 v2 (.slice ag6 cum6 cg6) f7) ∧ Hid (Fr [g, gi, bi] wz wr) ∧ Hid (wr.ownsRow bo 37 2 (.slice (some ⟨bd, 0, none⟩) d cd) d (items acked (((T.take p2).drop acked).take d))) ∧ Hid (R ≤ k → acked + q + 1 ≤ cum6 ∨ (cum6 = acked + q ∧ bb = true))) (fun _ _ go _ => N - lenOf go)
                    case atStart =>
                      refine ⟨y7, b7, cum5, cg5, ag5, f6, rfl, rfl, rfl, hcp, hcc, HY7, HB7, HLK7, HF7, HOD7, Lib.hid (fun hR => ?_)⟩
                      have h1 := HPQ.out hR
                      by_cases he : cum5 = acked + q
                      · exact .inr ⟨he, by rw [HB7.out]; exact HSOME.out hR he⟩
                      · exact .inl (by omega)
                    case round => as_aux_lemma =>
                      clear HLK7 HF7 HOD7 HY7 HB7 HSOME HPQ hcp hcc
                      obtain ⟨y, bb, cum6, cg6, ag6, f7, rfl, rfl, rfl, hcp, hcc, HY, HBB, HLK, HF0, HOD, HPQ⟩ := hrel
                      cases bb with
                      | false =>
                        go_wp2_with fail
                        go_roundw
                        case rel => exact ⟨q + 1, cum6, cg6, ag6, f7, by go_num, rfl, by omega, hcp, hcc, HLK, HF0, HOD, Lib.hid (fun hR => by
                          rcases HPQ.out hR with h1 | ⟨_, h1⟩
                          · omega
                          · cases h1)⟩
                        case measure => simp [intOf]; omega
                      | true =>
                        obtain ⟨x, hx⟩ : ∃ x, f7 ((cum6 + 1 : Nat) : Int) = some x := Option.isSome_iff_exists.1 HBB.out.symm
                        have hy : y = x := by rw [HY.out, hx]; rfl
                        subst hy
                        have HX := Lib.hid hx
                        have hhd := HLK.out.head hx
                        have hlt : cum6 < N := by
                          have h1 := HLK.out.2.2.2.2.2.2.1
                          have h2 := HTN.out
                          have h3 := HLK.out.2.2.2.2.2.2.2.1
                          omega
                        have hlt2 : cum6 < p2 := by
                          have h1 := HLK.out.2.2.2.2.2.2.1
                          omega
                        have HHD := Lib.hid hhd
                        clear hx hhd HY HBB
                        go_wp2_with fail
                        refine (pop_any gi bi r cum6 f7 _ HLK.out.2.1).mono ?_
                        rintro e w8 ⟨hpost, hf8⟩
                        rw [HX.out] at hpost
                        obtain ⟨rfl, hi8⟩ : e = .returned (.int .i64 0) ∧ Ibx w8 gi bi r (cum6 + 1) (upd f7 ((cum6 + 1 : Nat) : Int) none) := by
                          rcases hpost with ⟨_, h1, h2⟩ | ⟨h, _⟩
                          · exact ⟨h1, h2⟩
                          · cases h
                        clear hpost
                        have hgot := HLK.out.got hf8
                        have HGOT := Lib.hid hgot
                        have HI8 := Lib.hid hi8
                        have HF8 := Lib.hid hf8
                        have HB8 : Hid (base ≤ w8.heap.size) := Lib.hid (Nat.le_trans HLK.out.2.2.2.2.2.2.2.2.2.2.2.1 hf8.size)
                        have HOD8 := Lib.hid (HLK.out.dueKeep HOD.out hf8)
                        clear hgot hi8 hf8 HOD
                        go_wp2_with (at_builtin; refine wpList_append_at rfl (.tmp 172) (.tmp 174) 23 rfl base 3 (.int .i64 0) 1 8 Try.underlying23 infoI rfl (by decide) (.slice ag6 cum6 cg6) cum6 (is (T.take cum6)) rfl (owns_fr0 HGOT.out ((Fr.refl _ _).alloc _)) ⟨w8.heap.size, 0, none⟩ 1 1 [.int .i64 y] rfl rfl (lit1 _ _ _) (by intro u hu; simp at hu; subst hu; rfl) (by unfold maxLen; omega) (by omega) (by have := HB8.out; simp; omega) ?_; intro v' w9 ho9 hf9 hat9; obtain ⟨ag9, cg9, rfl, hcg9, hcg92, _, _⟩ := owns_slice ho9; have HO9 := Lib.hid ho9; have HF9 := Lib.hid hf9; have HAT9 := Lib.hid hat9; clear ho9 hf9 hat9)
                        have HLK9 : Hid (LinkI w w9 base g gi bi win r T p2 (cum6 + 1) acked s5 v2 (.slice ag9 (cum6 + 1) cg9) (upd f7 ((cum6 + 1 : Nat) : Int) none)) := Lib.hid (by
                          refine HLK.out.popGot HX.out (HI8.out.fr0 ((Fr.refl _ _).alloc _)) (HF8.out.alloc _) HF9.out HO9.out ?_
                          rcases HAT9.out with h1 | h1
                          · exact .inl h1
                          · exact .inr ⟨_, h1, by have := HF8.out.size; simp; omega⟩)
                        have HFz : Hid (Fr [g, gi, bi] wz w9) := Lib.hid (HLK.out.gotFr HBASE.out HF0.out (HF8.out.alloc _) HF9.out)
                        have HOD9 := Lib.hid (owns_fr (owns_fr0 HOD8.out ((Fr.refl _ _).alloc (.cells #[.int .i64 y] 3))) HF9.out (fun b hb hm => own_ne HOD8.out HGOT.out (by decide) b hb (mem_own hm)))
                        clear HOD8 HI8 HF8 HGOT HAT9 HF9 HO9 HLK HF0 HB8
                        obtain ⟨f8, hf8⟩ : ∃ f8, f8 = upd f7 ((cum6 + 1 : Nat) : Int) none := ⟨_, rfl⟩
                        rw [← hf8] at HLK9
                        clear hf8 HX HHD
                        go_wp2_with fail
                        refine (head_any gi bi r (cum6 + 1) f8 _ HLK9.out.2.1).mono ?_
                        rintro e wa ⟨he, na, hwa⟩
                        obtain ⟨y8, hy8⟩ : ∃ y, y = (f8 ((cum6 + 1 + 1 : Nat) : Int)).getD 0 := ⟨_, rfl⟩
                        obtain ⟨b8, hb8⟩ : ∃ b, b = (f8 ((cum6 + 1 + 1 : Nat) : Int)).isSome := ⟨_, rfl⟩
                        rw [← hy8, ← hb8] at he
                        subst he
                        have hfa : Fr [] w9 wa := by rw [hwa]; exact (Fr.refl _ _).drewN na
                        have HLKa := Lib.hid (HLK9.out.fr0 hfa)
                        have HFa := Lib.hid (HFz.out.trans0 hfa)
                        have HODa := Lib.hid (owns_fr0 HOD9.out hfa)
                        have HYa := Lib.hid hy8
                        have HBa := Lib.hid hb8
                        clear hy8 hb8 hfa hwa HLK9 HFz HOD9
                        go_wp2_with fail
                        go_roundw
                        case rel => exact ⟨y8, b8, cum6 + 1, cg9, ag9, f8, rfl, rfl, rfl, by omega, hcg9, HYa, HBa, HLKa, HFa, HODa, Lib.hid (fun hR => .inl (by
                          rcases HPQ.out hR with h1 | ⟨h1, _⟩ <;> omega))⟩
                        case measure =>
                          show N - (cum6 + 1) < N - cum6
                          omega
              · have hqd2 : q = d := by omega
                have HQD := Lib.hid hqd2
                have hcT : cum5 ≤ T.length := Nat.le_trans hcp HLK.out.2.2.2.2.2.2.2.1
                have HL5 := Lib.hid (got_ints HLK.out.2.2.1 hcT)
                have HL6 := Lib.hid ((ints_keep HTA.out HTB.out HF0.out).take cum5)
                have HLEN : Hid (cum5 = (T.take cum5).length) := Lib.hid (by rw [List.length_take]; omega)
                clear hqd2 hcT
                go_wp2_with fail
                refine (cum_any gi bi r cum5 f5 _ HLK.out.2.1).mono ?_
                rintro e w6 ⟨rfl, rfl⟩
                go_wp2_with fail
                refine (eq_at _ _ (T.take cum5) (T.take cum5) cum5 cum5 _ _ _ HLEN.out HLEN.out HL5.out HL6.out (by unfold maxLen; omega) (by unfold maxLen; omega) true (by simp)).mono ?_
                rintro e w6 ⟨rfl, ne, hw6⟩
                have hf6 : Fr [] wr w6 := by rw [hw6]; exact (Fr.refl _ _).drewN ne
                have HLK6 := Lib.hid (HLK.out.fr0 hf6)
                have HF6 := Lib.hid (HF0.out.trans0 hf6)
                clear hf6 hw6 HLK HF0 HOD HL5 HL6 HLEN
                as_aux_lemma =>
                  have HLIVE : Hid (R ≤ k + 1 → min N (k + 1 - R) ≤ cum5) := Lib.hid (fun _ => by
                    by_cases hR : R ≤ k
                    · have h1 := HP.out hR
                      have h2 := HPQ.out hR
                      have h3 := HPP.out
                      have h4 := HDD.out
                      have h5 := HQD.out
                      have h6 := HAP.out
                      omega
                    · omega)
                  have HCA := Lib.hid HLK6.out.2.2.2.2.1
                  clear HPP HDD HQD HAP HP HPQ HC0
                  cases hb3 : (bits BinOp.and IntKind.i64 c0 4194304 != 0)
                  · by_cases hR : R ≤ k
                    · go_wp2_with fail
                      refine (cum_any gi bi r cum5 f5 _ HLK6.out.2.1).mono ?_
                      rintro e w8 ⟨rfl, rfl⟩
                      go_wp2_with fail
                      refine (ack_link HLK6.out).mono ?_
                      rintro e w8 ⟨rfl, v6, hl8, hf8⟩
                      have HLK8 := Lib.hid hl8
                      have HF8 := Lib.hid (HF6.out.trans hf8 (by simp))
                      clear hl8 hf8
                      go_wp2_with fail
                      go_roundg (gk - 1)
                      case rel => exact ⟨k + 1, p2, cum5, cum5, s5, cg5, ag5, v6, f5, by omega, rfl, rfl, by go_num, hp2N, hcp, hcc, HLK8, HF8, HLIVE⟩
                      case measure => omega

                    · go_wp2_with fail
                      go_roundg (gk - 1)
                      case rel => exact ⟨k + 1, p2, cum5, acked, s5, cg5, ag5, v2, f5, by omega, rfl, rfl, by go_num, hp2N, hcp, hcc, HLK6, HF6, Lib.hid (fun h => by omega)⟩
                      case measure => omega
                  · go_wp2_with fail
                    refine (cum_any gi bi r cum5 f5 _ HLK6.out.2.1).mono ?_
                    rintro e w8 ⟨rfl, rfl⟩
                    go_wp2_with fail
                    refine (ack_link HLK6.out).mono ?_
                    rintro e w8 ⟨rfl, v6, hl8, hf8⟩
                    have HLK8 := Lib.hid hl8
                    have HF8 := Lib.hid (HF6.out.trans hf8 (by simp))
                    clear hl8 hf8
                    go_wp2_with fail
                    go_roundg (gk - 1)
                    case rel => exact ⟨k + 1, p2, cum5, cum5, s5, cg5, ag5, v6, f5, by omega, rfl, rfl, by go_num, hp2N, hcp, hcc, HLK8, HF8, HLIVE⟩
                    case measure => omega
      · as_aux_lemma =>
          have hkE : k = E := by omega
          have hLT := HTN.out
          have HP1 := HP.out (by have := HEE.out; omega)
          have h5 := HLK.out.2.2.2.2.1
          have h6 := HLK.out.2.2.2.2.2.1
          have h7 := HLK.out.2.2.2.2.2.2.1
          have h8 := HLK.out.2.2.2.2.2.2.2.1
          have hE := HEE.out
          have ha1 : acked = N := by omega
          have ha2 : cum = N := by omega
          have ha3 : p = N := by omega
          have ha4 : sent = N := by omega
          subst ha2
          subst ha1
          subst ha3
          subst ha4
          have hTt : T.take sent = T := List.take_of_length_le (by omega)
          have hg5 := got_ints HLK.out.2.2.1 (by omega)
          rw [hTt] at hg5
          have HL5 := Lib.hid hg5
          have HL6 := Lib.hid (ints_keep HTA.out HTB.out HF0.out)
          have HTt := Lib.hid hTt
          clear hLT HP1 h5 h6 h7 h8 hE hTt hg5
          go_wp2_with fail
          refine (eq_at _ _ T T sent sent _ _ _ HTN.out HTN.out HL5.out HL6.out (by unfold maxLen; omega) (by unfold maxLen; omega) true (by simp)).mono ?_
          rintro e w6 ⟨rfl, ne, hw6⟩
          have hf6 : Fr [] wr w6 := by rw [hw6]; exact (Fr.refl _ _).drewN ne
          have HLK6 := Lib.hid (HLK.out.fr0 hf6)
          clear hf6 hw6 HLK HF0 HL5 HL6
          go_wp2_with fail
          refine (acked_any base g v win sent sent _ _ HLK6.out.1).mono ?_
          rintro e w7 ⟨rfl, rfl⟩
          go_wp2_with fail
          refine (due_any base g v win sent sent _ _ HLK6.out.1).mono ?_
          rintro e w7 ⟨ad, cd, he, hod, ho7, hf7⟩
          have hz : min win ((T.take sent).drop sent).length = 0 := by rw [HTt.out, List.length_drop]; have := HTN.out; omega
          rw [hz] at he
          subst he
          have HFF : Hid (Fr [] w w7) := Lib.hid (HLK6.out.2.2.2.2.2.2.2.2.2.1.trans hf7 (fun b hb hlt => by
            simp at hb
            have := HG.out
            omega))
          clear hod ho7 hf7 hz
          go_wp2_with fail
          go_ret
          exact ⟨rfl, HFF.out⟩
end Go.Proofs.Ytjhemoekmlhlpaa
