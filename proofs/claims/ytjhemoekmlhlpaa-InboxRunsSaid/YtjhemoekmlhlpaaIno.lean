/- Contracts: inbox.Inbox[api.Op]: New, Head, Put, Toss, Pop, Cum (turned out of Inb's text by program). -/
import Derived.Test.YtjhemoekmlhlpaaMapO
import Derived.WalkSpells
import Derived.Laws.Tables
import Derived.StillTailTactics
import Derived.BigRegion
import Derived.Laws.ResultCell
namespace Go.Proofs.Ytjhemoekmlhlpaa
open Go Go.RowKit
set_option linter.unusedVariables false

/-- an inbox at block g, its map at b: r numbers from cum + 1 on, f holds what is here -/
def Ibo (w : World) (g b : Nat) (r cum : Nat) (f : Int → Option Int) : Prop :=
  Row w g [.int .i64 r, .int .i64 cum, .map (some b)] 105 ∧ MapO w b f ∧ 1 ≤ r ∧ r ≤ 4096 ∧ cum ≤ 4096
theorem Ibo.fr {w w' : World} {g b r cum : Nat} {f : Int → Option Int} {S : List Nat} (h : Ibo w g b r cum f) (fr : Fr S w w') (hg : g ∉ S) (hb : b ∉ S) : Ibo w' g b r cum f :=
  ⟨h.1.fr fr hg, h.2.1.fr fr hb, h.2.2⟩
theorem Ibo.fr0 {w w' : World} {g b r cum : Nat} {f : Int → Option Int} (h : Ibo w g b r cum f) (fr : Fr [] w w') : Ibo w' g b r cum f := h.fr fr (by simp) (by simp)
theorem Ibo.drewN {w : World} {g b r cum : Nat} {f : Int → Option Int} (h : Ibo w g b r cum f) (n : Nat) : Ibo (w.drewN n) g b r cum f := h
theorem MapO.key {w : World} {b : Nat} {f : Int → Option Int} (h : MapO w b f) {k : Int} (hk : (f k).isSome = true) : ∃ j : Nat, 1 ≤ j ∧ j ≤ 4096 ∧ k = j := by
  obtain ⟨D, _, hhas, _, hkeys⟩ := h
  obtain ⟨j, h1, h2, he⟩ := hkeys (.int .i64 k) (by rw [hhas]; exact hk)
  exact ⟨j, h1, h2, by injection he⟩

theorem built_ino (x : Int) (b : Nat) (w : World) : (Instr.build 105 #[(0, .int .i64 x), (2, .map (some b))]).run Try.prog w = .ok (.agg #[.int .i64 x, .int .i64 0, .map (some b)]) w := run_build w _ _ _ (by kernel_rfl)
set_option maxRecDepth 100000 in
theorem new_okO (r : Nat) (w : World) (h1 : 1 ≤ r) (h2 : r ≤ 4096) :
    Calls Try.prog 41 #[.int .i64 r] w fun e w' => ∃ g b, e = .returned (.tuple #[.pointer (some ⟨g, 0, none⟩), .int .i64 0]) ∧ w.heap.size ≤ g ∧ w.heap.size ≤ b ∧ Ibo w' g b r 0 (fun _ => none) ∧ Fr [] w w' := by
  have hmm := @run_makeMap Try.prog
  have hbd := fun w => built_ino r w.heap.size w
  go_enter Try.func41, Try.ntmps41
  go_wp2_with fail
  go_ret2
  have hsz : (w.alloc (.map #[] 0)).heap.size = w.heap.size + 1 := by simp
  have hr := Row.new (w.alloc (.map #[] 0)) [.int .i64 r, .int .i64 0, .map (some w.heap.size)] 105
  rw [hsz] at hr
  exact ⟨w.heap.size + 1, w.heap.size, rfl, Nat.le_succ _, Nat.le_refl _, ⟨hr, (MapO.made w).fr ((Fr.refl [] _).alloc _) (by simp), h1, h2, by omega⟩, ((Fr.refl [] w).alloc _).alloc _⟩

set_option maxRecDepth 100000 in
theorem cum_anyO (g b r cum : Nat) (f : Int → Option Int) (w : World) (h : Ibo w g b r cum f) :
    Calls Try.prog 43 #[.pointer (some ⟨g, 0, none⟩)] w fun e w' => e = .returned (.int .i64 cum) ∧ w = w' := by
  have c1 := h.1.cell' (j := 1) rfl
  clear h
  go_enter Try.func43, Try.ntmps43
  go_wp2_with fail
  go_ret
  exact ⟨rfl, rfl⟩

theorem results_cell_row_tmp {P : Program} {fn : Func} {p u : Tmp} {ty : TypeId} (h : fn.results = #[.cell p ty, .tmp u]) (tmps : Array Value) (w : World) (g : Nat) (t : TypeId) (cs : Array Value) (fr : Nat × Nat) (d : TypeDesc)
    (hp : tmps.getD p undef = .pointer (some ⟨g, 0, none⟩)) (hg : w.heap[g]? = some (.cells cs t fr))
    (hu : P.underlying ty = some d) (hd : (match d with | .struct _ | .array _ _ => true | _ => false) = true) (hi : (P.info? ty).map (·.size) = some cs.size) :
    (results fn tmps).run P w = .ok (.tuple #[.agg cs, tmps.getD u undef]) w := by
  have hp' : tmps[p]?.getD undef = .pointer (some ⟨g, 0, none⟩) := by simpa using hp
  rw [results_cell_tmp h]
  simp [hp', asAddr, run_loadVar_row w g t ty cs fr d hg hu hd hi, Result.andThen]
set_option maxRecDepth 100000 in
set_option maxHeartbeats 2000000 in
theorem head_anyO (g b r cum : Nat) (f : Int → Option Int) (w : World) (h : Ibo w g b r cum f) :
    Calls Try.prog 45 #[.pointer (some ⟨g, 0, none⟩)] w fun e w' => e = .returned (.tuple #[opV ((f (cum + 1 : Nat)).getD 0), .bool (f (cum + 1 : Nat)).isSome]) ∧ Fr [] w w' := by
  obtain ⟨k, hk⟩ : ∃ k, k = cum + 1 := ⟨_, rfl⟩
  have hki : (cum : Int) + 1 = (k : Int) := by omega
  have hk2 : k ≤ 4097 := by have := h.2.2.2.2; omega
  have q1 : IntKind.i64.wrap (k : Int) = (k : Int) := IntWalk.i64_in _ (by omega)
  obtain ⟨v, hv⟩ : ∃ v, v = (f k).getD 0 := ⟨_, rfl⟩
  obtain ⟨ok, hok⟩ : ∃ ok, ok = (f k).isSome := ⟨_, rfl⟩
  have H := Lib.hid h
  have HL : Hid (∀ w', Fr [] w w' → (Instr.lookup 103 (.map (some b)) (.int .i64 (k : Int)) true).run Try.prog w' = .ok (.tuple #[opV v, .bool ok]) w') := Lib.hid fun w' hf => by
    rw [hv, hok]; exact (H.out.2.1.fr hf (by simp)).look k (wfI (by omega) (by omega))
  obtain ⟨m, hm⟩ : ∃ m, m = v.tmod 3 := ⟨_, rfl⟩
  obtain ⟨s, hs⟩ : ∃ s, s = wrap64 (-v) := ⟨_, rfl⟩
  have hop : opV v = .agg #[.int .i64 m, .int .i64 v, .int .u8 0, .int .i64 0, .int .i64 s] := by rw [hm, hs]; rfl
  rw [← hk, ← hv, ← hok, hop]
  rw [hop] at HL
  clear hk hv hok h hop hm hs
  go_enter Try.func45, Try.ntmps45
  go_upto_region 1 with fail
  have hr1 := H.out.1.alloc (.cells #[.int .i64 0, .int .i64 0, .int .u8 0, .int .i64 0, .int .i64 0] 93)
  have hn := Row.new w [.int .i64 0, .int .i64 0, .int .u8 0, .int .i64 0, .int .i64 0] 93
  have hf : Fr [] w (w.alloc (.cells #[.int .i64 0, .int .i64 0, .int .u8 0, .int .i64 0, .int .i64 0] 93)) := (Fr.refl [] w).alloc _
  have hlt := hn.lt
  generalize w.alloc (.cells #[.int .i64 0, .int .i64 0, .int .u8 0, .int .i64 0, .int .i64 0] 93) = w1 at hr1 hn hf hlt ⊢
  generalize hn0 : w.heap.size = n0 at hn hlt ⊢
  have HN0 := Lib.hid hn0
  clear hn0
  have HN := Lib.hid hn; have HF := Lib.hid hf
  have c1 := hr1.cell' (j := 1) rfl
  have c2 := hr1.cell' (j := 2) rfl
  have hr2 := hr1.alloc (.cells #[.int .i64 0, .int .i64 0, .int .u8 0, .int .i64 0, .int .i64 0] 93)
  have d1 := hr2.cell' (j := 1) rfl
  have d2 := hr2.cell' (j := 2) rfl
  clear hr1 hn hf hr2
  have hl0 := HL.out w1.drew HF.out.drew
  have hl1 := fun cs => HL.out (w1.alloc (.cells cs 93)).drew (HF.out.alloc _).drew
  go_region
  all_goals
    have hn2 := (HN.out.alloc (.cells #[.int .i64 m, .int .i64 v, .int .u8 0, .int .i64 0, .int .i64 s] 93)).drew
    have hv2 := (Row.new w1 [.int .i64 m, .int .i64 v, .int .u8 0, .int .i64 0, .int .i64 s] 93).drew
    have hf2 := (HF.out.alloc (.cells #[.int .i64 m, .int .i64 v, .int .u8 0, .int .i64 0, .int .i64 s] 93)).drew
    have hne : n0 ≠ w1.heap.size := Nat.ne_of_lt hlt
    generalize (w1.alloc (.cells #[.int .i64 m, .int .i64 v, .int .u8 0, .int .i64 0, .int .i64 s] 93)).drew = w2 at hn2 hv2 hf2 ⊢
    generalize w1.heap.size = n1 at hv2 hne ⊢
    clear hl0 hl1 c1 c2 d1 d2
    have HF2 := Lib.hid hf2; have HN2 := Lib.hid hn2
    have e0 := hv2.cell' (j := 0) rfl
    have e1 := hv2.cell' (j := 1) rfl
    have e2 := hv2.cell' (j := 2) rfl
    have e3 := hv2.cell' (j := 3) rfl
    have e4 := hv2.cell' (j := 4) rfl
    have g0 := hn2.cell' (j := 0) rfl
    have g1 := hn2.cell' (j := 1) rfl
    have g2 := hn2.cell' (j := 2) rfl
    have g3 := hn2.cell' (j := 3) rfl
    have g4 := hn2.cell' (j := 4) rfl
    have k0 := hn2.free 0
    have k1 := hn2.free 1
    have k2 := hn2.free 2
    have k3 := hn2.free 3
    have k4 := hn2.free 4
    clear hn2 hv2 hf2 hlt
    go_wp2_with fail
    have hrow := ((((HN2.out.set 0 (.int .i64 m)).set 1 (.int .i64 v)).set 2 (.int .u8 0)).set 3 (.int .i64 0)).set 4 (.int .i64 s)
    refine bodyPost_ret (results_cell_row_tmp rfl _ _ n0 93 #[.int .i64 m, .int .i64 v, .int .u8 0, .int .i64 0, .int .i64 s] (0, 0) _ rfl hrow Try.underlying93 rfl (by kernel_rfl)) rfl ?_
    refine ⟨rfl, ?_⟩
    have hge : ∀ b, b < w.heap.size → b = n0 → b ∈ ([] : List Nat) := fun b h1 h2 => by have := HN0.out; omega
    exact ((((HF2.out.setCell (a := ⟨n0, 0, none⟩) _ (fun h => hge _ h rfl)).setCell (a := ⟨n0, 1, none⟩) _ (fun h => hge _ h rfl)).setCell (a := ⟨n0, 2, none⟩) _ (fun h => hge _ h rfl)).setCell (a := ⟨n0, 3, none⟩) _ (fun h => hge _ h rfl)).setCell (a := ⟨n0, 4, none⟩) _ (fun h => hge _ h rfl)

set_option maxRecDepth 100000 in
set_option maxHeartbeats 4000000 in
theorem put_anyO (g b r cum : Nat) (f : Int → Option Int) (num v : Int) (w : World) (h : Ibo w g b r cum f) (hv : (Lit.int .i64 v).wf = true) :
    Calls Try.prog 56 #[.pointer (some ⟨g, 0, none⟩), .int .i64 num, opV v] w fun e w' => e = .returned (.int .i64 (putCode r cum f num)) ∧ Ibo w' g b r cum (putF r cum f num v) ∧ Fr [b] w w' := by
  have HV := Lib.hid hv
  obtain ⟨m, hm⟩ : ∃ m, m = v.tmod 3 := ⟨_, rfl⟩
  obtain ⟨s, hs⟩ : ∃ s, s = wrap64 (-v) := ⟨_, rfl⟩
  have hop : opV v = .agg #[.int .i64 m, .int .i64 v, .int .u8 0, .int .i64 0, .int .i64 s] := by rw [hm, hs]; rfl
  have HOP := Lib.hid hop
  rw [hop]
  have H0 := Lib.hid h
  have hr := h.2.2.2.1
  have hcu := h.2.2.2.2
  clear h hv hop hm hs
  go_enter Try.func56, Try.ntmps56
  go_upto_region 1 with fail
  have hi := H0.out.fr0 ((Fr.refl [] w).alloc (.cells #[.int .i64 m, .int .i64 v, .int .u8 0, .int .i64 0, .int .i64 s] 93))
  have hp := Row.new w [.int .i64 m, .int .i64 v, .int .u8 0, .int .i64 0, .int .i64 s] 93
  have hf := (Fr.refl [b] w).alloc (.cells #[.int .i64 m, .int .i64 v, .int .u8 0, .int .i64 0, .int .i64 s] 93)
  clear H0
  generalize w.alloc (.cells #[.int .i64 m, .int .i64 v, .int .u8 0, .int .i64 0, .int .i64 s] 93) = w1 at hi hp hf ⊢
  generalize w.heap.size = n0 at hp ⊢
  have H := Lib.hid hi; have HP := Lib.hid hp; have HF := Lib.hid hf
  have c0 := hi.1.cell' (j := 0) rfl
  have c1 := hi.1.cell' (j := 1) rfl
  have c2 := hi.1.cell' (j := 2) rfl
  clear hi hp hf
  by_cases h1 : num < 1
  · have HC : Hid (putCode r cum f num = 91) := Lib.hid (by rw [putCode, if_pos (.inl h1)])
    go_wp2_with fail
    go_ret
    rw [HC.out, putF_no HC.out (by decide)]
    exact ⟨rfl, H.out, HF.out⟩
  by_cases h2 : 4096 < num
  · have HC : Hid (putCode r cum f num = 91) := Lib.hid (by rw [putCode, if_pos (.inr h2)])
    go_wp2_with fail
    go_ret
    rw [HC.out, putF_no HC.out (by decide)]
    exact ⟨rfl, H.out, HF.out⟩
  obtain ⟨k, rfl⟩ : ∃ k : Nat, num = (k : Int) := ⟨num.toNat, by omega⟩
  have hk1 : 1 ≤ k := by omega
  have hk2 : k ≤ 4096 := by omega
  clear h1 h2
  obtain ⟨x0, hx0⟩ : ∃ x, x = (f k).getD 0 := ⟨_, rfl⟩
  obtain ⟨ok, hok⟩ : ∃ ok, ok = (f k).isSome := ⟨_, rfl⟩
  obtain ⟨mx, hmx⟩ : ∃ m, m = x0.tmod 3 := ⟨_, rfl⟩
  obtain ⟨sx, hsx⟩ : ∃ s, s = wrap64 (-x0) := ⟨_, rfl⟩
  have hopx : opV x0 = .agg #[.int .i64 mx, .int .i64 x0, .int .u8 0, .int .i64 0, .int .i64 sx] := by rw [hmx, hsx]; rfl
  have hl0 : (Instr.lookup 103 (.map (some b)) (.int .i64 (k : Int)) true).run Try.prog w1 = .ok (.tuple #[.agg #[.int .i64 mx, .int .i64 x0, .int .u8 0, .int .i64 0, .int .i64 sx], .bool ok]) w1 := by
    rw [← hopx, hx0, hok]; exact H.out.2.1.look k (wfI (by omega) (by omega))
  have HOK := Lib.hid hok
  clear hx0 hok hopx hmx hsx
  go_upto_region 4 with fail
  have hi := H.out.fr0 ((Fr.refl [] w1).alloc (.cells #[.int .i64 mx, .int .i64 x0, .int .u8 0, .int .i64 0, .int .i64 sx] 93))
  have hp := HP.out.alloc (.cells #[.int .i64 mx, .int .i64 x0, .int .u8 0, .int .i64 0, .int .i64 sx] 93)
  have hf := HF.out.alloc (.cells #[.int .i64 mx, .int .i64 x0, .int .u8 0, .int .i64 0, .int .i64 sx] 93)
  clear H HP HF c0 c1 c2 hl0
  generalize w1.alloc (.cells #[.int .i64 mx, .int .i64 x0, .int .u8 0, .int .i64 0, .int .i64 sx] 93) = w2 at hi hp hf ⊢
  have H := Lib.hid hi; have HP := Lib.hid hp; have HF := Lib.hid hf
  have c0 := hi.1.cell' (j := 0) rfl
  have c1 := hi.1.cell' (j := 1) rfl
  have c2 := hi.1.cell' (j := 2) rfl
  clear hi hp hf
  cases ok with
  | true =>
    have HC : Hid (putCode r cum f k = 92) := Lib.hid (by rw [putCode, if_neg (by omega), if_pos (.inl HOK.out.symm)])
    go_wp2_with fail
    go_ret
    rw [HC.out, putF_no HC.out (by decide)]
    exact ⟨rfl, H.out, HF.out⟩
  | false =>
    by_cases h3 : k ≤ cum
    · have HC : Hid (putCode r cum f k = 92) := Lib.hid (by rw [putCode, if_neg (by omega), if_pos (.inr (by omega))])
      go_wp2_with fail
      go_ret
      rw [HC.out, putF_no HC.out (by decide)]
      exact ⟨rfl, H.out, HF.out⟩
    · obtain ⟨t, ht⟩ : ∃ s, s = cum + r := ⟨_, rfl⟩
      have hsi : (cum : Int) + (r : Int) = (t : Int) := by omega
      have hs2 : t ≤ 8192 := by omega
      have q1 : IntKind.i64.wrap (t : Int) = (t : Int) := IntWalk.i64_in _ (by omega)
      have HN : Hid (¬ ((f k).isSome = true ∨ (k : Int) ≤ cum)) := Lib.hid (by rw [← HOK.out]; simp; omega)
      by_cases h4 : t < k
      · have HC : Hid (putCode r cum f k = 93) := Lib.hid (by rw [putCode, if_neg (by omega), if_neg HN.out, if_pos (by omega)])
        have q2 : decide ((t : Int) < (k : Int)) = true := decide_eq_true (by omega)
        clear ht
        go_wp2_with fail
        go_quiet (fail)
        go_wp2_with fail
        go_ret
        rw [HC.out, putF_no HC.out (by decide)]
        exact ⟨rfl, H.out.drewN _, HF.out.drewN _⟩
      · have HC : Hid (putCode r cum f k = 0) := Lib.hid (by rw [putCode, if_neg (by omega), if_neg HN.out, if_neg (by omega)])
        have q2 : decide ((t : Int) < (k : Int)) = false := decide_eq_false (by omega)
        clear ht
        go_wp2_with fail
        go_quiet (fail)
        have hi := H.out.drewN nq
        have hp := HP.out.drewN nq
        have hf := HF.out.drewN nq
        clear H HP HF c0 c1 c2
        generalize w2.drewN nq = w3 at hi hp hf ⊢
        have H := Lib.hid hi; have HP := Lib.hid hp; have HF := Lib.hid hf
        have c2 := hi.1.cell' (j := 2) rfl
        have p0 := hp.cell' (j := 0) rfl
        have p1 := hp.cell' (j := 1) rfl
        have p2 := hp.cell' (j := 2) rfl
        have p3 := hp.cell' (j := 3) rfl
        have p4 := hp.cell' (j := 4) rfl
        clear hi hp hf
        go_wp2_with fail
        go_still_tail 6, (by kernel_rfl)
        change wpList _ _ _ _ _ w3.drew
        obtain ⟨w4, hrun, hm, hf⟩ := (show MapO w3.drew b f from H.out.2.1).store k hk1 hk2 v HV.out
        rw [HOP.out] at hrun
        have HM := Lib.hid hm; have HF4 := Lib.hid hf
        clear hm hf
        go_wp2_with fail
        go_ret
        rw [HC.out, putF_yes HC.out]
        have hne := H.out.1.neMapO H.out.2.1
        exact ⟨rfl, ⟨(show Row w3.drew g _ _ from H.out.1).fr HF4.out (by simpa using hne), HM.out, H.out.2.2⟩, HF.out.drew.trans1 HF4.out⟩

theorem wpList_dropO {w : World} {ops : Array Oper} {rest : List Oper} {o : Oper} {a : Act} {Q : Exit → Act → World → Prop} (hg : o.guard = none) (m x : Operand)
    (hop : o.op = Op.call { callee := Callee.builtin Builtin.delete, args := #[m, x], argTypes := #[103, 3] }) (b : Nat) (f : Int → Option Int) (hm : a.eval m = .map (some b)) (h : MapO w b f) (k : Int) (hk : (Lit.int .i64 k).wf = true) (hx : a.eval x = .int .i64 k)
    (hK : ∀ w', MapO w' b (upd f k none) → Fr [b] w w' → wpList Try.prog ops Q rest (a.put o.dst (.tuple #[])) w') : wpList Try.prog ops Q (o :: rest) a w := by
  refine wpList_plain hg fun K' hK' => ?_
  obtain ⟨w', hrun, r1, r2⟩ := h.drop k hk o.type
  unfold Oper.wp
  simp [execOp, hop, resolve, invoke, builtin, hm, hx, hrun, Result.andThen]
  exact hK' _ _ (hK w' r1 r2)

/-- what Toss and Pop come to: ok: the next one is here -/
def TossPostO (ok : Bool) (e : Ending) (w' : World) (g b r cum : Nat) (f f' : Int → Option Int) : Prop :=
  (ok = true ∧ e = .returned (.int .i64 0) ∧ Ibo w' g b r cum f') ∨ (ok = false ∧ e = .returned (.int .i64 94) ∧ Ibo w' g b r cum f)
set_option maxRecDepth 100000 in
set_option maxHeartbeats 2000000 in
theorem toss_anyO (g b r cum : Nat) (f : Int → Option Int) (w : World) (h : Ibo w g b r cum f) :
    Calls Try.prog 60 #[.pointer (some ⟨g, 0, none⟩)] w fun e w' =>
      TossPostO (f (cum + 1 : Nat)).isSome e w' g b r cum f (upd f (cum + 1 : Nat) none) ∧ Fr [b] w w' := by
  have H := Lib.hid h
  obtain ⟨k, hk⟩ : ∃ k, k = cum + 1 := ⟨_, rfl⟩
  have hki : (cum : Int) + 1 = (k : Int) := by omega
  have hk2 : k ≤ 4097 := by have := h.2.2.2.2; omega
  obtain ⟨v, hv⟩ : ∃ v, v = (f k).getD 0 := ⟨_, rfl⟩
  obtain ⟨ok, hok⟩ : ∃ ok, ok = (f k).isSome := ⟨_, rfl⟩
  obtain ⟨m, hm⟩ : ∃ m, m = v.tmod 3 := ⟨_, rfl⟩
  obtain ⟨s, hs⟩ : ∃ s, s = wrap64 (-v) := ⟨_, rfl⟩
  have hop : opV v = .agg #[.int .i64 m, .int .i64 v, .int .u8 0, .int .i64 0, .int .i64 s] := by rw [hm, hs]; rfl
  have HH : Hid (∀ w2, Ibo w2 g b r cum f → Calls Try.prog 45 #[.pointer (some ⟨g, 0, none⟩)] w2 fun e w' => e = .returned (.tuple #[.agg #[.int .i64 m, .int .i64 v, .int .u8 0, .int .i64 0, .int .i64 s], .bool ok]) ∧ Fr [] w2 w') := Lib.hid fun w2 h2 => by
    have := head_anyO g b r cum f w2 h2
    rwa [← hk, ← hv, ← hok, hop] at this
  rw [← hk, ← hok]
  have HK := Lib.hid hk
  clear hk hv hok h hm hs hop
  go_enter Try.func60, Try.ntmps60
  go_wp2_with fail
  refine (HH.out _ H.out).mono ?_
  rintro e w2 ⟨rfl, hf2⟩
  have hi := H.out.fr0 hf2
  have HF2 := Lib.hid (hf2.nil [b])
  clear hf2
  have H2 := Lib.hid hi
  clear hi
  go_upto_region 2 with fail
  have hi := H2.out.fr0 ((Fr.refl [] w2).alloc (.cells #[.int .i64 m, .int .i64 v, .int .u8 0, .int .i64 0, .int .i64 s] 93))
  have hf := HF2.out.alloc (.cells #[.int .i64 m, .int .i64 v, .int .u8 0, .int .i64 0, .int .i64 s] 93)
  generalize w2.alloc (.cells #[.int .i64 m, .int .i64 v, .int .u8 0, .int .i64 0, .int .i64 s] 93) = wq at hi hf ⊢
  have HQ := Lib.hid hi; have HF := Lib.hid hf
  clear hi hf HF2 H2
  cases ok with
  | false =>
    go_wp2_with fail
    go_ret
    exact ⟨.inr ⟨rfl, rfl, HQ.out⟩, HF.out⟩
  | true =>
    have c1 := HQ.out.1.cell' (j := 1) rfl
    have c2 := HQ.out.1.cell' (j := 2) rfl
    have q1 : IntKind.i64.wrap (k : Int) = (k : Int) := IntWalk.i64_in _ (by omega)
    go_wp2_with fail
    go_still_tail 9, (by kernel_rfl)
    change wpList _ _ _ _ _ wq.drew
    obtain ⟨w3, hw3⟩ : ∃ w3, w3 = wq.drew := ⟨_, rfl⟩
    rw [← hw3]
    have HQ3 : Hid (Ibo w3 g b r cum f) := Lib.hid (by rw [hw3]; exact HQ.out)
    have HF3 : Hid (Fr [b] w w3) := Lib.hid (by rw [hw3]; exact HF.out.drew)
    clear hw3 c1 c2
    go_wp2_with (at_delete; refine wpList_dropO rfl _ _ rfl b f rfl HQ3.out.2.1 k (wfI (by omega) (by omega)) rfl ?_; intro w4 hm4 hf4; have HM4 := Lib.hid hm4; have HF4 := Lib.hid hf4; clear hm4 hf4)
    go_ret
    have hne := HQ3.out.1.neMapO HQ3.out.2.1
    exact ⟨.inl ⟨rfl, rfl, HQ3.out.1.fr HF4.out (by simpa using hne), HM4.out, HQ3.out.2.2⟩, HF3.out.trans1 HF4.out⟩

def PopPostO (ok : Bool) (e : Ending) (w' : World) (g b r cum k : Nat) (f f' : Int → Option Int) : Prop :=
  (ok = true ∧ e = .returned (.int .i64 0) ∧ Ibo w' g b r k f') ∨ (ok = false ∧ e = .returned (.int .i64 94) ∧ Ibo w' g b r cum f)
set_option maxRecDepth 100000 in
set_option maxHeartbeats 2000000 in
theorem pop_anyO (g b r cum : Nat) (f : Int → Option Int) (w : World) (h : Ibo w g b r cum f) :
    Calls Try.prog 58 #[.pointer (some ⟨g, 0, none⟩)] w fun e w' =>
      PopPostO (f (cum + 1 : Nat)).isSome e w' g b r cum (cum + 1) f (upd f (cum + 1 : Nat) none) ∧ Fr [g, b] w w' := by
  have H := Lib.hid h
  obtain ⟨k, hk⟩ : ∃ k, k = cum + 1 := ⟨_, rfl⟩
  have hki : (cum : Int) + 1 = (k : Int) := by omega
  have hk2 : k ≤ 4097 := by have := h.2.2.2.2; omega
  rw [← hk]
  have HK := Lib.hid hk
  clear hk h
  go_enter Try.func58, Try.ntmps58
  go_wp2_with fail
  refine (toss_anyO g b r cum f _ H.out).mono ?_
  rw [← HK.out]
  rintro e w2 ⟨⟨hok, rfl, hi⟩ | ⟨hok, rfl, hi⟩, hf⟩
  · have HI := Lib.hid hi; have HF := Lib.hid hf; have HOK := Lib.hid hok
    have c1 := hi.1.cell' (j := 1) rfl
    have f1 := hi.1.free 1
    clear hi hf hok
    go_wp2_with fail
    go_ret
    have hne := HI.out.1.neMapO HI.out.2.1
    obtain ⟨j, hj1, hj2, hj⟩ := H.out.2.1.key HOK.out
    refine ⟨.inl ⟨HOK.out, rfl, HI.out.1.set 1 _, HI.out.2.1.fr ((Fr.refl [g] _).setCell (a := ⟨g, 1, none⟩) _ (fun _ => by simp)) (by simpa using fun h => hne h.symm), HI.out.2.2.1, HI.out.2.2.2.1, by omega⟩, ?_⟩
    exact (HF.out.mono (T := [g, b]) (by simp)).setCell (a := ⟨g, 1, none⟩) _ (fun _ => by simp)
  · have HI := Lib.hid hi; have HF := Lib.hid hf; have HOK := Lib.hid hok
    clear hi hf hok
    go_wp2_with fail
    go_ret
    exact ⟨.inr ⟨HOK.out, rfl, HI.out⟩, HF.out.mono (T := [g, b]) (by simp)⟩
end Go.Proofs.Ytjhemoekmlhlpaa
