/- Contracts: inbox.Inbox[int]: New, Head, Put, Toss, Pop, Cum. -/
import Derived.Test.YtjhemoekmlhlpaaMapI
import Derived.Laws.Tables
import Derived.StillTailTactics
namespace Go.Proofs.Ytjhemoekmlhlpaa
open Go Go.RowKit
set_option linter.unusedVariables false

/-- an inbox at block g, its map at b: r numbers from cum + 1 on, f holds what is here -/
def Ibx (w : World) (g b : Nat) (r cum : Nat) (f : Int → Option Int) : Prop :=
  Row w g [.int .i64 r, .int .i64 cum, .map (some b)] 82 ∧ MapF w b f ∧ 1 ≤ r ∧ r ≤ 4096 ∧ cum ≤ 4096
theorem Ibx.fr {w w' : World} {g b r cum : Nat} {f : Int → Option Int} {S : List Nat} (h : Ibx w g b r cum f) (fr : Fr S w w') (hg : g ∉ S) (hb : b ∉ S) : Ibx w' g b r cum f :=
  ⟨h.1.fr fr hg, h.2.1.fr fr hb, h.2.2⟩
theorem Ibx.fr0 {w w' : World} {g b r cum : Nat} {f : Int → Option Int} (h : Ibx w g b r cum f) (fr : Fr [] w w') : Ibx w' g b r cum f := h.fr fr (by simp) (by simp)
theorem Ibx.drewN {w : World} {g b r cum : Nat} {f : Int → Option Int} (h : Ibx w g b r cum f) (n : Nat) : Ibx (w.drewN n) g b r cum f := h
theorem MapF.key {w : World} {b : Nat} {f : Int → Option Int} (h : MapF w b f) {k : Int} (hk : (f k).isSome = true) : ∃ j : Nat, 1 ≤ j ∧ j ≤ 4096 ∧ k = j := by
  obtain ⟨D, _, hhas, _, hkeys⟩ := h
  obtain ⟨j, h1, h2, he⟩ := hkeys (.int .i64 k) (by rw [hhas]; exact hk)
  exact ⟨j, h1, h2, by injection he⟩

theorem built_inb (x : Int) (b : Nat) (w : World) : (Instr.build 82 #[(0, .int .i64 x), (2, .map (some b))]).run Try.prog w = .ok (.agg #[.int .i64 x, .int .i64 0, .map (some b)]) w := run_build w _ _ _ (by kernel_rfl)
set_option maxRecDepth 100000 in
theorem new_ok (r : Nat) (w : World) (h1 : 1 ≤ r) (h2 : r ≤ 4096) :
    Calls Try.prog 12 #[.int .i64 r] w fun e w' => ∃ g b, e = .returned (.tuple #[.pointer (some ⟨g, 0, none⟩), .int .i64 0]) ∧ w.heap.size ≤ g ∧ w.heap.size ≤ b ∧ Ibx w' g b r 0 (fun _ => none) ∧ Fr [] w w' := by
  have hmm := @run_makeMap Try.prog
  have hbd := fun w => built_inb r w.heap.size w
  go_enter Try.func12, Try.ntmps12
  go_wp2_with fail
  go_ret2
  have hsz : (w.alloc (.map #[] 0)).heap.size = w.heap.size + 1 := by simp
  have hr := Row.new (w.alloc (.map #[] 0)) [.int .i64 r, .int .i64 0, .map (some w.heap.size)] 82
  rw [hsz] at hr
  exact ⟨w.heap.size + 1, w.heap.size, rfl, Nat.le_succ _, Nat.le_refl _, ⟨hr, (MapF.made w).fr ((Fr.refl [] _).alloc _) (by simp), h1, h2, by omega⟩, ((Fr.refl [] w).alloc _).alloc _⟩

set_option maxRecDepth 100000 in
theorem cum_any (g b r cum : Nat) (f : Int → Option Int) (w : World) (h : Ibx w g b r cum f) :
    Calls Try.prog 18 #[.pointer (some ⟨g, 0, none⟩)] w fun e w' => e = .returned (.int .i64 cum) ∧ w = w' := by
  have c1 := h.1.cell' (j := 1) rfl
  clear h
  go_enter Try.func18, Try.ntmps18
  go_wp2_with fail
  go_ret
  exact ⟨rfl, rfl⟩

set_option maxRecDepth 100000 in
theorem head_any (g b r cum : Nat) (f : Int → Option Int) (w : World) (h : Ibx w g b r cum f) :
    Calls Try.prog 16 #[.pointer (some ⟨g, 0, none⟩)] w fun e w' => e = .returned (.tuple #[.int .i64 ((f (cum + 1 : Nat)).getD 0), .bool (f (cum + 1 : Nat)).isSome]) ∧ ∃ n, w' = w.drewN n := by
  have c1 := h.1.cell' (j := 1) rfl
  have c2 := h.1.cell' (j := 2) rfl
  obtain ⟨k, hk⟩ : ∃ k, k = cum + 1 := ⟨_, rfl⟩
  have hki : (cum : Int) + 1 = (k : Int) := by omega
  have hk2 : k ≤ 4097 := by have := h.2.2.2.2; omega
  have q1 : IntKind.i64.wrap (k : Int) = (k : Int) := IntWalk.i64_in _ (by omega)
  obtain ⟨v, hv⟩ : ∃ v, v = (f k).getD 0 := ⟨_, rfl⟩
  obtain ⟨ok, hok⟩ : ∃ ok, ok = (f k).isSome := ⟨_, rfl⟩
  have hl : ∀ n, (Instr.lookup 80 (.map (some b)) (.int .i64 (k : Int)) true).run Try.prog (w.drewN n) = .ok (.tuple #[.int .i64 v, .bool ok]) (w.drewN n) := fun n => by
    rw [hv, hok]; exact (h.2.1.drewN n).look k (wfI (by omega) (by omega))
  have hl0 : (Instr.lookup 80 (.map (some b)) (.int .i64 (k : Int)) true).run Try.prog w = .ok (.tuple #[.int .i64 v, .bool ok]) w := hl 0
  rw [← hk, ← hv, ← hok]
  clear hk hv hok h
  go_enter Try.func16, Try.ntmps16
  go_wp2_with fail
  go_quiet (fail)
  go_wp2_with fail
  go_ret2
  exact ⟨rfl, _, rfl⟩

def putCode (r cum : Nat) (f : Int → Option Int) (num : Int) : Int :=
  if num < 1 ∨ 4096 < num then 91 else if (f num).isSome = true ∨ num ≤ cum then 92 else if (cum : Int) + r < num then 93 else 0

def putF (r cum : Nat) (f : Int → Option Int) (num v : Int) : Int → Option Int := if putCode r cum f num = 0 then upd f num (some v) else f
theorem putF_no {r cum : Nat} {f : Int → Option Int} {num v c : Int} (h : putCode r cum f num = c) (hc : c ≠ 0) : putF r cum f num v = f := if_neg (by rw [h]; exact hc)
theorem putF_yes {r cum : Nat} {f : Int → Option Int} {num v : Int} (h : putCode r cum f num = 0) : putF r cum f num v = upd f num (some v) := if_pos h
set_option maxRecDepth 100000 in
set_option maxHeartbeats 2000000 in
theorem put_any (g b r cum : Nat) (f : Int → Option Int) (num v : Int) (w : World) (h : Ibx w g b r cum f) (hv : (Lit.int .i64 v).wf = true) :
    Calls Try.prog 15 #[.pointer (some ⟨g, 0, none⟩), .int .i64 num, .int .i64 v] w fun e w' => e = .returned (.int .i64 (putCode r cum f num)) ∧ Ibx w' g b r cum (putF r cum f num v) ∧ Fr [b] w w' := by
  have H := Lib.hid h; have HV := Lib.hid hv
  have c0 := h.1.cell' (j := 0) rfl
  have c1 := h.1.cell' (j := 1) rfl
  have c2 := h.1.cell' (j := 2) rfl
  have hr := h.2.2.2.1
  have hcu := h.2.2.2.2
  clear h hv
  by_cases h1 : num < 1
  · have HC : Hid (putCode r cum f num = 91) := Lib.hid (by rw [putCode, if_pos (.inl h1)])
    go_enter Try.func15, Try.ntmps15
    go_wp2_with fail
    go_ret
    rw [HC.out, putF_no HC.out (by decide)]
    exact ⟨rfl, H.out, Fr.refl _ _⟩
  by_cases h2 : 4096 < num
  · have HC : Hid (putCode r cum f num = 91) := Lib.hid (by rw [putCode, if_pos (.inr h2)])
    go_enter Try.func15, Try.ntmps15
    go_wp2_with fail
    go_ret
    rw [HC.out, putF_no HC.out (by decide)]
    exact ⟨rfl, H.out, Fr.refl _ _⟩
  obtain ⟨k, rfl⟩ : ∃ k : Nat, num = (k : Int) := ⟨num.toNat, by omega⟩
  have hk1 : 1 ≤ k := by omega
  have hk2 : k ≤ 4096 := by omega
  clear h1 h2
  obtain ⟨x0, hx0⟩ : ∃ x, x = (f k).getD 0 := ⟨_, rfl⟩
  obtain ⟨ok, hok⟩ : ∃ ok, ok = (f k).isSome := ⟨_, rfl⟩
  have hl0 : (Instr.lookup 80 (.map (some b)) (.int .i64 (k : Int)) true).run Try.prog w = .ok (.tuple #[.int .i64 x0, .bool ok]) w := by
    rw [hx0, hok]; exact H.out.2.1.look k (wfI (by omega) (by omega))
  have HOK := Lib.hid hok
  clear hx0 hok
  cases ok with
  | true =>
    have HC : Hid (putCode r cum f k = 92) := Lib.hid (by rw [putCode, if_neg (by omega), if_pos (.inl HOK.out.symm)])
    go_enter Try.func15, Try.ntmps15
    go_wp2_with fail
    go_ret
    rw [HC.out, putF_no HC.out (by decide)]
    exact ⟨rfl, H.out, Fr.refl _ _⟩
  | false =>
    by_cases h3 : k ≤ cum
    · have HC : Hid (putCode r cum f k = 92) := Lib.hid (by rw [putCode, if_neg (by omega), if_pos (.inr (by omega))])
      go_enter Try.func15, Try.ntmps15
      go_wp2_with fail
      go_ret
      rw [HC.out, putF_no HC.out (by decide)]
      exact ⟨rfl, H.out, Fr.refl _ _⟩
    · obtain ⟨s, hs⟩ : ∃ s, s = cum + r := ⟨_, rfl⟩
      have hsi : (cum : Int) + (r : Int) = (s : Int) := by omega
      have hs2 : s ≤ 8192 := by omega
      have q1 : IntKind.i64.wrap (s : Int) = (s : Int) := IntWalk.i64_in _ (by omega)
      have HN : Hid (¬ ((f k).isSome = true ∨ (k : Int) ≤ cum)) := Lib.hid (by rw [← HOK.out]; simp; omega)
      by_cases h4 : s < k
      · have HC : Hid (putCode r cum f k = 93) := Lib.hid (by rw [putCode, if_neg (by omega), if_neg HN.out, if_pos (by omega)])
        have q2 : decide ((s : Int) < (k : Int)) = true := decide_eq_true (by omega)
        clear hs
        go_enter Try.func15, Try.ntmps15
        go_wp2_with fail
        go_quiet (fail)
        go_wp2_with fail
        go_ret
        rw [HC.out, putF_no HC.out (by decide)]
        exact ⟨rfl, H.out.drewN _, (Fr.refl _ _).drewN _⟩
      · have HC : Hid (putCode r cum f k = 0) := Lib.hid (by rw [putCode, if_neg (by omega), if_neg HN.out, if_neg (by omega)])
        have q2 : decide ((s : Int) < (k : Int)) = false := decide_eq_false (by omega)
        clear hs
        go_enter Try.func15, Try.ntmps15
        go_wp2_with fail
        go_quiet (fail)
        obtain ⟨w2, hrun, hm, hf⟩ := (H.out.2.1.drewN nq).store k hk1 hk2 v HV.out
        have HM := Lib.hid hm; have HF := Lib.hid hf
        clear hm hf
        go_wp2_with fail
        go_ret
        rw [HC.out, putF_yes HC.out]
        have hne := (H.out.1.drewN nq).neMap (H.out.2.1.drewN nq)
        exact ⟨rfl, ⟨(H.out.1.drewN nq).fr HF.out (by simpa using hne), HM.out, H.out.2.2⟩, ((Fr.refl [b] w).drewN nq).trans1 HF.out⟩

theorem wpList_drop {w : World} {ops : Array Oper} {rest : List Oper} {o : Oper} {a : Act} {Q : Exit → Act → World → Prop} (hg : o.guard = none) (m x : Operand)
    (hop : o.op = Op.call { callee := Callee.builtin Builtin.delete, args := #[m, x], argTypes := #[80, 3] }) (b : Nat) (f : Int → Option Int) (hm : a.eval m = .map (some b)) (h : MapF w b f) (k : Int) (hk : (Lit.int .i64 k).wf = true) (hx : a.eval x = .int .i64 k)
    (hK : ∀ w', MapF w' b (upd f k none) → Fr [b] w w' → wpList Try.prog ops Q rest (a.put o.dst (.tuple #[])) w') : wpList Try.prog ops Q (o :: rest) a w := by
  refine wpList_plain hg fun K' hK' => ?_
  obtain ⟨w', hrun, r1, r2⟩ := h.drop k hk o.type
  unfold Oper.wp
  simp [execOp, hop, resolve, invoke, builtin, hm, hx, hrun, Result.andThen]
  exact hK' _ _ (hK w' r1 r2)

/-- what Toss and Pop come to: ok: the next one is here -/
def TossPost (ok : Bool) (e : Ending) (w' : World) (g b r cum : Nat) (f f' : Int → Option Int) : Prop :=
  (ok = true ∧ e = .returned (.int .i64 0) ∧ Ibx w' g b r cum f') ∨ (ok = false ∧ e = .returned (.int .i64 94) ∧ Ibx w' g b r cum f)
set_option maxRecDepth 100000 in
set_option maxHeartbeats 2000000 in
theorem toss_any (g b r cum : Nat) (f : Int → Option Int) (w : World) (h : Ibx w g b r cum f) :
    Calls Try.prog 37 #[.pointer (some ⟨g, 0, none⟩)] w fun e w' =>
      TossPost (f (cum + 1 : Nat)).isSome e w' g b r cum f (upd f (cum + 1 : Nat) none) ∧ Fr [b] w w' := by
  have H := Lib.hid h
  obtain ⟨k, hk⟩ : ∃ k, k = cum + 1 := ⟨_, rfl⟩
  have hki : (cum : Int) + 1 = (k : Int) := by omega
  have hk2 : k ≤ 4097 := by have := h.2.2.2.2; omega
  obtain ⟨v, hv⟩ : ∃ v, v = (f k).getD 0 := ⟨_, rfl⟩
  obtain ⟨ok, hok⟩ : ∃ ok, ok = (f k).isSome := ⟨_, rfl⟩
  have HH : Hid (∀ w2, Ibx w2 g b r cum f → Calls Try.prog 16 #[.pointer (some ⟨g, 0, none⟩)] w2 fun e w' => e = .returned (.tuple #[.int .i64 v, .bool ok]) ∧ ∃ n, w' = w2.drewN n) := Lib.hid fun w2 h2 => by
    have := head_any g b r cum f w2 h2
    rwa [← hk, ← hv, ← hok] at this
  rw [← hk, ← hok]
  have HK := Lib.hid hk
  clear hk hv hok h
  go_enter Try.func37, Try.ntmps37
  go_wp2_with fail
  refine (HH.out _ H.out).mono ?_
  rintro e w2 ⟨rfl, nd, rfl⟩
  cases ok with
  | false =>
    go_wp2_with fail
    go_ret
    exact ⟨.inr ⟨rfl, rfl, H.out.drewN nd⟩, (Fr.refl _ _).drewN nd⟩
  | true =>
    obtain ⟨wq, hwq⟩ : ∃ wq, wq = w.drewN nd := ⟨_, rfl⟩
    rw [← hwq]
    have HQ : Hid (Ibx wq g b r cum f) := Lib.hid (by rw [hwq]; exact H.out.drewN nd)
    have HF : Hid (Fr [b] w wq) := Lib.hid (by rw [hwq]; exact (Fr.refl _ _).drewN nd)
    clear hwq
    have c1 := HQ.out.1.cell' (j := 1) rfl
    have c2 := HQ.out.1.cell' (j := 2) rfl
    have q1 : IntKind.i64.wrap (k : Int) = (k : Int) := IntWalk.i64_in _ (by omega)
    go_wp2_with fail
    go_still_tail 9, (by kernel_rfl)
    change wpList _ _ _ _ _ wq.drew
    obtain ⟨w3, hw3⟩ : ∃ w3, w3 = wq.drew := ⟨_, rfl⟩
    rw [← hw3]
    have HQ3 : Hid (Ibx w3 g b r cum f) := Lib.hid (by rw [hw3]; exact HQ.out)
    have HF3 : Hid (Fr [b] w w3) := Lib.hid (by rw [hw3]; exact HF.out.drew)
    clear hw3 c1 c2
    go_wp2_with (at_delete; refine wpList_drop rfl _ _ rfl b f rfl HQ3.out.2.1 k (wfI (by omega) (by omega)) rfl ?_; intro w4 hm4 hf4; have HM4 := Lib.hid hm4; have HF4 := Lib.hid hf4; clear hm4 hf4)
    go_ret
    have hne := HQ3.out.1.neMap HQ3.out.2.1
    exact ⟨.inl ⟨rfl, rfl, HQ3.out.1.fr HF4.out (by simpa using hne), HM4.out, HQ3.out.2.2⟩, HF3.out.trans1 HF4.out⟩

def PopPost (ok : Bool) (e : Ending) (w' : World) (g b r cum k : Nat) (f f' : Int → Option Int) : Prop :=
  (ok = true ∧ e = .returned (.int .i64 0) ∧ Ibx w' g b r k f') ∨ (ok = false ∧ e = .returned (.int .i64 94) ∧ Ibx w' g b r cum f)
set_option maxRecDepth 100000 in
set_option maxHeartbeats 2000000 in
theorem pop_any (g b r cum : Nat) (f : Int → Option Int) (w : World) (h : Ibx w g b r cum f) :
    Calls Try.prog 17 #[.pointer (some ⟨g, 0, none⟩)] w fun e w' =>
      PopPost (f (cum + 1 : Nat)).isSome e w' g b r cum (cum + 1) f (upd f (cum + 1 : Nat) none) ∧ Fr [g, b] w w' := by
  have H := Lib.hid h
  obtain ⟨k, hk⟩ : ∃ k, k = cum + 1 := ⟨_, rfl⟩
  have hki : (cum : Int) + 1 = (k : Int) := by omega
  have hk2 : k ≤ 4097 := by have := h.2.2.2.2; omega
  rw [← hk]
  have HK := Lib.hid hk
  clear hk h
  go_enter Try.func17, Try.ntmps17
  go_wp2_with fail
  refine (toss_any g b r cum f _ H.out).mono ?_
  rw [← HK.out]
  rintro e w2 ⟨⟨hok, rfl, hi⟩ | ⟨hok, rfl, hi⟩, hf⟩
  · have HI := Lib.hid hi; have HF := Lib.hid hf; have HOK := Lib.hid hok
    have c1 := hi.1.cell' (j := 1) rfl
    have f1 := hi.1.free 1
    clear hi hf hok
    go_wp2_with fail
    go_ret
    have hne := HI.out.1.neMap HI.out.2.1
    obtain ⟨j, hj1, hj2, hj⟩ := H.out.2.1.key HOK.out
    refine ⟨.inl ⟨HOK.out, rfl, HI.out.1.set 1 _, HI.out.2.1.fr ((Fr.refl [g] _).setCell (a := ⟨g, 1, none⟩) _ (fun _ => by simp)) (by simpa using fun h => hne h.symm), HI.out.2.2.1, HI.out.2.2.2.1, by omega⟩, ?_⟩
    exact (HF.out.mono (T := [g, b]) (by simp)).setCell (a := ⟨g, 1, none⟩) _ (fun _ => by simp)
  · have HI := Lib.hid hi; have HF := Lib.hid hf; have HOK := Lib.hid hok
    clear hi hf hok
    go_wp2_with fail
    go_ret
    exact ⟨.inr ⟨HOK.out, rfl, HI.out⟩, HF.out.mono (T := [g, b]) (by simp)⟩
end Go.Proofs.Ytjhemoekmlhlpaa
