/- Contracts: jotterref01's Reader. -/
import Derived.Test.YtoooflagkhpnkaaDoorReadB
import Derived.Test.YtoooflagkhpnkaaDoorRefC
import Derived.StillTailTactics
namespace Go.Proofs.YtoooflagkhpnkaaDoor
open Go Go.RowKit
set_option linter.unusedVariables false

def codeOf : Option Nat → Int
  | none => 0
  | some _ => 10
def placeOf : Option Nat → Int
  | none => -1
  | some p => p
def RefR (w : World) (g : Nat) (s : RdS) : Prop :=
  ∃ gb n, n = s.l.length ∧ s.pos ≤ n ∧ n ≤ 100000 ∧ Row w g [.slice (some ⟨gb, 0, none⟩) n n, .int .i64 s.pos, .int .i64 (codeOf s.bad), .int .i64 (placeOf s.bad)] 80 ∧ Row w gb (bs s.l) 5
theorem RefR.frS {w w' : World} {g : Nat} {s : RdS} {S : List Nat} (h : RefR w g s) (f : Fr S w w') (h1 : g ∉ S) (h2 : ∀ x ∈ S, ∃ c T, Row w x c T ∧ T ≠ 5 ∧ T ≠ 86) : RefR w' g s := by
  obtain ⟨gb, n, hn, hp, hn1, hrow, hbs⟩ := h
  refine ⟨gb, n, hn, hp, hn1, hrow.fr f h1, hbs.fr f fun hg => ?_⟩
  obtain ⟨c, T, hT, h3, _⟩ := h2 gb hg
  exact (hT.ne hbs h3) rfl
theorem RefR.fr0 {w w' : World} {g : Nat} {s : RdS} (h : RefR w g s) (f : Fr [] w w') : RefR w' g s := h.frS f (by simp) (by simp)
theorem RefR.drewN {w : World} {g : Nat} {s : RdS} (h : RefR w g s) (n : Nat) : RefR (w.drewN n) g s := h
theorem RefR.row {w : World} {g : Nat} {s : RdS} (h : RefR w g s) : ∃ c, Row w g c 80 := by
  obtain ⟨gb, n, hn, hp, hn1, hrow, hbs⟩ := h
  exact ⟨_, hrow⟩
theorem RefR.pos_le {w : World} {g : Nat} {s : RdS} (h : RefR w g s) : s.pos ≤ s.l.length ∧ s.l.length ≤ 100000 := by
  obtain ⟨gb, n, hn, hp, hn1, _⟩ := h
  omega

theorem copied_at (a : Option Addr) (l : List UInt8) (n c : Nat) (w : World) (hn : n = l.length) (h : BytesAt w a l) (hm : n ≤ 281474976710656) :
    Calls Tryd.prog 53 #[.slice a n c] w (RetMade w l) := by
  subst hn
  exact copied_any a l c w h hm
theorem built_ref (a : Option Addr) (n c : Nat) (w : World) : (Instr.build 80 #[(0, .slice a n c), (3, .int .i64 (-1))]).run Tryd.prog w = .ok (.agg #[.slice a n c, .int .i64 0, .int .i64 0, .int .i64 (-1)]) w := run_build w _ _ _ (by kernel_rfl)
set_option maxRecDepth 100000 in
set_option maxHeartbeats 1000000 in
theorem newRef_any (a : Option Addr) (l : List UInt8) (n c : Nat) (w : World) (hn : n = l.length) (h : BytesAt w a l) (hm : n ≤ 100000) :
    Calls Tryd.prog 34 #[.slice a n c] w fun e w' => ∃ g, e = .returned (.pointer (some ⟨g, 0, none⟩)) ∧ w.heap.size ≤ g ∧ RefR w' g ⟨l, 0, none⟩ ∧ Fr [] w w' := by
  have HN := Lib.hid hn
  clear hn
  go_enter Tryd.func34, Tryd.ntmps34
  go_wp2_with fail
  rw [HN.out]
  refine (copied_any a l c _ h (by have := HN.out; omega)).mono ?_
  rw [← HN.out]
  rintro e w1 hr
  obtain ⟨g, rfl, hg, hr, hf⟩ := hr.open n HN.out
  have hbd := built_ref (some ⟨g, 0, none⟩) n n w1
  go_wp2_with fail
  go_ret
  refine ⟨_, rfl, hf.size, ⟨g, n, HN.out, Nat.zero_le _, hm, Row.new w1 _ _, hr.alloc _⟩, hf.alloc _⟩

theorem refAt_any (g : Nat) (s : RdS) (w : World) (h : RefR w g s) :
    Calls Tryd.prog 60 #[.pointer (some ⟨g, 0, none⟩)] w fun e w' => e = .returned (.int .i64 s.pos) ∧ w = w' := by
  obtain ⟨gb, n, hn, hp, hn1, hrow, hbs⟩ := h
  have c1 := hrow.cell' (j := 1) rfl
  clear hrow hbs hn hp
  go_enter Tryd.func60, Tryd.ntmps60
  go_wp2_with fail
  go_ret
  exact ⟨rfl, rfl⟩
theorem refErr_any (g : Nat) (s : RdS) (w : World) (h : RefR w g s) :
    Calls Tryd.prog 62 #[.pointer (some ⟨g, 0, none⟩)] w fun e w' => e = .returned (.tuple #[.int .i64 (codeOf s.bad), .int .i64 (placeOf s.bad)]) ∧ ∃ n, w' = w.drewN n := by
  obtain ⟨gb, n, hn, hp, hn1, hrow, hbs⟩ := h
  have c2 := hrow.cell' (j := 2) rfl
  have c3 := hrow.cell' (j := 3) rfl
  generalize codeOf s.bad = c at *
  generalize placeOf s.bad = p at *
  clear hrow hbs hn hp
  go_enter Tryd.func62, Tryd.ntmps62
  go_wp2_with fail
  go_quiet (fail)
  go_wp2_with fail
  go_ret2
  exact ⟨rfl, _, rfl⟩
theorem refLeft_any (g : Nat) (s : RdS) (w : World) (h : RefR w g s) :
    Calls Tryd.prog 61 #[.pointer (some ⟨g, 0, none⟩)] w fun e w' => e = .returned (.int .i64 ((s.l.length - s.pos : Nat) : Int)) ∧ ∃ n, w' = w.drewN n := by
  obtain ⟨l, p, bad⟩ := s
  obtain ⟨gb, n, hn, hp, hn1, hrow, hbs⟩ := h
  simp only at hn hp hrow hbs ⊢
  rw [← hn]
  have c0 := hrow.cell' (j := 0) rfl
  have c1 := hrow.cell' (j := 1) rfl
  obtain ⟨d, hd⟩ : ∃ d, d = n - p := ⟨_, rfl⟩
  have hdi : (n : Int) - (p : Int) = (d : Int) := by omega
  have q1 : IntKind.i64.wrap (d : Int) = (d : Int) := IntWalk.i64_in _ (by omega)
  rw [← hd]
  clear hrow hbs hn hp hd
  go_enter Tryd.func61, Tryd.ntmps61
  go_wp2_with fail
  go_quiet (fail)
  go_wp2_with fail
  go_ret
  exact ⟨rfl, _, rfl⟩

set_option maxRecDepth 100000 in
set_option maxHeartbeats 1000000 in
theorem refTake_stay (g : Nat) (s : RdS) (x : Int) (e0 : Nat) (w : World) (h : RefR w g s) (hb : s.bad = some e0) :
    Calls Tryd.prog 59 #[.pointer (some ⟨g, 0, none⟩), .int .i64 x] w fun e w' => e = .returned (.slice none 0 0) ∧ w = w' := by
  obtain ⟨l, p, bad⟩ := s
  simp only at hb
  subst hb
  obtain ⟨gb, n, hn, hp, hn1, hrow, hbs⟩ := h
  have c2 : w.cell? ⟨g, 2, none⟩ = some (.int .i64 10) := hrow.cell' (j := 2) rfl
  clear hn hrow hbs hp
  go_enter Tryd.func59, Tryd.ntmps59
  go_wp2_with fail
  go_ret
  exact ⟨rfl, rfl⟩

set_option maxRecDepth 100000 in
set_option maxHeartbeats 1000000 in
theorem refTake_err (g : Nat) (s : RdS) (x : Int) (w : World) (h : RefR w g s) (hb : s.bad = none) (hx : x < 0 ∨ (s.l.length : Int) - s.pos < x) :
    Calls Tryd.prog 59 #[.pointer (some ⟨g, 0, none⟩), .int .i64 x] w fun e w' => e = .returned (.slice none 0 0) ∧ RefR w' g { s with bad := some s.pos } ∧ Fr [g] w w' := by
  obtain ⟨l, p, bad⟩ := s
  simp only at hb hx
  subst hb
  obtain ⟨gb, n, hn, hp, hn1, hrow, hbs⟩ := h
  simp only at hn hp hrow hbs
  rw [← hn] at hx
  have c0 := hrow.cell' (j := 0) rfl
  have c1 := hrow.cell' (j := 1) rfl
  have c2 : w.cell? ⟨g, 2, none⟩ = some (.int .i64 0) := hrow.cell' (j := 2) rfl
  have c3 : w.cell? ⟨g, 3, none⟩ = some (.int .i64 (-1)) := hrow.cell' (j := 3) rfl
  have f2 := hrow.free 2
  have f3 := hrow.free 3
  obtain ⟨d, hd⟩ : ∃ d, d = n - p := ⟨_, rfl⟩
  have hdi : (n : Int) - (p : Int) = (d : Int) := by omega
  have q1 : IntKind.i64.wrap (d : Int) = (d : Int) := IntWalk.i64_in _ (by omega)
  rw [hdi] at hx
  have HN := Lib.hid hn; have HROW := Lib.hid hrow; have HBS := Lib.hid hbs; have HP := Lib.hid hp
  clear hn hrow hbs hd hp
  have fin : ∀ (m : Nat), RefR (((w.drewN m).setCell ⟨g, 2, none⟩ (.int .i64 10)).setCell ⟨g, 3, none⟩ (.int .i64 p)) g { l := l, pos := p, bad := some p } ∧ Fr [g] w (((w.drewN m).setCell ⟨g, 2, none⟩ (.int .i64 10)).setCell ⟨g, 3, none⟩ (.int .i64 p)) := by
    intro m
    have hne := HROW.out.ne HBS.out (by decide)
    refine ⟨⟨gb, n, HN.out, HP.out, hn1, (((HROW.out.drewN m).set 2 _).set 3 _), ((HBS.out.drewN m).set_other (fun h => hne h.symm) _).set_other (fun h => hne h.symm) _⟩, (((Fr.refl [g] w).drewN m).setCell (a := ⟨g, 2, none⟩) _ (fun _ => by simp)).setCell (a := ⟨g, 3, none⟩) _ (fun _ => by simp)⟩
  have FIN := Lib.hid fin
  clear fin
  by_cases hx0 : x < 0
  · have q3 : decide (x < 0) = true := decide_eq_true hx0
    clear hx hx0
    go_enter Tryd.func59, Tryd.ntmps59
    go_wp2_with fail
    go_quiet (fail)
    go_wp2_with fail
    go_ret
    exact ⟨rfl, FIN.out _⟩
  · have q3 : decide (x < 0) = false := decide_eq_false hx0
    have q2 : decide ((d : Int) < x) = true := decide_eq_true (by omega)
    clear hx hx0
    go_enter Tryd.func59, Tryd.ntmps59
    go_wp2_with fail
    go_quiet (fail)
    go_wp2_with fail
    go_ret
    exact ⟨rfl, FIN.out _⟩

set_option maxRecDepth 100000 in
set_option maxHeartbeats 1000000 in
theorem refTake_ok (g : Nat) (s : RdS) (k : Nat) (w : World) (h : RefR w g s) (hb : s.bad = none) (hk : s.pos + k ≤ s.l.length) :
    Calls Tryd.prog 59 #[.pointer (some ⟨g, 0, none⟩), .int .i64 k] w fun e w' => ∃ gx, e = .returned (.slice (some ⟨gx, 0, none⟩) k k) ∧ w.heap.size ≤ gx ∧ Row w' gx (bs ((s.l.drop s.pos).take k)) 5 ∧ RefR w' g { s with pos := s.pos + k } ∧ Fr [g] w w' := by
  obtain ⟨l, p, bad⟩ := s
  simp only at hb hk
  subst hb
  obtain ⟨gb, n, hn, hp, hn1, hrow, hbs⟩ := h
  simp only at hn hp hrow hbs
  have c0 := hrow.cell' (j := 0) rfl
  have c1 := hrow.cell' (j := 1) rfl
  have c2 : w.cell? ⟨g, 2, none⟩ = some (.int .i64 0) := hrow.cell' (j := 2) rfl
  obtain ⟨d, hd⟩ : ∃ d, d = n - p := ⟨_, rfl⟩
  have hdi : (n : Int) - (p : Int) = (d : Int) := by omega
  have q1 : IntKind.i64.wrap (d : Int) = (d : Int) := IntWalk.i64_in _ (by omega)
  have q2 : decide ((d : Int) < (k : Int)) = false := decide_eq_false (by omega)
  have q3 : decide ((k : Int) < 0) = false := by simp
  obtain ⟨q, hq⟩ : ∃ q, q = p + k := ⟨_, rfl⟩
  have hqi : (p : Int) + (k : Int) = (q : Int) := by omega
  have q4 : IntKind.i64.wrap (q : Int) = (q : Int) := IntWalk.i64_in _ (by omega)
  have hpq : p ≤ q := by omega
  have hqn : q ≤ n := by omega
  have hqp : q - p = k := by omega
  obtain ⟨A, hA, hby⟩ : ∃ A, (if n = p then (some ⟨gb, 0, none⟩ : Option Addr) else some ⟨gb, p, none⟩) = A ∧ BytesAt w A ((l.drop p).take k) := by
    refine ⟨_, rfl, ?_⟩
    split
    · have : k = 0 := by omega
      rw [this]; exact .inl rfl
    · have := ((BytesAt.ofRow hbs).drop p).take k
      rwa [Nat.zero_add] at this
  have HN := Lib.hid hn; have HROW := Lib.hid hrow; have HBS := Lib.hid hbs; have HQ := Lib.hid hq
  have HK := Lib.hid hk; have HBY := Lib.hid hby
  have HQP := Lib.hid hqp
  clear hn hrow hbs hk hd hq hby
  go_enter Tryd.func59, Tryd.ntmps59
  go_wp2_with fail
  go_quiet (fail)
  go_wp2_with fail
  obtain ⟨wq, hwq⟩ : ∃ wq, wq = w.drewN nq := ⟨_, rfl⟩
  have d0 : wq.cell? ⟨g, 0, none⟩ = some (.slice (some ⟨gb, 0, none⟩) n n) := by rw [hwq]; exact c0
  have d1 : wq.cell? ⟨g, 1, none⟩ = some (.int .i64 (p : Int)) := by rw [hwq]; exact c1
  rw [← hwq]
  have HWQ := Lib.hid hwq
  clear hwq
  go_still_tail 15, (by kernel_rfl)
  change wpList _ _ _ _ _ wq.drew
  obtain ⟨w2, hw2⟩ : ∃ w2, w2 = wq.drew := ⟨_, rfl⟩
  rw [← hw2]
  have HB2 : Hid (BytesAt w2 A ((l.drop p).take k)) := Lib.hid (by rw [hw2, HWQ.out]; exact HBY.out)
  have HF2 : Hid (Fr [g] w w2) := Lib.hid (by rw [hw2, HWQ.out]; exact ((Fr.refl _ _).drewN _).drew)
  have HR2 : Hid (Row w2 g _ _) := Lib.hid (by rw [hw2, HWQ.out]; exact HROW.out)
  have HC2 : Hid (Row w2 gb (bs l) 5) := Lib.hid (by rw [hw2, HWQ.out]; exact HBS.out)
  have HKL : Hid (k = ((l.drop p).take k).length) := Lib.hid (by rw [List.length_take, List.length_drop]; have := HK.out; omega)
  clear hw2 d0 d1 c0 c1 c2
  go_wp2_with fail
  refine (copied_at A ((l.drop p).take k) k (n - p) _ HKL.out HB2.out (by omega)).mono ?_
  rintro e w3 hr
  obtain ⟨gx, rfl, hg, hr, hf⟩ := hr.open k HKL.out
  have HRX := Lib.hid hr
  have HF3 := Lib.hid (HF2.out.trans0 hf)
  have HR3 := Lib.hid (HR2.out.fr hf (by simp)); have HC3 := Lib.hid (HC2.out.fr hf (by simp))
  have HG3 := Lib.hid (Nat.le_trans HF2.out.size hg)
  have d1 := HR3.out.cell' (j := 1) rfl
  have f1 := HR3.out.free 1
  clear hr hf hg
  go_wp2_with fail
  go_ret
  have hne := HR3.out.ne HC3.out (by decide)
  have hnx := HR3.out.ne HRX.out (by decide)
  refine ⟨gx, rfl, HG3.out, HRX.out.set_other (fun h => hnx h.symm) _, ⟨gb, n, HN.out, by rw [← HQ.out]; exact hqn, hn1, ?_, HC3.out.set_other (fun h => hne h.symm) _⟩, HF3.out.setCell (a := ⟨g, 1, none⟩) _ (fun _ => by simp)⟩
  rw [← HQ.out]
  exact HR3.out.set 1 _

theorem refTake_any (g : Nat) (s : RdS) (x : Int) (w : World) (h : RefR w g s) :
    Calls Tryd.prog 59 #[.pointer (some ⟨g, 0, none⟩), .int .i64 x] w fun e w' => ∃ a n c, e = .returned (.slice a n c) ∧ Taken w w' (s.got x) (s.can x) a n c ∧ RefR w' g (s.after x) ∧ Fr [g] w w' := by
  by_cases hc : s.can x
  · obtain ⟨hb, h0, h1⟩ := hc
    obtain ⟨k, rfl⟩ : ∃ k : Nat, x = (k : Int) := ⟨x.toNat, by omega⟩
    have hp := h.pos_le
    refine (refTake_ok g s k w h hb (by omega)).mono ?_
    rintro e w' ⟨gx, rfl, hg, hrow, hr, hf⟩
    have hcan : s.can (k : Int) := ⟨hb, h0, h1⟩
    have hgot : s.got (k : Int) = (s.l.drop s.pos).take k := by rw [RdS.got, if_pos hcan]; rfl
    refine ⟨_, _, _, rfl, .inl ⟨gx, rfl, ?_, rfl, hg, by rw [hgot]; exact hrow, hcan⟩, ?_, hf⟩
    · rw [hgot, List.length_take, List.length_drop]; omega
    · rw [RdS.after, if_pos hcan]; exact hr
  · have hg : s.got x = [] := by rw [RdS.got, if_neg hc]
    cases hb : s.bad with
    | some e0 =>
      refine (refTake_stay g s x e0 w h hb).mono ?_
      rintro e w' ⟨rfl, rfl⟩
      refine ⟨none, 0, 0, rfl, .inr ⟨rfl, rfl, rfl, hg, hc⟩, ?_, Fr.refl _ _⟩
      rw [RdS.after, if_neg hc, if_neg (by rw [hb]; simp)]; exact h
    | none =>
      have hx : x < 0 ∨ (s.l.length : Int) - s.pos < x := by
        rcases Decidable.em (x < 0) with h0 | h0
        · exact .inl h0
        · rcases Decidable.em ((s.l.length : Int) - s.pos < x) with h1 | h1
          · exact .inr h1
          · exact absurd ⟨hb, by omega, by omega⟩ hc
      refine (refTake_err g s x w h hb hx).mono ?_
      rintro e w' ⟨rfl, hr, hf⟩
      refine ⟨none, 0, 0, rfl, .inr ⟨rfl, rfl, rfl, hg, hc⟩, ?_, hf⟩
      rw [RdS.after, if_neg hc, if_pos hb]; exact hr

theorem Taken.bytes {w w' : World} {m : List UInt8} {ok : Prop} {a : Option Addr} {n c : Nat} (h : Taken w w' m ok a n c) (hm : m.length ≤ maxLen) : n = m.length ∧ n ≤ c ∧ c ≤ maxLen ∧ BytesAt w' a m := by
  rcases h with ⟨gx, rfl, rfl, rfl, _, hr, _⟩ | ⟨rfl, rfl, rfl, rfl, _⟩
  · exact ⟨rfl, Nat.le_refl _, hm, BytesAt.ofRow hr⟩
  · exact ⟨rfl, Nat.le_refl _, Nat.zero_le _, .inl rfl⟩
set_option maxRecDepth 100000 in
set_option maxHeartbeats 1000000 in
theorem refNumber_any (g : Nat) (s : RdS) (x : Nat) (w : World) (h : RefR w g s) (hx : x ≤ 4) :
    Calls Tryd.prog 65 #[.pointer (some ⟨g, 0, none⟩), .int .i64 x] w fun e w' => e = .returned (.int .i64 (num (s.got x))) ∧ RefR w' g (s.after x) ∧ Fr [g] w w' := by
  have HR := Lib.hid h
  have hl4 := got_le s x
  obtain ⟨L, hL⟩ : ∃ L, L = s.got x := ⟨_, rfl⟩
  rw [← hL] at hl4
  have hl4' : L.length ≤ 4 := by omega
  have H4 := Lib.hid hl4'
  clear h hl4 hl4'
  go_enter Tryd.func65, Tryd.ntmps65
  go_wp2_with fail
  refine (refTake_any g s x _ HR.out).mono ?_
  rw [← hL]
  have HL := Lib.hid hL
  clear hL
  rintro e w1 ⟨a, m, c, rfl, ht, hr, hf⟩
  obtain ⟨hl, hm, hc, hby⟩ := ht.bytes (by have := H4.out; unfold maxLen; omega)
  have HF := Lib.hid hf; have HRR := Lib.hid hr; have HB := Lib.hid hby; have HL2 := Lib.hid hl
  have hm4 : m ≤ 4 := by have := H4.out; omega
  clear hf hr hby hl ht
  go_wp2_with fail
  go_loop [6, 7] (fun v i => ∃ k y : Nat, i = .int .i64 k ∧ k ≤ m ∧ v = .int .i64 y ∧ Hid (y = num (L.take k)) ∧ Hid (y < 256 ^ k)) (fun _ i => m - (intOf i).toNat)
  case atStart => exact ⟨0, 0, rfl, Nat.zero_le _, rfl, Lib.hid rfl, Lib.hid (by omega)⟩
  case round =>
    obtain ⟨k, y, rfl, hk, rfl, HY, HY2⟩ := hrel
    by_cases hlt : k < m
    · obtain ⟨b, off, rfl, hcs⟩ := HB.out.get k (by have := HL2.out; omega)
      obtain ⟨cb, hcb⟩ : ∃ cb, cb = L[k]'(by have := HL2.out; omega) := ⟨_, rfl⟩
      rw [← hcb] at hcs
      have HCB := Lib.hid hcb
      clear hcb
      have hy3 : y < 16777216 := by
        have := pow256 k (by omega)
        have := HY2.out
        omega
      have hcl := cb.toNat_lt
      have e1 : (y : Int) * 256 + (cb.toNat : Int) = ((y * 256 + cb.toNat : Nat) : Int) := by omega
      obtain ⟨z, hz⟩ : ∃ z, z = y * 256 + cb.toNat := ⟨_, rfl⟩
      rw [← hz] at e1
      have hz2 : z < 4294967296 := by omega
      have hznum : z = num (L.take (k + 1)) := by rw [num_take L k (by have := HL2.out; omega), ← HCB.out, ← HY.out, hz]
      have hzlt : z < 256 ^ (k + 1) := by
        have := num_lt (L.take (k + 1))
        rw [← hznum, List.length_take, Nat.min_eq_left (by have := HL2.out; omega)] at this
        exact this
      have HZ := Lib.hid hznum; have HZ2 := Lib.hid hzlt
      clear hz hznum hzlt
      go_wp2_with fail
      go_round
      case rel => exact ⟨k + 1, z, by go_num, by omega, by go_num, HZ, HZ2⟩
      case measure => simp [intOf]; omega
    · have hkm : k = m := by omega
      have HK := Lib.hid hkm
      clear hkm
      go_wp2_with fail
      go_ret
      have hz : y = num (s.got x) := by rw [HY.out, HK.out, HL2.out, List.take_length, HL.out]
      exact ⟨ret_int (by rw [hz]), HRR.out, HF.out⟩
theorem refU8_any (g : Nat) (s : RdS) (w : World) (h : RefR w g s) :
    Calls Tryd.prog 56 #[.pointer (some ⟨g, 0, none⟩)] w fun e w' => e = .returned (.int .i64 (num (s.got 1))) ∧ RefR w' g (s.after 1) ∧ Fr [g] w w' := by
  have HR := Lib.hid h
  obtain ⟨z, hz⟩ : ∃ z, z = num (s.got 1) := ⟨_, rfl⟩
  rw [← hz]
  have HZ := Lib.hid hz
  clear h hz
  go_enter Tryd.func56, Tryd.ntmps56
  go_wp2_with fail
  refine (refNumber_any g s 1 _ HR.out (by omega)).mono ?_
  rw [show ((1 : Nat) : Int) = 1 from rfl, ← HZ.out]
  rintro e w1 ⟨rfl, hr, hf⟩
  have HF := Lib.hid hf; have HRR := Lib.hid hr
  clear hf hr
  go_wp2_with fail
  go_ret
  exact ⟨rfl, HRR.out, HF.out⟩
theorem refU16_any (g : Nat) (s : RdS) (w : World) (h : RefR w g s) :
    Calls Tryd.prog 57 #[.pointer (some ⟨g, 0, none⟩)] w fun e w' => e = .returned (.int .i64 (num (s.got 2))) ∧ RefR w' g (s.after 2) ∧ Fr [g] w w' := by
  have HR := Lib.hid h
  obtain ⟨z, hz⟩ : ∃ z, z = num (s.got 2) := ⟨_, rfl⟩
  rw [← hz]
  have HZ := Lib.hid hz
  clear h hz
  go_enter Tryd.func57, Tryd.ntmps57
  go_wp2_with fail
  refine (refNumber_any g s 2 _ HR.out (by omega)).mono ?_
  rw [show ((2 : Nat) : Int) = 2 from rfl, ← HZ.out]
  rintro e w1 ⟨rfl, hr, hf⟩
  have HF := Lib.hid hf; have HRR := Lib.hid hr
  clear hf hr
  go_wp2_with fail
  go_ret
  exact ⟨rfl, HRR.out, HF.out⟩
theorem refU32_any (g : Nat) (s : RdS) (w : World) (h : RefR w g s) :
    Calls Tryd.prog 58 #[.pointer (some ⟨g, 0, none⟩)] w fun e w' => e = .returned (.int .u32 (num (s.got 4))) ∧ RefR w' g (s.after 4) ∧ Fr [g] w w' := by
  have HR := Lib.hid h
  obtain ⟨z, hz⟩ : ∃ z, z = num (s.got 4) := ⟨_, rfl⟩
  have hz4 : z < 256 ^ 4 := by rw [hz]; exact num_le s 4 4 (by omega)
  rw [← hz]
  have hm : (z : Int) % 4294967296 = (z : Int) := by omega
  have HZ := Lib.hid hz
  clear h hz
  go_enter Tryd.func58, Tryd.ntmps58
  go_wp2_with fail
  refine (refNumber_any g s 4 _ HR.out (by omega)).mono ?_
  rw [show ((4 : Nat) : Int) = 4 from rfl, ← HZ.out]
  rintro e w1 ⟨rfl, hr, hf⟩
  have HF := Lib.hid hf; have HRR := Lib.hid hr
  clear hf hr
  go_wp2_with fail
  go_ret
  exact ⟨rfl, HRR.out, HF.out⟩
end Go.Proofs.YtoooflagkhpnkaaDoor
