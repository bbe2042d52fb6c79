/- Contracts: octet's Reader. -/
import Derived.Test.YtoooflagkhpnkaaDoorLeafF
namespace Go.Proofs.YtoooflagkhpnkaaDoor
open Go Go.RowKit
set_option linter.unusedVariables false

/-- a Reader's state: its bytes, how many were read, where the first error is -/
structure RdS where
  l : List UInt8
  pos : Nat
  bad : Option Nat

def EvIs (w : World) (v : Value) : Option Nat → Prop
  | none => v = .nilIface
  | some p => IsFault w v p 10
def Rdr (w : World) (g : Nat) (s : RdS) : Prop :=
  ∃ gb n ev, n = s.l.length ∧ s.pos ≤ n ∧ n ≤ 100000 ∧ Row w g [.slice (some ⟨gb, 0, none⟩) n n, .int .i64 s.pos, ev] 73 ∧ Row w gb (bs s.l) 5 ∧ EvIs w ev s.bad

theorem Row.ne {w : World} {g g' : Nat} {c c' : List Value} {T T' : TypeId} (h : Row w g c T) (k : Row w g' c' T') (hT : T ≠ T') : g ≠ g' := by
  rintro rfl
  unfold Row at h k
  rw [h] at k
  exact hT (Obj.cells.inj (Option.some.inj k)).2.1
theorem IsFault.frS {w w' : World} {v : Value} {a c : Int} {S : List Nat} (h : IsFault w v a c) (f : Fr S w w') (h2 : ∀ x ∈ S, ∃ c T, Row w x c T ∧ T ≠ 5 ∧ T ≠ 86) : IsFault w' v a c := by
  obtain ⟨g, hv, hr⟩ := h
  refine ⟨g, hv, hr.fr f fun hg => ?_⟩
  obtain ⟨c, T, hT, _, h4⟩ := h2 g hg
  exact (hT.ne hr h4) rfl
theorem EvIs.frS {w w' : World} {v : Value} {o : Option Nat} {S : List Nat} (h : EvIs w v o) (f : Fr S w w') (h2 : ∀ x ∈ S, ∃ c T, Row w x c T ∧ T ≠ 5 ∧ T ≠ 86) : EvIs w' v o := by
  cases o with
  | none => exact h
  | some p => exact IsFault.frS h f h2
theorem Rdr.frS {w w' : World} {g : Nat} {s : RdS} {S : List Nat} (h : Rdr w g s) (f : Fr S w w') (h1 : g ∉ S) (h2 : ∀ x ∈ S, ∃ c T, Row w x c T ∧ T ≠ 5 ∧ T ≠ 86) : Rdr w' g s := by
  obtain ⟨gb, n, ev, hn, hp, hn1, hrow, hbs, hev⟩ := h
  refine ⟨gb, n, ev, hn, hp, hn1, hrow.fr f h1, hbs.fr f fun hg => ?_, hev.frS f h2⟩
  obtain ⟨c, T, hT, h3, _⟩ := h2 gb hg
  exact (hT.ne hbs h3) rfl
theorem Rdr.fr0 {w w' : World} {g : Nat} {s : RdS} (h : Rdr w g s) (f : Fr [] w w') : Rdr w' g s := h.frS f (by simp) (by simp)
theorem Rdr.drewN {w : World} {g : Nat} {s : RdS} (h : Rdr w g s) (n : Nat) : Rdr (w.drewN n) g s := h
theorem Rdr.row {w : World} {g : Nat} {s : RdS} (h : Rdr w g s) : ∃ c, Row w g c 73 := by
  obtain ⟨gb, n, ev, hn, hp, hn1, hrow, hbs, hev⟩ := h
  exact ⟨_, hrow⟩

set_option maxRecDepth 100000 in
set_option maxHeartbeats 1000000 in
theorem next_ok (g : Nat) (s : RdS) (k : Nat) (w : World) (h : Rdr w g s) (hb : s.bad = none) (hk : s.pos + k ≤ s.l.length) :
    Calls Tryd.prog 49 #[.pointer (some ⟨g, 0, none⟩), .int .i64 k] w fun e w' => ∃ A c, e = .returned (.slice (some A) k c) ∧ k ≤ c ∧ c ≤ maxLen ∧ BytesAt w' (some A) ((s.l.drop s.pos).take k) ∧ Rdr w' g { s with pos := s.pos + k } ∧ Fr [g] w w' := by
  obtain ⟨l, p, bad⟩ := s
  simp only at hb hk
  subst hb
  obtain ⟨gb, n, ev, hn, hp, hn1, hrow, hbs, hev⟩ := h
  simp only at hn hp hrow hbs hev
  obtain rfl := hev
  have c0 := hrow.cell' (j := 0) rfl
  have c1 := hrow.cell' (j := 1) rfl
  have c2 := hrow.cell' (j := 2) rfl
  have f1 := hrow.free 1
  obtain ⟨d, hd⟩ : ∃ d, d = n - p := ⟨_, rfl⟩
  have hdi : (n : Int) - (p : Int) = (d : Int) := by omega
  have q1 : IntKind.i64.wrap (d : Int) = (d : Int) := IntWalk.i64_in _ (by omega)
  have q2 : decide ((d : Int) < (k : Int)) = false := decide_eq_false (by omega)
  have q3 : decide ((k : Int) < 0) = false := by simp
  have HN := Lib.hid hn; have HROW := Lib.hid hrow; have HBS := Lib.hid hbs
  have HK := Lib.hid hk
  obtain ⟨q, hq⟩ : ∃ q, q = p + k := ⟨_, rfl⟩
  have hqi : (p : Int) + (k : Int) = (q : Int) := by omega
  have q4 : IntKind.i64.wrap (q : Int) = (q : Int) := IntWalk.i64_in _ (by omega)
  have hpq : p ≤ q := by omega
  have hqn : q ≤ n := by omega
  have HQ := Lib.hid hq
  clear hq hn hrow hbs hk hd
  go_enter Tryd.func49, Tryd.ntmps49
  go_wp2_with fail
  go_quiet (fail)
  go_wp2_with fail
  go_quiet (fail)
  go_wp2_with fail
  all_goals go_ret
  all_goals
    have hk0 : q - p = k := by have := HQ.out; omega
    have hfin : ∀ w2 : World, (∃ m, w2 = (w.drewN m).setCell ⟨g, 1, none⟩ (.int .i64 q)) → Rdr w2 g { l := l, pos := p + k, bad := none } ∧ Fr [g] w w2 := by
      rintro w2 ⟨m, rfl⟩
      have hne := HROW.out.ne HBS.out (by decide)
      refine ⟨⟨gb, n, .nilIface, HN.out, by rw [← HQ.out]; exact hqn, hn1, ?_, (HBS.out.drewN m).set_other (fun h => hne h.symm) _, rfl⟩, ((Fr.refl [g] w).drewN m).setCell (a := ⟨g, 1, none⟩) _ (fun _ => by simp)⟩
      rw [← HQ.out]
      exact (HROW.out.drewN m).set 1 _
    have hby : BytesAt w (some ⟨gb, p, none⟩) ((l.drop p).take k) := by
      have := ((BytesAt.ofRow HBS.out).drop p).take k
      rwa [Nat.zero_add] at this
    refine ⟨_, _, congrArg Ending.returned (by rw [← hk0]; rfl), by omega, by unfold maxLen; omega, ?_, hfin _ ⟨_, rfl⟩⟩
    first
    | exact (hby.drewN _).fr ((Fr.refl [g] _).setCell (a := ⟨g, 1, none⟩) _ (fun _ => by simp)) (fun x hx hb => by
        obtain rfl := Option.some.inj hx
        have hne := HROW.out.ne HBS.out (by decide)
        simp at hb
        exact hne hb.symm)
    | exact .inl (by
        have : k = 0 := by omega
        rw [this]; rfl)

set_option maxRecDepth 100000 in
set_option maxHeartbeats 1000000 in
theorem next_stay (g : Nat) (s : RdS) (x : Int) (e0 : Nat) (w : World) (h : Rdr w g s) (hb : s.bad = some e0) :
    Calls Tryd.prog 49 #[.pointer (some ⟨g, 0, none⟩), .int .i64 x] w fun e w' => e = .returned (.slice none 0 0) ∧ Rdr w' g s ∧ Fr [g] w w' := by
  obtain ⟨l, p, bad⟩ := s
  simp only at hb
  subst hb
  obtain ⟨gb, n, ev, hn, hp, hn1, hrow, hbs, hev⟩ := h
  simp only at hn hp hrow hbs hev
  have HEV := Lib.hid hev
  obtain ⟨gv, rfl, _⟩ := hev
  have c0 := hrow.cell' (j := 0) rfl
  have c1 := hrow.cell' (j := 1) rfl
  have c2 := hrow.cell' (j := 2) rfl
  have HN := Lib.hid hn; have HROW := Lib.hid hrow; have HBS := Lib.hid hbs; have HP := Lib.hid hp
  clear hn hrow hbs hp
  go_enter Tryd.func49, Tryd.ntmps49
  go_wp2_with fail
  go_quiet (fail)
  go_wp2_with fail
  go_ret
  exact ⟨rfl, ⟨gb, n, _, HN.out, HP.out, hn1, HROW.out, HBS.out, HEV.out⟩, (Fr.refl [g] w).drewN _⟩

set_option maxRecDepth 100000 in
set_option maxHeartbeats 1000000 in
theorem next_err (g : Nat) (s : RdS) (x : Int) (w : World) (h : Rdr w g s) (hb : s.bad = none) (hx : x < 0 ∨ (s.l.length : Int) - s.pos < x) :
    Calls Tryd.prog 49 #[.pointer (some ⟨g, 0, none⟩), .int .i64 x] w fun e w' => e = .returned (.slice none 0 0) ∧ Rdr w' g { s with bad := some s.pos } ∧ Fr [g] w w' := by
  obtain ⟨l, p, bad⟩ := s
  simp only at hb hx
  subst hb
  obtain ⟨gb, n, ev, hn, hp, hn1, hrow, hbs, hev⟩ := h
  simp only at hn hp hrow hbs hev
  obtain rfl := hev
  rw [← hn] at hx
  have c0 := hrow.cell' (j := 0) rfl
  have c1 := hrow.cell' (j := 1) rfl
  have c2 := hrow.cell' (j := 2) rfl
  obtain ⟨d, hd⟩ : ∃ d, d = n - p := ⟨_, rfl⟩
  have hdi : (n : Int) - (p : Int) = (d : Int) := by omega
  have q1 : IntKind.i64.wrap (d : Int) = (d : Int) := IntWalk.i64_in _ (by omega)
  rw [hdi] at hx
  have HN := Lib.hid hn; have HROW := Lib.hid hrow; have HBS := Lib.hid hbs; have HP := Lib.hid hp
  clear hn hrow hbs hd hp
  have fin : ∀ (w1 : World) (v : Value), Fr [] w w1 → IsFault w1 v p 10 → Rdr (w1.setCell ⟨g, 2, none⟩ v) g { l := l, pos := p, bad := some p } ∧ Fr [g] w (w1.setCell ⟨g, 2, none⟩ v) := by
    intro w1 v hf hi
    have hr1 := HROW.out.fr hf (by simp)
    have hb1 := HBS.out.fr hf (by simp)
    have hne := hr1.ne hb1 (by decide)
    refine ⟨⟨gb, n, v, HN.out, HP.out, hn1, hr1.set 2 v, hb1.set_other (fun h => hne h.symm) _, ?_⟩, (hf.nil [g]).setCell (a := ⟨g, 2, none⟩) _ (fun _ => by simp)⟩
    obtain ⟨gv, hv, hr⟩ := hi
    exact ⟨gv, hv, hr.set_other (fun h => (hr1.ne hr (by decide)) h.symm) _⟩
  have FIN := Lib.hid fin
  clear fin
  by_cases hx0 : x < 0
  · have q3 : decide (x < 0) = true := decide_eq_true hx0
    clear hx hx0
    go_enter Tryd.func49, Tryd.ntmps49
    go_wp2_with fail
    go_quiet (fail)
    go_wp2_with fail
    refine (wrap_any _ _ _).mono ?_
    rintro e w1 ⟨v, rfl, hi, hf⟩
    have hf1 := ((Fr.refl [] w).drewN nq).trans0 hf
    have hrw := HROW.out.fr hf1 (by simp)
    have d2 := hrw.cell' (j := 2) rfl
    have f2 := hrw.free 2
    have FF := Lib.hid (FIN.out w1 v hf1 hi)
    clear hf hf1 hrw c0 c1 c2
    obtain ⟨gv, rfl, _⟩ := hi
    go_wp2_with fail
    go_ret
    exact ⟨rfl, FF.out⟩
  · have q3 : decide (x < 0) = false := decide_eq_false hx0
    have q2 : decide ((d : Int) < x) = true := decide_eq_true (by omega)
    clear hx hx0
    go_enter Tryd.func49, Tryd.ntmps49
    go_wp2_with fail
    go_quiet (fail)
    go_wp2_with fail
    refine (wrap_any _ _ _).mono ?_
    rintro e w1 ⟨v, rfl, hi, hf⟩
    have hf1 := ((Fr.refl [] w).drewN nq).trans0 hf
    have hrw := HROW.out.fr hf1 (by simp)
    have d2 := hrw.cell' (j := 2) rfl
    have f2 := hrw.free 2
    have FF := Lib.hid (FIN.out w1 v hf1 hi)
    clear hf hf1 hrw c0 c1 c2
    obtain ⟨gv, rfl, _⟩ := hi
    go_wp2_with fail
    go_ret
    exact ⟨rfl, FF.out⟩

def RdS.can (s : RdS) (x : Int) : Prop := s.bad = none ∧ 0 ≤ x ∧ x ≤ (s.l.length : Int) - s.pos
instance (s : RdS) (x : Int) : Decidable (s.can x) := inferInstanceAs (Decidable (_ ∧ _ ∧ _))
def RdS.after (s : RdS) (x : Int) : RdS := if s.can x then { s with pos := s.pos + x.toNat } else if s.bad = none then { s with bad := some s.pos } else s
def RdS.got (s : RdS) (x : Int) : List UInt8 := if s.can x then (s.l.drop s.pos).take x.toNat else []
theorem Rdr.pos_le {w : World} {g : Nat} {s : RdS} (h : Rdr w g s) : s.pos ≤ s.l.length ∧ s.l.length ≤ 100000 := by
  obtain ⟨gb, n, ev, hn, hp, hn1, _⟩ := h
  omega

/-- next, whatever is asked: a null slice just if it cannot -/
theorem next_any (g : Nat) (s : RdS) (x : Int) (w : World) (h : Rdr w g s) :
    Calls Tryd.prog 49 #[.pointer (some ⟨g, 0, none⟩), .int .i64 x] w fun e w' => ∃ a m c, e = .returned (.slice a m c) ∧ m ≤ c ∧ c ≤ maxLen ∧ m = (s.got x).length ∧ BytesAt w' a (s.got x) ∧ ((∃ A, a = some A ∧ s.can x) ∨ (a = none ∧ c = 0 ∧ ¬ s.can x)) ∧ Rdr w' g (s.after x) ∧ Fr [g] w w' := by
  by_cases hc : s.can x
  · obtain ⟨hb, h0, h1⟩ := hc
    obtain ⟨k, rfl⟩ : ∃ k : Nat, x = (k : Int) := ⟨x.toNat, by omega⟩
    have hp := h.pos_le
    refine (next_ok g s k w h hb (by omega)).mono ?_
    rintro e w' ⟨A, c, rfl, hkc, hcm, hby, hr, hf⟩
    have hcan : s.can (k : Int) := ⟨hb, h0, h1⟩
    refine ⟨some A, k, c, rfl, hkc, hcm, ?_, ?_, .inl ⟨A, rfl, hcan⟩, ?_, hf⟩
    · rw [RdS.got, if_pos hcan]; simp; omega
    · rw [RdS.got, if_pos hcan]; exact hby
    · rw [RdS.after, if_pos hcan]; exact hr
  · have hg : s.got x = [] := by rw [RdS.got, if_neg hc]
    cases hb : s.bad with
    | some e0 =>
      refine (next_stay g s x e0 w h hb).mono ?_
      rintro e w' ⟨rfl, hr, hf⟩
      refine ⟨none, 0, 0, rfl, by omega, by unfold maxLen; omega, by rw [hg]; rfl, .inl hg, .inr ⟨rfl, rfl, hc⟩, ?_, hf⟩
      rw [RdS.after, if_neg hc, if_neg (by rw [hb]; simp)]; exact hr
    | none =>
      have hx : x < 0 ∨ (s.l.length : Int) - s.pos < x := by
        rcases Decidable.em (x < 0) with h0 | h0
        · exact .inl h0
        · rcases Decidable.em ((s.l.length : Int) - s.pos < x) with h1 | h1
          · exact .inr h1
          · exact absurd ⟨hb, by omega, by omega⟩ hc
      refine (next_err g s x w h hb hx).mono ?_
      rintro e w' ⟨rfl, hr, hf⟩
      refine ⟨none, 0, 0, rfl, by omega, by unfold maxLen; omega, by rw [hg]; rfl, .inl hg, .inr ⟨rfl, rfl, hc⟩, ?_, hf⟩
      rw [RdS.after, if_neg hc, if_pos hb]; exact hr
end Go.Proofs.YtoooflagkhpnkaaDoor
