/- Contracts: jotterlaw01's put and width. -/
import Derived.Test.YtoooflagkhpnkaaDoorRefC
import Derived.Test.YtoooflagkhpnkaaDoorLeafD
import Derived.Test.YtoooflagkhpnkaaDoorOps
namespace Go.Proofs.YtoooflagkhpnkaaDoor
open Go Go.RowKit
set_option linter.unusedVariables false

/-- a slice that holds the bytes l behind the call; nothing that was there has turned -/
def RetB (w : World) (l : List UInt8) (e : Ending) (w' : World) : Prop :=
  ∃ a c, e = .returned (.slice a l.length c) ∧ l.length ≤ c ∧ c ≤ maxLen ∧ BytesAt w' a l ∧ Fr [] w w'
theorem RetB.returned {w w' : World} {l : List UInt8} {e : Ending} (h : RetB w l e w') : ∃ v, e = .returned v ∧ RetB w l (.returned v) w' := by
  obtain ⟨a, c, rfl, h⟩ := h
  exact ⟨_, rfl, a, c, rfl, h⟩
theorem RetB.fr {w w1 w' : World} {l : List UInt8} {e : Ending} (f : Fr [] w w1) (h : RetB w1 l e w') : RetB w l e w' := by
  obtain ⟨a, c, he, h1, h2, hb, hf⟩ := h
  exact ⟨a, c, he, h1, h2, hb, f.trans0 hf⟩
theorem RetB.open {w w' : World} {l : List UInt8} {e : Ending} (h : RetB w l e w') (n : Nat) (hn : n = l.length) : ∃ a c, e = .returned (.slice a n c) ∧ n ≤ c ∧ c ≤ maxLen ∧ BytesAt w' a l ∧ Fr [] w w' := by
  subst hn
  exact h
theorem RetOwn.b {w w' : World} {l : List UInt8} {e : Ending} (h : RetOwn w l e w') : RetB w l e w' := by
  obtain ⟨a, c, he, h1, h2, _, hb, hf⟩ := h.open l.length rfl
  exact ⟨a, c, he, h1, h2, hb, hf⟩
theorem RetMade.b {w w' : World} {l : List UInt8} {e : Ending} (h : RetMade w l e w') (hm : l.length ≤ maxLen) : RetB w l e w' := by
  obtain ⟨g, he, hg, hr, hf⟩ := h
  exact ⟨_, _, he, Nat.le_refl _, hm, BytesAt.ofRow hr, hf⟩

def putBytes (r : OpR) : List UInt8 :=
  if r.kind = 1 then [b8 r.num] else if r.kind = 2 then [b8 (r.num / 256), b8 r.num] else if r.kind = 3 then [b8 (r.num / 16777216), b8 (r.num / 65536), b8 (r.num / 256), b8 r.num] else []
theorem putBytes_le (r : OpR) : (putBytes r).length ≤ 4 := by
  unfold putBytes
  repeat' split
  all_goals simp
def opAgg (r : OpR) : Value := .agg #[.int .i64 r.kind, .bool r.which, .int .i64 r.n, .int .u64 (r.num : Int)]

set_option maxHeartbeats 1000000 in
theorem put_any (a : Option Addr) (l : List UInt8) (n c : Nat) (r : OpR) (w : World) (hn : n = l.length) (h : BytesAt w a l) (hm : n ≤ 70000) (hc : n ≤ c) (hc2 : c ≤ maxLen) (hx : r.num < 18446744073709551616) :
    Calls Tryd.prog 43 #[.slice a n c, opAgg r] w (RetB w (l ++ putBytes r)) := by
  obtain ⟨kind, which, nn, num⟩ := r
  simp only at hx
  have HM := Lib.hid (show n ≤ 140737488353000 ∧ l.length ≤ 70000 by omega)
  have HN := Lib.hid hn; clear hn
  have HX := Lib.hid hx; clear hx
  have HC2 := Lib.hid hc2; clear hc2
  unfold opAgg
  dsimp only
  by_cases k1 : kind = 1
  · subst k1
    have e1 : putBytes ⟨1, which, nn, num⟩ = [b8 num] := by simp [putBytes]
    have HE := Lib.hid e1; clear e1
    have t1 : (((1 : Int)) == 1) = true := by decide
    go_enter Tryd.func43, Tryd.ntmps43
    go_wp2_with fail
    refine (put8_any a l n c num _ HN.out (h.fr0 ((Fr.refl _ _).alloc _)) (by have := HM.out; omega) HX.out).mono ?_
    intro e w' hr
    obtain ⟨v, rfl, hr⟩ := hr.returned
    go_wp2
    go_ret
    rw [HE.out]
    exact RetB.fr ((Fr.refl _ _).alloc _) (hr.b (by rw [List.length_append]; have := HM.out; simp; unfold maxLen; omega))
  by_cases k2 : kind = 2
  · subst k2
    have e1 : putBytes ⟨2, which, nn, num⟩ = [b8 (num / 256), b8 num] := by simp [putBytes]
    have HE := Lib.hid e1; clear e1
    have t1 : (((2 : Int)) == 1) = false := by decide
    have t2 : (((2 : Int)) == 2) = true := by decide
    go_enter Tryd.func43, Tryd.ntmps43
    go_wp2_with fail
    refine (put16_any a l n c num _ HN.out (h.fr0 ((Fr.refl _ _).alloc _)) (by have := HM.out; omega) HX.out).mono ?_
    intro e w' hr
    obtain ⟨v, rfl, hr⟩ := hr.returned
    go_wp2
    go_ret
    rw [HE.out]
    exact RetB.fr ((Fr.refl _ _).alloc _) (hr.b (by rw [List.length_append]; have := HM.out; simp; unfold maxLen; omega))
  by_cases k3 : kind = 3
  · subst k3
    have e1 : putBytes ⟨3, which, nn, num⟩ = [b8 (num / 16777216), b8 (num / 65536), b8 (num / 256), b8 num] := by simp [putBytes]
    have HE := Lib.hid e1; clear e1
    have t1 : (((3 : Int)) == 1) = false := by decide
    have t2 : (((3 : Int)) == 2) = false := by decide
    have t3 : (((3 : Int)) == 3) = true := by decide
    go_enter Tryd.func43, Tryd.ntmps43
    go_wp2_with fail
    refine (put32_any a l n c num _ HN.out (h.fr0 ((Fr.refl _ _).alloc _)) (by have := HM.out; omega) HX.out).mono ?_
    intro e w' hr
    obtain ⟨v, rfl, hr⟩ := hr.returned
    go_wp2
    go_ret
    rw [HE.out]
    exact RetB.fr ((Fr.refl _ _).alloc _) (hr.b (by rw [List.length_append]; have := HM.out; simp; unfold maxLen; omega))
  have e1 : putBytes ⟨kind, which, nn, num⟩ = [] := by simp [putBytes, k1, k2, k3]
  have HE := Lib.hid e1; clear e1
  have t1 : (kind == 1) = false := by simpa using k1
  have t2 : (kind == 2) = false := by simpa using k2
  have t3 : (kind == 3) = false := by simpa using k3
  go_enter Tryd.func43, Tryd.ntmps43
  go_wp2
  go_ret
  rw [HE.out, List.append_nil]
  exact ⟨a, c, by rw [← HN.out]; rfl, by rw [← HN.out]; exact hc, HC2.out, h.fr0 ((Fr.refl _ _).alloc _), (Fr.refl _ _).alloc _⟩

set_option maxHeartbeats 1000000 in
theorem width_any (r : OpR) (w : World) :
    Calls Tryd.prog 44 #[opAgg r] w fun e w' => e = .returned (.int .i64 ((putBytes r).length : Nat)) ∧ Fr [] w w' := by
  obtain ⟨kind, which, nn, num⟩ := r
  unfold opAgg
  dsimp only
  by_cases k1 : kind = 1
  · subst k1
    have e1 : (putBytes ⟨1, which, nn, num⟩).length = 1 := by simp [putBytes]
    have HE := Lib.hid e1; clear e1
    have t1 : (((1 : Int)) == 1) = true := by decide
    go_enter Tryd.func44, Tryd.ntmps44
    go_wp2
    go_ret
    exact ⟨by rw [HE.out]; rfl, (Fr.refl _ _).alloc _⟩
  by_cases k2 : kind = 2
  · subst k2
    have e1 : (putBytes ⟨2, which, nn, num⟩).length = 2 := by simp [putBytes]
    have HE := Lib.hid e1; clear e1
    have t1 : (((2 : Int)) == 1) = false := by decide
    have t2 : (((2 : Int)) == 2) = true := by decide
    go_enter Tryd.func44, Tryd.ntmps44
    go_wp2
    go_ret
    exact ⟨by rw [HE.out]; rfl, (Fr.refl _ _).alloc _⟩
  by_cases k3 : kind = 3
  · subst k3
    have e1 : (putBytes ⟨3, which, nn, num⟩).length = 4 := by simp [putBytes]
    have HE := Lib.hid e1; clear e1
    have t1 : (((3 : Int)) == 1) = false := by decide
    have t2 : (((3 : Int)) == 2) = false := by decide
    have t3 : (((3 : Int)) == 3) = true := by decide
    go_enter Tryd.func44, Tryd.ntmps44
    go_wp2
    go_ret
    exact ⟨by rw [HE.out]; rfl, (Fr.refl _ _).alloc _⟩
  have e1 : (putBytes ⟨kind, which, nn, num⟩).length = 0 := by simp [putBytes, k1, k2, k3]
  have HE := Lib.hid e1; clear e1
  have t1 : (kind == 1) = false := by simpa using k1
  have t2 : (kind == 2) = false := by simpa using k2
  have t3 : (kind == 3) = false := by simpa using k3
  go_enter Tryd.func44, Tryd.ntmps44
  go_wp2
  go_ret
  exact ⟨by rw [HE.out]; rfl, (Fr.refl _ _).alloc _⟩
end Go.Proofs.YtoooflagkhpnkaaDoor
