/- Contracts: jotterlaw01's cut, twin, same. -/
import Derived.Test.YtoooflagkhpnkaaDoorProg
import Derived.Test.YtoooflagkhpnkaaDoorBase
namespace Go.Proofs.YtoooflagkhpnkaaDoor
open Go Go.RowKit
set_option linter.unusedVariables false

theorem infoU8 : (Tryd.prog.info? 5).map (fun i => (i.zero, i.size, i.bytes)) = some (some (.int .u8 0), 1, 1) := by kernel_rfl

/-- a slice in new memory that holds just the bytes l -/
def RetMade (w : World) (l : List UInt8) (e : Ending) (w' : World) : Prop :=
  ∃ g, e = .returned (.slice (some ⟨g, 0, none⟩) l.length l.length) ∧ w.heap.size ≤ g ∧ Row w' g (bs l) 5 ∧ Fr [] w w'

theorem cut_any (a : Option Addr) (len cap : Nat) (w : World) (h0 : len ≤ cap) (hm : cap ≤ maxLen) :
    Calls Tryd.prog 13 #[.slice a len cap] w fun e w' => e = .returned (.slice a (min len 600) cap) ∧ w = w' := by
  unfold maxLen at hm
  by_cases h : len ≤ 600
  · have e : min len 600 = len := by omega
    go_enter Tryd.func13, Tryd.ntmps13
    go_wp2
    go_ret
    exact ⟨by rw [e]; rfl, rfl⟩
  · have e : min len 600 = 600 := by omega
    go_enter Tryd.func13, Tryd.ntmps13
    go_wp2
    go_ret
    exact ⟨by rw [e]; rfl, rfl⟩

theorem fill_step (l : List UInt8) (k n : Nat) (hn : n = l.length) (hk : k < l.length) :
    (bs (l.take k) ++ List.replicate (n - k) (Value.int .u8 0)).set k (.int .u8 (l[k].toNat : Int)) = bs (l.take (k + 1)) ++ List.replicate (n - (k + 1)) (Value.int .u8 0) := by
  subst hn
  have hlen : (bs (l.take k)).length = k := by rw [bs_length, List.length_take]; omega
  obtain ⟨m, hm⟩ : ∃ m, l.length - k = m + 1 := ⟨l.length - k - 1, by omega⟩
  rw [hm, show l.length - (k + 1) = m from by omega, List.replicate_succ, List.take_succ_eq_append_getElem hk, bs_append, List.set_append, if_neg (by omega), hlen, Nat.sub_self]
  simp [bs]

theorem fill_get (l : List UInt8) (k n : Nat) (hn : n = l.length) (hk : k < n) : (bs (l.take k) ++ List.replicate (n - k) (Value.int .u8 0))[k]? = some (Value.int .u8 0) := by
  have hlen : (bs (l.take k)).length = k := by rw [bs_length, List.length_take]; omega
  rw [List.getElem?_append_right (by omega), hlen, Nat.sub_self, List.getElem?_replicate, if_pos (by omega)]

theorem drawn_more {w wr : World} (h : ∃ n, wr = w.drewN n) (m : Nat) : ∃ n, wr.drewN m = w.drewN n := by
  obtain ⟨n, rfl⟩ := h
  exact ⟨n + m, by rw [World.drewN_drewN]⟩

set_option maxHeartbeats 400000 in
theorem twin_any (a : Option Addr) (l : List UInt8) (c : Nat) (w : World) (h : BytesAt w a l) (hm : l.length ≤ 281474976710656) :
    Calls Tryd.prog 14 #[.slice a l.length c] w (RetMade w l) := by
  obtain ⟨n, hn⟩ : ∃ n, n = l.length := ⟨_, rfl⟩
  have hmn : n ≤ 281474976710656 := by omega
  rw [← hn]
  have H1 := Lib.hid hn
  clear hn hm
  go_enter Tryd.func14, Tryd.ntmps14
  go_wp2_with (refine wpList_make rfl _ _ _ 5 rfl Tryd.underlying22 (.int .u8 0) 1 infoU8 rfl n rfl rfl (by omega) (by unfold maxLen; omega) ?_)
  obtain ⟨g, hg⟩ : ∃ g, g = w.heap.size := ⟨_, rfl⟩
  rw [← hg]
  have HG := Lib.hid hg
  clear hg
  go_loopw [4] (fun i wr => ∃ k : Nat, i = .int .i64 k ∧ k ≤ n ∧ Row wr g (bs (l.take k) ++ List.replicate (n - k) (.int .u8 0)) 5 ∧ Fr [] w wr) (fun i _ => n - (intOf i).toNat)
  case atStart => exact ⟨0, rfl, Nat.zero_le _, by rw [HG.out]; simpa [bs] using Row.new w (List.replicate n (.int .u8 0)) 5, (Fr.refl _ _).alloc _⟩
  case round =>
    obtain ⟨k, rfl, hk, hrow, hfr⟩ := hrel
    by_cases hlt : k < n
    · obtain ⟨b, off, rfl, hcs⟩ := (h.fr0 hfr).get k (by have := H1.out; omega)
      have hcd := hrow.cell' (j := k) (v := .int .u8 0) (fill_get l k n H1.out hlt)
      have hz := hrow.free k
      have HR := Lib.hid (hrow.set k (.int .u8 ((l[k]'(by have := H1.out; omega)).toNat : Int)))
      have HF := Lib.hid (hfr.setCell (a := ⟨g, k, none⟩) (.int .u8 ((l[k]'(by have := H1.out; omega)).toNat : Int)) (fun hx => absurd hx (by have := HG.out; simp; omega)))
      clear hrow hfr
      go_wp2
      go_roundw
      case rel => exact ⟨k + 1, by go_num, by omega, by rw [← fill_step l k n H1.out (by have := H1.out; omega)]; exact HR.out, HF.out⟩
      case measure => simp [intOf]; omega
    · have hkn : k = n := by omega
      have HK := Lib.hid hkn
      clear hkn
      go_wp2
      go_ret
      refine ⟨g, ?_, by have := HG.out; omega, ?_, hfr⟩
      · rw [← H1.out]; rfl
      · have e1 := H1.out
        have e2 := HK.out
        rw [e2, e1, List.take_length, Nat.sub_self, List.replicate_zero, List.append_nil] at hrow
        exact hrow

set_option maxHeartbeats 400000 in
theorem same_any (a b : Option Addr) (la lb : List UInt8) (ca cb : Nat) (w : World) (ha : BytesAt w a la) (hb : BytesAt w b lb) (hm : la.length ≤ maxLen) (hm' : lb.length ≤ maxLen) :
    Calls Tryd.prog 20 #[.slice a la.length ca, .slice b lb.length cb] w fun e w' => e = .returned (.bool (decide (la = lb))) ∧ ∃ n, w' = w.drewN n := by
  unfold maxLen at hm hm'
  have HA := Lib.hid ha; clear ha
  have HB := Lib.hid hb; clear hb
  by_cases hl : la.length = lb.length
  · obtain ⟨n, hn⟩ : ∃ n, n = la.length := ⟨_, rfl⟩
    have h1 : lb.length = n := by omega
    rw [← hn, h1]
    have H1 := Lib.hid hn; have H2 := Lib.hid h1
    rw [← hn] at hm
    clear hn h1 hl hm'
    go_enter Tryd.func20, Tryd.ntmps20
    go_wp2
    go_loopw [5] (fun i wr => ∃ k : Nat, i = .int .i64 k ∧ k ≤ n ∧ Hid (la.take k = lb.take k) ∧ Hid (∃ n, wr = w.drewN n)) (fun i _ => n - (intOf i).toNat)
    case atStart => exact ⟨0, rfl, Nat.zero_le _, Lib.hid (by simp), Lib.hid ⟨0, rfl⟩⟩
    case round =>
      obtain ⟨k, rfl, hk, HT, nd, rfl⟩ := hrel
      by_cases hlt : k < n
      · obtain ⟨ba, oa, rfl, hca⟩ := HA.out.get k (by have := H1.out; omega)
        obtain ⟨bb, ob, rfl, hcb⟩ := HB.out.get k (by have := H2.out; omega)
        by_cases he : la[k]'(by have := H1.out; omega) = lb[k]'(by have := H2.out; omega)
        · have hq : (((la[k]'(by have := H1.out; omega)).toNat : Int) != ((lb[k]'(by have := H2.out; omega)).toNat : Int)) = false := by rw [he]; simp
          have HE := Lib.hid he; clear he
          go_wp2
          go_quiet (fail)
          go_wp2
          go_roundw
          case rel => exact ⟨k + 1, by go_num, by omega, Lib.hid (take_step _ _ HT.out HE.out), Lib.hid ⟨_, rfl⟩⟩
          case measure => simp [intOf]; omega
        · have hq : (((la[k]'(by have := H1.out; omega)).toNat : Int) != ((lb[k]'(by have := H2.out; omega)).toNat : Int)) = true := by
            simp only [bne_iff_ne, ne_eq, Int.natCast_inj]; exact fun h => he (UInt8.toNat_inj.1 h)
          have hne : la ≠ lb := fun h => he (by simp only [h])
          have HE := Lib.hid hne; clear he hne
          go_wp2
          go_quiet (fail)
          go_wp2
          go_ret
          exact ⟨ret_bool (decide_eq_false HE.out).symm, drawn_more ⟨nd, rfl⟩ nq⟩
      · have hkn : la = lb := by
          have := HT.out
          rwa [List.take_of_length_le (by have := H1.out; omega), List.take_of_length_le (by have := H2.out; omega)] at this
        have HE := Lib.hid hkn; clear hkn
        go_wp2
        go_ret
        exact ⟨ret_bool (decide_eq_true HE.out).symm, _, rfl⟩
  · have hne : la ≠ lb := fun h => hl (by rw [h])
    have hq : ((la.length : Int) != (lb.length : Int)) = true := by simp only [bne_iff_ne, ne_eq, Int.natCast_inj]; exact hl
    have HE := Lib.hid hne; clear hne
    go_enter Tryd.func20, Tryd.ntmps20
    go_wp2
    go_ret
    exact ⟨ret_bool (decide_eq_false HE.out).symm, 0, rfl⟩
end Go.Proofs.YtoooflagkhpnkaaDoor
