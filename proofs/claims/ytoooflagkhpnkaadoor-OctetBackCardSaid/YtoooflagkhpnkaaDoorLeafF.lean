/- Contracts: api.Wrap, octet.Open. -/
import Derived.Test.YtoooflagkhpnkaaDoorLeafE
import Derived.Test.YtoooflagkhpnkaaDoorSmall
namespace Go.Proofs.YtoooflagkhpnkaaDoor
open Go Go.RowKit
set_option linter.unusedVariables false

/-- v is an error of api.Wrap's make: the place at, the number code -/
def IsFault (w : World) (v : Value) (at_ code : Int) : Prop :=
  ∃ g, v = .iface 84 (.pointer (some ⟨g, 0, none⟩)) ∧ Row w g [.int .i64 at_, .iface 71 (.int .i64 code)] 86
theorem IsFault.fr0 {w w' : World} {v : Value} {a c : Int} (h : IsFault w v a c) (f : Fr [] w w') : IsFault w' v a c := by
  obtain ⟨g, hv, hr⟩ := h
  exact ⟨g, hv, hr.fr f (by simp)⟩

theorem wrap_any (at_ code : Int) (w : World) :
    Calls Tryd.prog 48 #[.int .i64 at_, .int .i64 code] w fun e w' => ∃ v, e = .returned v ∧ IsFault w' v at_ code ∧ Fr [] w w' := by
  go_enter Tryd.func48, Tryd.ntmps48
  go_wp2
  go_ret
  exact ⟨_, rfl, ⟨_, rfl, Row.new w _ _⟩, (Fr.refl _ _).alloc _⟩

set_option maxHeartbeats 400000 in
theorem open_short (a : Option Addr) (n c : Nat) (w : World) (hn : n < 4) :
    Calls Tryd.prog 19 #[.slice a n c] w fun e w' => ∃ v, e = .returned (.tuple #[.slice none 0 0, v]) ∧ IsFault w' v n 10 ∧ Fr [] w w' := by
  go_enter Tryd.func19, Tryd.ntmps19
  go_wp2_with fail
  refine (wrap_any _ _ _).mono ?_
  rintro e w1 ⟨v, rfl, hi, hf⟩
  go_wp2
  go_ret2
  exact ⟨v, rfl, hi, hf⟩

/-- the j-th of the sum's four bytes -/
def sumByte (s j : Nat) : UInt8 := b8 (s / 256 ^ j)
theorem sealed_sum (l : List UInt8) : sealed l = l ++ [sumByte (crc l) 0, sumByte (crc l) 1, sumByte (crc l) 2, sumByte (crc l) 3] := by simp [sealed, sumByte]

set_option maxRecDepth 100000 in
set_option maxHeartbeats 1000000 in
theorem open_long (a : Option Addr) (m t : List UInt8) (n k c : Nat) (w : World) (hk : k = m.length) (ht4 : t.length = 4) (hn : n = k + 4) (hc : n ≤ c) (hc2 : c ≤ maxLen) (h : BytesAt w a (m ++ t)) (hm : n ≤ 281474976710000) (ht : Tbl w) :
    Calls Tryd.prog 19 #[.slice a n c] w fun e w' => Fr [] w w' ∧
      ((∃ g, m ++ t = sealed m ∧ e = .returned (.tuple #[.slice (some ⟨g, 0, none⟩) k k, .nilIface]) ∧ w.heap.size ≤ g ∧ Row w' g (bs m) 5) ∨
       (∃ v, m ++ t ≠ sealed m ∧ e = .returned (.tuple #[.slice none 0 0, v]) ∧ IsFault w' v k 11)) := by
  unfold maxLen at hc2
  have HK := Lib.hid hk; have HT4 := Lib.hid ht4; have HN := Lib.hid hn
  have hn4 : 4 ≤ n := by omega
  have hkn : k ≤ n := by omega
  have hbm : BytesAt w a m := by have := h.take k; rwa [List.take_append_of_le_length (by omega), List.take_of_length_le (by omega)] at this
  have hs := crc_lt m
  obtain ⟨s, hsc⟩ : ∃ s, s = crc m := ⟨_, rfl⟩
  have e0 : ((n : Int) - 4) = (k : Int) := by omega
  have hcn : k ≤ c := by omega
  rw [← hsc] at hs
  have HS := Lib.hid hsc
  clear hk ht4 hn hsc
  go_enter Tryd.func19, Tryd.ntmps19
  go_wp2_with fail
  refine (sum_at a m k c _ HK.out hbm (by have := HK.out; unfold maxLen; omega) ht).mono ?_
  rw [← HS.out]
  rintro e w1 ⟨rfl, rfl⟩
  go_wp2_with fail
  go_loopw [20] (fun i wr => ∃ j : Nat, i = .int .i64 j ∧ j ≤ 4 ∧ Hid (∀ x, x < j → t[x]? = some (sumByte s x)) ∧ Hid (∃ n, wr = w.drewN n)) (fun i _ => 4 - (intOf i).toNat)
  case atStart => exact ⟨0, rfl, by omega, Lib.hid (fun x hx => by omega), Lib.hid ⟨0, rfl⟩⟩
  case round =>
    obtain ⟨j, rfl, hj, HM, nd, rfl⟩ := hrel
    by_cases hj4 : j < 4
    · obtain ⟨b, off, rfl, hcs⟩ := h.get (k + j) (by rw [List.length_append]; have := HK.out; have := HT4.out; omega)
      obtain ⟨x, hx⟩ : ∃ x, x = t[j]'(by have := HT4.out; omega) := ⟨_, rfl⟩
      have hx2 : (m ++ t)[k + j]'(by rw [List.length_append]; have := HK.out; have := HT4.out; omega) = x := by
        rw [List.getElem_append_right (by have := HK.out; omega), hx]
        congr 1
        have := HK.out; omega
      rw [hx2] at hcs
      have HX := Lib.hid hx
      have i0 : (0 : Int) ≤ (k : Int) + (j : Int) := by omega
      have i1 : (k : Int) + (j : Int) < (n : Int) := by have := HN.out; omega
      clear hx hx2
      have hkl : (k : Int) ≤ 281474976710000 := by have := HN.out; omega
      have hk0 : (0 : Int) ≤ (k : Int) := by omega
      obtain ⟨y, hy⟩ : ∃ y, y = sumByte s j := ⟨_, rfl⟩
      have hyi : (y.toNat : Int) = ((s / 256 ^ j : Nat) : Int) % 256 := by rw [hy]; exact b8_int _
      have HY := Lib.hid hy
      clear hy
      rcases (show j = 0 ∨ j = 1 ∨ j = 2 ∨ j = 3 by omega) with rfl | rfl | rfl | rfl
      · have q1 : IntKind.i64.wrap (k : Int) = (k : Int) := IntWalk.i64_in _ (by omega)
        have q2 : (0 : Int) ≤ (k : Int) := by omega
        have q3 : (k : Int) < (n : Int) := by have := HN.out; omega
        have q4 : ((k : Int)).toNat = k := by omega
        have q5 : IntKind.i64.wrap 0 = 0 := by decide
        have q6 : IntKind.u8.wrap (s : Int) = (y.toNat : Int) := by rw [hyi, IntKind.wrap_u8']; simp
        clear i0 i1 e0 hyi
        rw [Nat.add_zero] at hcs
        by_cases hxy : x = y
        · have q7 : ((x.toNat : Int) != (y.toNat : Int)) = false := by rw [hxy]; simp
          have HXY := Lib.hid hxy
          clear hxy
          go_wp2_with fail
          go_quiet (fail)
          clear q1 q2 q3 q4 q5 q6
          go_wp2_with fail
          go_roundw
          case rel => exact ⟨1, rfl, by omega, Lib.hid (fun z hz => by
            by_cases hzj : z = 0
            · subst hzj
              rw [← HY.out, ← HXY.out, HX.out]
              exact List.getElem?_eq_getElem _
            · exact HM.out z (by omega)), Lib.hid ⟨nd + nq, rfl⟩⟩
          case measure => simp [intOf]
        · have q7 : ((x.toNat : Int) != (y.toNat : Int)) = true := by
            simp only [bne_iff_ne, ne_eq, Int.natCast_inj]; exact fun h => hxy (UInt8.toNat_inj.1 h)
          have HXY := Lib.hid hxy
          clear hxy
          go_wp2_with fail
          go_quiet (fail)
          clear q1 q2 q3 q4 q5 q6
          go_wp2_with fail
          refine (wrap_any _ _ _).mono ?_
          rintro e w1 ⟨v, rfl, hi, hf⟩
          go_wp2
          go_ret2
          refine ⟨((Fr.refl [] w).drewN _).trans0 hf, .inr ⟨v, fun hh => ?_, rfl, hi⟩⟩
          rw [sealed_sum] at hh
          have h2 := List.append_cancel_left hh
          have h3 : t[0]? = some (sumByte s 0) := by rw [h2, HS.out]; rfl
          rw [← HY.out] at h3
          refine HXY.out ?_
          rw [HX.out]
          have h4 := List.getElem?_eq_getElem (l := t) (i := 0) (by have := HT4.out; omega)
          rw [h4] at h3
          exact Option.some.inj h3
      · have q1 : IntKind.i64.wrap ((k : Int) + 1) = ((k : Int) + 1) := IntWalk.i64_in _ (by omega)
        have q2 : (0 : Int) ≤ ((k : Int) + 1) := by omega
        have q3 : ((k : Int) + 1) < (n : Int) := by have := HN.out; omega
        have q4 : (((k : Int) + 1)).toNat = k + 1 := by omega
        have q5 : IntKind.i64.wrap 8 = 8 := by decide
        have q6 : IntKind.u8.wrap ((s : Int) / 256) = (y.toNat : Int) := by rw [hyi, IntKind.wrap_u8']; rfl
        clear i0 i1 e0 hyi
        skip
        by_cases hxy : x = y
        · have q7 : ((x.toNat : Int) != (y.toNat : Int)) = false := by rw [hxy]; simp
          have HXY := Lib.hid hxy
          clear hxy
          go_wp2_with fail
          go_quiet (fail)
          clear q1 q2 q3 q4 q5 q6
          go_wp2_with fail
          go_roundw
          case rel => exact ⟨2, rfl, by omega, Lib.hid (fun z hz => by
            by_cases hzj : z = 1
            · subst hzj
              rw [← HY.out, ← HXY.out, HX.out]
              exact List.getElem?_eq_getElem _
            · exact HM.out z (by omega)), Lib.hid ⟨nd + nq, rfl⟩⟩
          case measure => simp [intOf]
        · have q7 : ((x.toNat : Int) != (y.toNat : Int)) = true := by
            simp only [bne_iff_ne, ne_eq, Int.natCast_inj]; exact fun h => hxy (UInt8.toNat_inj.1 h)
          have HXY := Lib.hid hxy
          clear hxy
          go_wp2_with fail
          go_quiet (fail)
          clear q1 q2 q3 q4 q5 q6
          go_wp2_with fail
          refine (wrap_any _ _ _).mono ?_
          rintro e w1 ⟨v, rfl, hi, hf⟩
          go_wp2
          go_ret2
          refine ⟨((Fr.refl [] w).drewN _).trans0 hf, .inr ⟨v, fun hh => ?_, rfl, hi⟩⟩
          rw [sealed_sum] at hh
          have h2 := List.append_cancel_left hh
          have h3 : t[1]? = some (sumByte s 1) := by rw [h2, HS.out]; rfl
          rw [← HY.out] at h3
          refine HXY.out ?_
          rw [HX.out]
          have h4 := List.getElem?_eq_getElem (l := t) (i := 1) (by have := HT4.out; omega)
          rw [h4] at h3
          exact Option.some.inj h3
      · have q1 : IntKind.i64.wrap ((k : Int) + 2) = ((k : Int) + 2) := IntWalk.i64_in _ (by omega)
        have q2 : (0 : Int) ≤ ((k : Int) + 2) := by omega
        have q3 : ((k : Int) + 2) < (n : Int) := by have := HN.out; omega
        have q4 : (((k : Int) + 2)).toNat = k + 2 := by omega
        have q5 : IntKind.i64.wrap 16 = 16 := by decide
        have q6 : IntKind.u8.wrap ((s : Int) / 65536) = (y.toNat : Int) := by rw [hyi, IntKind.wrap_u8']; rfl
        clear i0 i1 e0 hyi
        skip
        by_cases hxy : x = y
        · have q7 : ((x.toNat : Int) != (y.toNat : Int)) = false := by rw [hxy]; simp
          have HXY := Lib.hid hxy
          clear hxy
          go_wp2_with fail
          go_quiet (fail)
          clear q1 q2 q3 q4 q5 q6
          go_wp2_with fail
          go_roundw
          case rel => exact ⟨3, rfl, by omega, Lib.hid (fun z hz => by
            by_cases hzj : z = 2
            · subst hzj
              rw [← HY.out, ← HXY.out, HX.out]
              exact List.getElem?_eq_getElem _
            · exact HM.out z (by omega)), Lib.hid ⟨nd + nq, rfl⟩⟩
          case measure => simp [intOf]
        · have q7 : ((x.toNat : Int) != (y.toNat : Int)) = true := by
            simp only [bne_iff_ne, ne_eq, Int.natCast_inj]; exact fun h => hxy (UInt8.toNat_inj.1 h)
          have HXY := Lib.hid hxy
          clear hxy
          go_wp2_with fail
          go_quiet (fail)
          clear q1 q2 q3 q4 q5 q6
          go_wp2_with fail
          refine (wrap_any _ _ _).mono ?_
          rintro e w1 ⟨v, rfl, hi, hf⟩
          go_wp2
          go_ret2
          refine ⟨((Fr.refl [] w).drewN _).trans0 hf, .inr ⟨v, fun hh => ?_, rfl, hi⟩⟩
          rw [sealed_sum] at hh
          have h2 := List.append_cancel_left hh
          have h3 : t[2]? = some (sumByte s 2) := by rw [h2, HS.out]; rfl
          rw [← HY.out] at h3
          refine HXY.out ?_
          rw [HX.out]
          have h4 := List.getElem?_eq_getElem (l := t) (i := 2) (by have := HT4.out; omega)
          rw [h4] at h3
          exact Option.some.inj h3
      · have q1 : IntKind.i64.wrap ((k : Int) + 3) = ((k : Int) + 3) := IntWalk.i64_in _ (by omega)
        have q2 : (0 : Int) ≤ ((k : Int) + 3) := by omega
        have q3 : ((k : Int) + 3) < (n : Int) := by have := HN.out; omega
        have q4 : (((k : Int) + 3)).toNat = k + 3 := by omega
        have q5 : IntKind.i64.wrap 24 = 24 := by decide
        have q6 : IntKind.u8.wrap ((s : Int) / 16777216) = (y.toNat : Int) := by rw [hyi, IntKind.wrap_u8']; rfl
        clear i0 i1 e0 hyi
        skip
        by_cases hxy : x = y
        · have q7 : ((x.toNat : Int) != (y.toNat : Int)) = false := by rw [hxy]; simp
          have HXY := Lib.hid hxy
          clear hxy
          go_wp2_with fail
          go_quiet (fail)
          clear q1 q2 q3 q4 q5 q6
          go_wp2_with fail
          go_roundw
          case rel => exact ⟨4, rfl, by omega, Lib.hid (fun z hz => by
            by_cases hzj : z = 3
            · subst hzj
              rw [← HY.out, ← HXY.out, HX.out]
              exact List.getElem?_eq_getElem _
            · exact HM.out z (by omega)), Lib.hid ⟨nd + nq, rfl⟩⟩
          case measure => simp [intOf]
        · have q7 : ((x.toNat : Int) != (y.toNat : Int)) = true := by
            simp only [bne_iff_ne, ne_eq, Int.natCast_inj]; exact fun h => hxy (UInt8.toNat_inj.1 h)
          have HXY := Lib.hid hxy
          clear hxy
          go_wp2_with fail
          go_quiet (fail)
          clear q1 q2 q3 q4 q5 q6
          go_wp2_with fail
          refine (wrap_any _ _ _).mono ?_
          rintro e w1 ⟨v, rfl, hi, hf⟩
          go_wp2
          go_ret2
          refine ⟨((Fr.refl [] w).drewN _).trans0 hf, .inr ⟨v, fun hh => ?_, rfl, hi⟩⟩
          rw [sealed_sum] at hh
          have h2 := List.append_cancel_left hh
          have h3 : t[3]? = some (sumByte s 3) := by rw [h2, HS.out]; rfl
          rw [← HY.out] at h3
          refine HXY.out ?_
          rw [HX.out]
          have h4 := List.getElem?_eq_getElem (l := t) (i := 3) (by have := HT4.out; omega)
          rw [h4] at h3
          exact Option.some.inj h3
    · have hje : j = 4 := by omega
      have hfull : m ++ t = sealed m := by
        rw [sealed_sum]
        congr 1
        have h4 := HT4.out
        match t, h4 with
        | [t0, t1, t2, t3], _ =>
          have g0 := HM.out 0 (by omega)
          have g1 := HM.out 1 (by omega)
          have g2 := HM.out 2 (by omega)
          have g3 := HM.out 3 (by omega)
          simp only [List.getElem?_cons_zero, List.getElem?_cons_succ, Option.some.injEq] at g0 g1 g2 g3
          rw [g0, g1, g2, g3, HS.out]
      have HFU := Lib.hid hfull
      have HJ := Lib.hid hje
      clear hfull hje
      go_wp2_with fail
      refine (with_at a m k c none [] 0 0 _ HK.out rfl (hbm.drewN _) (BytesAt.nil _ _) (by have := HK.out; simp; omega)).mono ?_
      rw [List.append_nil]
      rintro e w1 hr
      obtain ⟨g, rfl, hg, hr, hf⟩ := hr.open k HK.out
      go_wp2
      go_ret2
      exact ⟨((Fr.refl [] w).drewN _).trans0 hf, .inl ⟨g, HFU.out, rfl, hg, hr⟩⟩
end Go.Proofs.YtoooflagkhpnkaaDoor
