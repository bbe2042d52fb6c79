/- Contracts: jotterref01's copied, Put8, Put16, Put32. -/
import Derived.Test.YtoooflagkhpnkaaLeafD
namespace Go.Proofs.Ytoooflagkhpnkaa
open Go Go.RowKit
set_option linter.unusedVariables false

set_option maxHeartbeats 400000 in
theorem copied_any (a : Option Addr) (l : List UInt8) (c : Nat) (w : World) (h : BytesAt w a l) (hm : l.length ≤ 281474976710656) :
    Calls Try.prog 16 #[.slice a l.length c] w (RetMade w l) := by
  obtain ⟨n, hn⟩ : ∃ n, n = l.length := ⟨_, rfl⟩
  have hmn : n ≤ 281474976710656 := by omega
  rw [← hn]
  have H1 := Lib.hid hn
  clear hn hm
  go_enter Try.func16, Try.ntmps16
  go_wp2_with (refine wpList_make rfl _ _ _ 5 rfl Try.underlying22 (.int .u8 0) 1 infoU8 rfl n rfl rfl (by omega) (by unfold maxLen; omega) ?_)
  obtain ⟨g, hg⟩ : ∃ g, g = w.heap.size := ⟨_, rfl⟩
  rw [← hg]
  have HG := Lib.hid hg
  clear hg
  go_loopw [4] (fun i wr => ∃ k : Nat, i = .int .i64 k ∧ k ≤ n ∧ Row wr g (bs (l.take k) ++ List.replicate (n - k) (.int .u8 0)) 5 ∧ Fr [] w wr) (fun i _ => n - (intOf i).toNat)
  case atStart => exact ⟨0, rfl, Nat.zero_le _, by rw [HG.out]; simpa [bs] using Row.new w (List.replicate n (.int .u8 0)) 5, (Fr.refl _ _).alloc _⟩
  case round =>
    obtain ⟨k, rfl, hk, hrow, hfr⟩ := hrel
    by_cases hlt : k < n
    · obtain ⟨b, off, rfl, hcs⟩ := (h.fr0 hfr).get k (by have := H1.out; omega)
      have hcd := hrow.cell' (j := k) (v := .int .u8 0) (fill_get l k n H1.out hlt)
      have hz := hrow.free k
      have HR := Lib.hid (hrow.set k (.int .u8 ((l[k]'(by have := H1.out; omega)).toNat : Int)))
      have HF := Lib.hid (hfr.setCell (a := ⟨g, k, none⟩) (.int .u8 ((l[k]'(by have := H1.out; omega)).toNat : Int)) (fun hx => absurd hx (by have := HG.out; simp; omega)))
      clear hrow hfr
      go_wp2
      go_roundw
      case rel => exact ⟨k + 1, by go_num, by omega, by rw [← fill_step l k n H1.out (by have := H1.out; omega)]; exact HR.out, HF.out⟩
      case measure => simp [intOf]; omega
    · have hkn : k = n := by omega
      have HK := Lib.hid hkn
      clear hkn
      go_wp2
      go_ret
      refine ⟨g, ?_, by have := HG.out; omega, ?_, hfr⟩
      · rw [← H1.out]; rfl
      · have e1 := H1.out
        have e2 := HK.out
        rw [e2, e1, List.take_length, Nat.sub_self, List.replicate_zero, List.append_nil] at hrow
        exact hrow


/-- a slice of new memory that holds just the bytes l; room behind it or not -/
def RetOwn (w : World) (l : List UInt8) (e : Ending) (w' : World) : Prop :=
  ∃ a c, e = .returned (.slice a l.length c) ∧ w'.ownsRow w.heap.size 5 1 (.slice a l.length c) l.length (bs l) ∧ Fr [] w w'
theorem RetOwn.returned {w w' : World} {l : List UInt8} {e : Ending} (h : RetOwn w l e w') : ∃ v, e = .returned v ∧ RetOwn w l (.returned v) w' := by
  obtain ⟨a, c, rfl, h⟩ := h
  exact ⟨_, rfl, a, c, rfl, h⟩
theorem RetOwn.fr {w w1 w' : World} {l : List UInt8} {e : Ending} (f : Fr [] w w1) (h : RetOwn w1 l e w') : RetOwn w l e w' := by
  obtain ⟨a, c, he, ho, hf⟩ := h
  refine ⟨a, c, he, ?_, f.trans0 hf⟩
  refine ⟨ho.1, ?_⟩
  rcases ho.2 with h2 | ⟨g, cap, cur, h1, hb, r⟩
  · exact .inl h2
  · exact .inr ⟨g, cap, cur, h1, Nat.le_trans f.size hb, r⟩
theorem RetOwn.open {w w' : World} {l : List UInt8} {e : Ending} (h : RetOwn w l e w') (n : Nat) (hn : n = l.length) :
    ∃ a c, e = .returned (.slice a n c) ∧ n ≤ c ∧ c ≤ maxLen ∧ w'.ownsRow w.heap.size 5 1 (.slice a n c) n (bs l) ∧ BytesAt w' a l ∧ Fr [] w w' := by
  subst hn
  obtain ⟨a, c, he, ho, hf⟩ := h
  obtain ⟨a', c', hv, h1, h2, _, _⟩ := owns_slice ho
  simp only [Value.slice.injEq, true_and] at hv
  obtain ⟨rfl, rfl⟩ := hv
  exact ⟨a, c, he, h1, h2, ho, owns_bytes ho, hf⟩
set_option maxHeartbeats 400000 in
theorem refPut8_any (a : Option Addr) (l : List UInt8) (n c : Nat) (x : Nat) (w : World) (hn : n = l.length) (h : BytesAt w a l) (hm : n ≤ 140737488355000) (hx : x < 18446744073709551616) :
    Calls Try.prog 12 #[.slice a n c, .int .u64 x] w (RetOwn w (l ++ [b8 x])) := by
  have HN := Lib.hid hn; clear hn
  have HX := Lib.hid hx; clear hx
  go_enter Try.func12, Try.ntmps12
  go_wp2_with fail
  rw [HN.out]
  refine (copied_any a l c _ h (by have := HN.out; omega)).mono ?_
  rw [← HN.out]
  rintro e w1 hr
  obtain ⟨g, rfl, hg, hr, hf⟩ := hr.open n HN.out
  have ho := owns_row (base := w.heap.size) hr hg (by rw [bs_length, ← HN.out]; unfold maxLen; omega)
  rw [bs_length, ← HN.out] at ho
  have HO := Lib.hid ho
  have HB : ((b8 x).toNat : Int) = (x : Int) % 256 := b8_int x
  have HBH := Lib.hid HB
  have HF := Lib.hid hf
  clear HB ho hr hf
  go_wp2_with (at_builtin; refine wpList_append_fr rfl (.tmp 8) (.tmp 12) 22 rfl w.heap.size 5 (.int .u8 0) 1 Try.underlying22 infoU8 rfl _ n (bs l) rfl (owns_fr0 HO.out ((Fr.refl _ _).alloc _)) ⟨w1.heap.size, 0, none⟩ 1 1 [.int .u8 ((x : Int) % 256)] rfl rfl ?_ (by intro u hu; simp at hu; subst hu; rfl) (by unfold maxLen; omega) (by omega) (by have := HF.out.size; simp; omega) ?_)
  · intro j u hj
    match j, hj with
    | 0, hj => simp at hj; subst hj; simp [Addr.add]
  · intro v' w2 ho2 hf2
    have HO2 := Lib.hid ho2; have HF2 := Lib.hid hf2
    clear ho2 hf2
    go_wp2
    go_ret
    obtain ⟨a2, c2, rfl, _, _, _, _⟩ := owns_slice HO2.out
    have hl : (l ++ [b8 x]).length = n + 1 := by rw [List.length_append, ← HN.out]; rfl
    have hb : bs (l ++ [b8 x]) = bs l ++ [.int .u8 ((x : Int) % 256)] := by rw [bs_append]; simp [bs, HBH.out]
    refine ⟨a2, c2, by rw [hl]; rfl, ?_, (HF.out.alloc _).own (Nat.le_refl _) (owns_fr0 HO.out ((Fr.refl _ _).alloc _)) HF2.out⟩
    rw [hl, hb]
    exact HO2.out

set_option maxHeartbeats 400000 in
theorem refPut16_any (a : Option Addr) (l : List UInt8) (n c : Nat) (x : Nat) (w : World) (hn : n = l.length) (h : BytesAt w a l) (hm : n ≤ 140737488354000) (hx : x < 18446744073709551616) :
    Calls Try.prog 13 #[.slice a n c, .int .u64 x] w (RetOwn w (l ++ [b8 (x / 256), b8 x])) := by
  have HN := Lib.hid hn; clear hn
  have HX := Lib.hid hx
  have hd : ((x / 256 : Nat) : Int) = (x : Int) / 256 := by omega
  have HD := Lib.hid hd; clear hd
  go_enter Try.func13, Try.ntmps13
  go_wp2_with fail
  rw [← HD.out]
  refine (refPut8_any a l n c _ _ HN.out h (by omega) (by have := HX.out; omega)).mono ?_
  rintro e w1 hr
  obtain ⟨a1, c1, rfl, h1, h2, ho, hb, hf⟩ := hr.open (n + 1) (by rw [List.length_append, ← HN.out]; rfl)
  clear hr
  go_wp2_with fail
  refine (refPut8_any a1 _ (n + 1) c1 x _ (by rw [List.length_append, ← HN.out]; rfl) hb (by omega) HX.out).mono ?_
  rintro e w2 hr
  obtain ⟨v, rfl, hr⟩ := hr.returned
  go_wp2
  go_ret
  have := hr.fr hf
  rw [List.append_assoc] at this
  exact this

set_option maxHeartbeats 400000 in
theorem refPut32_any (a : Option Addr) (l : List UInt8) (n c : Nat) (x : Nat) (w : World) (hn : n = l.length) (h : BytesAt w a l) (hm : n ≤ 140737488353000) (hx : x < 18446744073709551616) :
    Calls Try.prog 14 #[.slice a n c, .int .u64 x] w (RetOwn w (l ++ [b8 (x / 16777216), b8 (x / 65536), b8 (x / 256), b8 x])) := by
  have HN := Lib.hid hn; clear hn
  have HX := Lib.hid hx
  have hd : ((x / 65536 : Nat) : Int) = (x : Int) / 65536 := by omega
  have HD := Lib.hid hd; clear hd
  go_enter Try.func14, Try.ntmps14
  go_wp2_with fail
  rw [← HD.out]
  refine (refPut16_any a l n c _ _ HN.out h (by omega) (by have := HX.out; omega)).mono ?_
  rintro e w1 hr
  obtain ⟨a1, c1, rfl, h1, h2, ho, hb, hf⟩ := hr.open (n + 2) (by rw [List.length_append, ← HN.out]; rfl)
  clear hr
  go_wp2_with fail
  refine (refPut16_any a1 _ (n + 2) c1 x _ (by rw [List.length_append, ← HN.out]; rfl) hb (by omega) HX.out).mono ?_
  rintro e w2 hr
  obtain ⟨v, rfl, hr⟩ := hr.returned
  go_wp2
  go_ret
  have := hr.fr hf
  rw [List.append_assoc, Nat.div_div_eq_div_mul] at this
  exact this
end Go.Proofs.Ytoooflagkhpnkaa
