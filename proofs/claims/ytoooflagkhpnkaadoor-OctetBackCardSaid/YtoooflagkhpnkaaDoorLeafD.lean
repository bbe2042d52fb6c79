/- Contracts: octet.Put8, Put16, Put32. -/
import Derived.Test.YtoooflagkhpnkaaDoorLeafC
namespace Go.Proofs.YtoooflagkhpnkaaDoor
open Go Go.RowKit
set_option linter.unusedVariables false

theorem RetMade.fr {w w1 w' : World} {l : List UInt8} {e : Ending} (f : Fr [] w w1) (h : RetMade w1 l e w') : RetMade w l e w' := by
  obtain ⟨g, he, hg, hr, hf⟩ := h
  exact ⟨g, he, Nat.le_trans f.size hg, hr, f.trans0 hf⟩
theorem RetMade.returned {w w' : World} {l : List UInt8} {e : Ending} (h : RetMade w l e w') : ∃ v, e = .returned v ∧ RetMade w l (.returned v) w' := by
  obtain ⟨g, rfl, h⟩ := h
  exact ⟨_, rfl, g, rfl, h⟩

theorem RetMade.open {w w' : World} {l : List UInt8} {e : Ending} (h : RetMade w l e w') (n : Nat) (hn : n = l.length) : ∃ g, e = .returned (.slice (some ⟨g, 0, none⟩) n n) ∧ w.heap.size ≤ g ∧ Row w' g (bs l) 5 ∧ Fr [] w w' := by
  subst hn
  exact h

/-- the lowest byte of a number -/
def b8 (n : Nat) : UInt8 := UInt8.ofNat n
theorem b8_int (n : Nat) : ((b8 n).toNat : Int) = (n : Int) % 256 := by
  rw [b8, UInt8.toNat_ofNat']; rfl
theorem b8_div (n k : Nat) : ((b8 (n / k)).toNat : Int) = (n : Int) / (k : Int) % 256 := by
  rw [b8_int]; rfl

theorem with_at (a : Option Addr) (l : List UInt8) (n c : Nat) (a' : Option Addr) (m : List UInt8) (k c' : Nat) (w : World) (hn : n = l.length) (hk : k = m.length) (h : BytesAt w a l) (h' : BytesAt w a' m)
    (hm : l.length + m.length ≤ 281474976710656) :
    Calls Tryd.prog 47 #[.slice a n c, .slice a' k c'] w (RetMade w (l ++ m)) := by
  subst hn; subst hk
  exact with_any a l c a' m c' w h h' hm
theorem BytesAt.lit (w : World) (arr : Array Value) (l : List UInt8) (T : TypeId) (h : arr = (bs l).toArray) : BytesAt (w.alloc (.cells arr T)) (some ⟨w.heap.size, 0, none⟩) l := by
  subst h
  exact BytesAt.ofRow (Row.new w (bs l) T)

set_option maxHeartbeats 400000 in
theorem put8_any (a : Option Addr) (l : List UInt8) (n c : Nat) (x : Nat) (w : World) (hn : n = l.length) (h : BytesAt w a l) (hm : l.length ≤ 281474976710000) (hx : x < 18446744073709551616) :
    Calls Tryd.prog 22 #[.slice a n c, .int .u64 x] w (RetMade w (l ++ [b8 x])) := by
  have HN := Lib.hid hn; clear hn
  have HX := Lib.hid hx; clear hx
  go_enter Tryd.func22, Tryd.ntmps22
  go_wp2_with fail
  refine (with_at a l n c _ [b8 x] _ _ _ HN.out rfl (h.fr0 ((Fr.refl _ _).alloc _)) (BytesAt.lit _ _ _ _ (by simp [bs, b8_int])) (by simp; omega)).mono ?_
  intro e w' hr
  obtain ⟨v, rfl, hr⟩ := hr.returned
  go_wp2
  go_ret
  exact RetMade.fr ((Fr.refl _ _).alloc _) hr

set_option maxHeartbeats 400000 in
theorem put16_any (a : Option Addr) (l : List UInt8) (n c : Nat) (x : Nat) (w : World) (hn : n = l.length) (h : BytesAt w a l) (hm : l.length ≤ 281474976710000) (hx : x < 18446744073709551616) :
    Calls Tryd.prog 23 #[.slice a n c, .int .u64 x] w (RetMade w (l ++ [b8 (x / 256), b8 x])) := by
  have HN := Lib.hid hn; clear hn
  have HX := Lib.hid hx; clear hx
  go_enter Tryd.func23, Tryd.ntmps23
  go_wp2_with fail
  refine (with_at a l n c _ [b8 (x / 256), b8 x] _ _ _ HN.out rfl (h.fr0 ((Fr.refl _ _).alloc _)) (BytesAt.lit _ _ _ _ (by simp [bs, b8_int])) (by simp; omega)).mono ?_
  intro e w' hr
  obtain ⟨v, rfl, hr⟩ := hr.returned
  go_wp2
  go_ret
  exact RetMade.fr ((Fr.refl _ _).alloc _) hr

set_option maxHeartbeats 400000 in
theorem put32_any (a : Option Addr) (l : List UInt8) (n c : Nat) (x : Nat) (w : World) (hn : n = l.length) (h : BytesAt w a l) (hm : l.length ≤ 281474976710000) (hx : x < 18446744073709551616) :
    Calls Tryd.prog 24 #[.slice a n c, .int .u64 x] w (RetMade w (l ++ [b8 (x / 16777216), b8 (x / 65536), b8 (x / 256), b8 x])) := by
  have HN := Lib.hid hn; clear hn
  have HX := Lib.hid hx; clear hx
  go_enter Tryd.func24, Tryd.ntmps24
  go_wp2_with fail
  refine (with_at a l n c _ [b8 (x / 16777216), b8 (x / 65536), b8 (x / 256), b8 x] _ _ _ HN.out rfl (h.fr0 ((Fr.refl _ _).alloc _)) (BytesAt.lit _ _ _ _ (by simp [bs, b8_int])) (by simp; omega)).mono ?_
  intro e w' hr
  obtain ⟨v, rfl, hr⟩ := hr.returned
  go_wp2
  go_ret
  exact RetMade.fr ((Fr.refl _ _).alloc _) hr

end Go.Proofs.YtoooflagkhpnkaaDoor
