/- Arguments that came in: a []Op as a list of rows of four cells. -/
import Derived.Test.YtoooflagkhpnkaaDoorOpen
import Derived.Deep.Slices
namespace Go.Proofs.YtoooflagkhpnkaaDoor
open Go Go.ChangeShapes Go.WideShapes Go.ChangeAt Go.RowKit

/-- one Op, as its four cells hold it -/
structure OpR where
  kind : Int
  which : Bool
  n : Int
  num : Nat
instance : Inhabited OpR := ⟨⟨0, false, 0, 0⟩⟩

def OpsAt (w : World) (a : Option Addr) (l : List OpR) : Prop :=
  l = [] ∨ ∃ b off, a = some ⟨b, off, none⟩ ∧ ∀ i (h : i < l.length), w.cell? ⟨b, off + i * 4, none⟩ = some (.int .i64 l[i].kind) ∧ w.cell? ⟨b, off + i * 4 + 1, none⟩ = some (.bool l[i].which) ∧
    w.cell? ⟨b, off + i * 4 + 2, none⟩ = some (.int .i64 l[i].n) ∧ w.cell? ⟨b, off + i * 4 + 3, none⟩ = some (.int .u64 (l[i].num : Int)) ∧ l[i].num < 18446744073709551616 ∧
    -9223372036854775808 ≤ l[i].kind ∧ l[i].kind ≤ 9223372036854775807 ∧ -9223372036854775808 ≤ l[i].n ∧ l[i].n ≤ 9223372036854775807
theorem OpsAt.fr {w w1 : World} {a : Option Addr} {l : List OpR} {S : List Nat} (h : OpsAt w a l) (f : Fr S w w1) (ha : Off a S) : OpsAt w1 a l := by
  rcases h with rfl | ⟨b, off, rfl, h⟩
  · exact .inl rfl
  · have hb : b ∉ S := ha ⟨b, off, none⟩ rfl
    exact .inr ⟨b, off, rfl, fun i hi => by
      obtain ⟨h0, h1, h2, h3, h4⟩ := h i hi
      exact ⟨f.cell h0 hb, f.cell h1 hb, f.cell h2 hb, f.cell h3 hb, h4⟩⟩
theorem OpsAt.fr0 {w w1 : World} {a : Option Addr} {l : List OpR} (h : OpsAt w a l) (f : Fr [] w w1) : OpsAt w1 a l := h.fr f (Off.nil a)
theorem OpsAt.get {w : World} {a : Option Addr} {l : List OpR} (h : OpsAt w a l) (i : Nat) (hi : i < l.length) :
    ∃ b off, a = some ⟨b, off, none⟩ ∧ w.cell? ⟨b, off + i * 4, none⟩ = some (.int .i64 l[i].kind) ∧ w.cell? ⟨b, off + i * 4 + 1, none⟩ = some (.bool l[i].which) ∧
    w.cell? ⟨b, off + i * 4 + 2, none⟩ = some (.int .i64 l[i].n) ∧ w.cell? ⟨b, off + i * 4 + 3, none⟩ = some (.int .u64 (l[i].num : Int)) ∧ l[i].num < 18446744073709551616 ∧
    -9223372036854775808 ≤ l[i].kind ∧ l[i].kind ≤ 9223372036854775807 ∧ -9223372036854775808 ≤ l[i].n ∧ l[i].n ≤ 9223372036854775807 := by
  rcases h with rfl | ⟨b, off, rfl, h⟩
  · simp at hi
  · exact ⟨b, off, rfl, h i hi⟩

theorem opFields : (Tryd.prog.underlying 55).map (fun d => match d with | .struct fs => fs.toList.map (fun f => (f.type, f.offset)) | _ => []) = some [(3, 0), (4, 1), (3, 2), (35, 3)] := by kernel_rfl
theorem cellsOp : Tryd.prog.cellsOf 55 = 4 := by kernel_rfl
theorem cellsInt : Tryd.prog.cellsOf 3 = 1 := by kernel_rfl
theorem cellsBool : Tryd.prog.cellsOf 4 = 1 := by kernel_rfl
theorem cellsU64 : Tryd.prog.cellsOf 35 = 1 := by kernel_rfl

theorem wf_i64 {n : Int} (h : (Lit.int .i64 n).wf = true) : -9223372036854775808 ≤ n ∧ n ≤ 9223372036854775807 := by
  simp [Lit.wf, IntKind.min, IntKind.max, IntKind.signed, IntKind.bits] at h
  omega
theorem wf_u64 {n : Int} (h : (Lit.int .u64 n).wf = true) : 0 ≤ n ∧ n < 18446744073709551616 := by
  simp [Lit.wf, IntKind.min, IntKind.max, IntKind.signed, IntKind.bits] at h
  omega

set_option maxRecDepth 100000 in
theorem op_of_trod {H : Type} {enc : TypeId × Value → H} {W : World} {base : Nat} {sp : Nat → Bool} {held : Bool} {fuel : Nat} {cs : List Value} {x : DataW H × List MemPlace}
    (h : DataW.trod enc Tryd.prog W base sp held fuel 55 cs = some x) :
    ∃ r : OpR, cs = [.int .i64 r.kind, .bool r.which, .int .i64 r.n, .int .u64 (r.num : Int)] ∧ r.num < 18446744073709551616 ∧
      -9223372036854775808 ≤ r.kind ∧ r.kind ≤ 9223372036854775807 ∧ -9223372036854775808 ≤ r.n ∧ r.n ≤ 9223372036854775807 := by
  have hf := opFields
  rw [Tryd.underlying55] at hf
  obtain ⟨xs, m, _, _, hl, hxl, hi⟩ := DataW.trod_struct Tryd.underlying55 h
  rw [cellsOp] at hl
  obtain ⟨c0, c1, c2, c3, rfl⟩ : ∃ c0 c1 c2 c3, cs = [c0, c1, c2, c3] := by
    match cs, hl with
    | [a, b, c, d], _ => exact ⟨a, b, c, d, rfl⟩
  have hx : xs.length = 4 := hxl
  obtain ⟨y0, y1, y2, y3, rfl⟩ : ∃ c0 c1 c2 c3, xs = [c0, c1, c2, c3] := by
    match xs, hx with
    | [a, b, c, d], _ => exact ⟨a, b, c, d, rfl⟩
  have g0 : DataW.trod enc Tryd.prog W base sp held m 3 (([c0, c1, c2, c3].drop 0).take (Tryd.prog.cellsOf 3)) = [y0, y1, y2, y3][0]? := hi 0 _ rfl
  have g1 : DataW.trod enc Tryd.prog W base sp held m 4 (([c0, c1, c2, c3].drop 1).take (Tryd.prog.cellsOf 4)) = [y0, y1, y2, y3][1]? := hi 1 _ rfl
  have g2 : DataW.trod enc Tryd.prog W base sp held m 3 (([c0, c1, c2, c3].drop 2).take (Tryd.prog.cellsOf 3)) = [y0, y1, y2, y3][2]? := hi 2 _ rfl
  have g3 : DataW.trod enc Tryd.prog W base sp held m 35 (([c0, c1, c2, c3].drop 3).take (Tryd.prog.cellsOf 35)) = [y0, y1, y2, y3][3]? := hi 3 _ rfl
  simp only [cellsInt, cellsBool, cellsU64, List.drop_zero, List.take_succ_cons, List.take_zero, List.drop_succ_cons, List.getElem?_cons_zero, List.getElem?_cons_succ] at g0 g1 g2 g3
  obtain ⟨k, e0, _, w0⟩ := DataW.trod_int Tryd.underlying3 g0
  obtain ⟨b, e1, _⟩ := DataW.trod_bool Tryd.underlying4 g1
  obtain ⟨n, e2, _, w2⟩ := DataW.trod_int Tryd.underlying3 g2
  obtain ⟨u, e3, _, w3⟩ := DataW.trod_int Tryd.underlying35 g3
  simp only [List.cons.injEq, and_true] at e0 e1 e2 e3
  subst e0; subst e1; subst e2; subst e3
  have b3 := wf_u64 w3
  refine ⟨⟨k, b, n, u.toNat⟩, ?_, ?_, (wf_i64 w0).1, (wf_i64 w0).2, (wf_i64 w2).1, (wf_i64 w2).2⟩
  · simp only [List.cons.injEq, Value.int.injEq, true_and, and_true]
    omega
  · show u.toNat < _
    omega

set_option maxRecDepth 100000 in
theorem open_ops {H : Type} {enc : TypeId × Value → H} {W : World} {base : Nat} {v : Value} {d : DataW H} {p : List MemPlace} {sp : Nat → Bool} {held : Bool} {b2 : Nat}
    (hv : Value.okWide Tryd.prog W .any b2 51 v) (h : DataW.Trod enc Tryd.prog W base sp held 51 v d p) :
    ∃ a l cap, v = .slice a (l : List OpR).length cap ∧ l.length ≤ cap ∧ cap ≤ maxLen ∧ OpsAt W a l := by
  obtain ⟨a, len, cap, rfl⟩ := okWide_slice Tryd.underlying51 hv
  obtain ⟨fuel, hf⟩ := h
  rcases Go.Deep.open_slice Tryd.underlying51 hf with ⟨hcs, _⟩ | ⟨x, l, c, m, n, D, Pl, hcs, _, hl, hm, hmm, _, hx⟩
  · simp [Value.cells] at hcs
    obtain ⟨rfl, rfl, rfl⟩ := hcs
    have z : (0 : Nat) ≤ maxLen := by unfold maxLen; omega
    refine ⟨none, [], 0, rfl, ?_, z, .inl rfl⟩
    exact Nat.le_refl _
  · simp [Value.cells] at hcs
    obtain ⟨rfl, rfl, rfl⟩ := hcs
    have hlm : len ≤ m := by rw [hmm]; split <;> omega
    have each : ∀ i, i < len → ∃ r : OpR, W.cell? (x.add (i * 4)) = some (.int .i64 r.kind) ∧ W.cell? ((x.add (i * 4)).add 1) = some (.bool r.which) ∧ W.cell? ((x.add (i * 4)).add 2) = some (.int .i64 r.n) ∧ W.cell? ((x.add (i * 4)).add 3) = some (.int .u64 (r.num : Int)) ∧
        r.num < 18446744073709551616 ∧ -9223372036854775808 ≤ r.kind ∧ r.kind ≤ 9223372036854775807 ∧ -9223372036854775808 ≤ r.n ∧ r.n ≤ 9223372036854775807 := by
      intro i hi
      obtain ⟨cs', h1, h2⟩ := hx i (by omega)
      obtain ⟨r, rfl, h3⟩ := op_of_trod h2
      rw [cellsOp] at h1
      obtain ⟨_, _, hc⟩ := World.cells?_some h1
      exact ⟨r, by simpa [Addr.add] using hc 0 (by omega), by simpa using hc 1 (by omega), by simpa using hc 2 (by omega), by simpa using hc 3 (by omega), h3⟩
    obtain ⟨R, hR⟩ := Go.Deep.choose_lt each
    refine ⟨some x, (List.range len).map R, cap, by simp, by simpa using hl, hm, ?_⟩
    by_cases h0 : len = 0
    · subst h0
      exact .inl (by simp)
    · obtain ⟨b, off, spot⟩ := x
      have c0 := (hR 0 (by omega)).1
      have hs : spot = none := by
        cases spot with
        | none => rfl
        | some s =>
          simp only [Addr.add, Nat.zero_mul, if_true, World.cell?] at c0
          split at c0 <;> simp at c0
      subst hs
      have hadd : ∀ o k, (⟨b, o, none⟩ : Addr).add k = ⟨b, o + k, none⟩ := by intro o k; unfold Addr.add; split <;> simp_all
      refine .inr ⟨b, off, rfl, fun i hi => ?_⟩
      have hi' : i < len := by simpa using hi
      have := hR i hi'
      simp only [hadd] at this
      simpa using this
end Go.Proofs.YtoooflagkhpnkaaDoor
