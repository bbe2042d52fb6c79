/- Arguments that came in: a []Op of jotterlaw09 as a list of rows of five cells. -/
import Derived.Test.YtjhemoekmlhlpaaOpenI
import Derived.Deep.Slices
namespace Go.Proofs.Ytjhemoekmlhlpaa
open Go Go.ChangeShapes Go.WideShapes Go.ChangeAt Go.RowKit

/-- one Op, as its five cells hold it -/
structure Op9 where
  kind : Int
  slot : Int
  n : Int
  v : Int
  ina : Option Addr
  inl : Nat
  inc : Nat
instance : Inhabited Op9 := ⟨⟨0, 0, 0, 0, none, 0, 0⟩⟩
def Op9.fits (r : Op9) : Prop := (Lit.int .i64 r.kind).wf = true ∧ (Lit.int .i64 r.slot).wf = true ∧ (Lit.int .i64 r.n).wf = true ∧ (Lit.int .i64 r.v).wf = true

def Ops9 (w : World) (a : Option Addr) (l : List Op9) : Prop :=
  l = [] ∨ ∃ b off, a = some ⟨b, off, none⟩ ∧ ∀ i (h : i < l.length), w.cell? ⟨b, off + i * 5, none⟩ = some (.int .i64 l[i].kind) ∧ w.cell? ⟨b, off + i * 5 + 1, none⟩ = some (.int .i64 l[i].slot) ∧
    w.cell? ⟨b, off + i * 5 + 2, none⟩ = some (.int .i64 l[i].n) ∧ w.cell? ⟨b, off + i * 5 + 3, none⟩ = some (.int .i64 l[i].v) ∧ w.cell? ⟨b, off + i * 5 + 4, none⟩ = some (.slice l[i].ina l[i].inl l[i].inc) ∧ l[i].fits
theorem Ops9.fr {w w1 : World} {a : Option Addr} {l : List Op9} {S : List Nat} (h : Ops9 w a l) (f : Fr S w w1) (ha : Off a S) : Ops9 w1 a l := by
  rcases h with rfl | ⟨b, off, rfl, h⟩
  · exact .inl rfl
  · have hb : b ∉ S := ha ⟨b, off, none⟩ rfl
    exact .inr ⟨b, off, rfl, fun i hi => by
      obtain ⟨h0, h1, h2, h3, h4, h5⟩ := h i hi
      exact ⟨f.cell h0 hb, f.cell h1 hb, f.cell h2 hb, f.cell h3 hb, f.cell h4 hb, h5⟩⟩
theorem Ops9.fr0 {w w1 : World} {a : Option Addr} {l : List Op9} (h : Ops9 w a l) (f : Fr [] w w1) : Ops9 w1 a l := h.fr f (Off.nil a)
theorem Ops9.get {w : World} {a : Option Addr} {l : List Op9} (h : Ops9 w a l) (i : Nat) (hi : i < l.length) :
    ∃ b off, a = some ⟨b, off, none⟩ ∧ w.cell? ⟨b, off + i * 5, none⟩ = some (.int .i64 l[i].kind) ∧ w.cell? ⟨b, off + i * 5 + 1, none⟩ = some (.int .i64 l[i].slot) ∧
    w.cell? ⟨b, off + i * 5 + 2, none⟩ = some (.int .i64 l[i].n) ∧ w.cell? ⟨b, off + i * 5 + 3, none⟩ = some (.int .i64 l[i].v) ∧ w.cell? ⟨b, off + i * 5 + 4, none⟩ = some (.slice l[i].ina l[i].inl l[i].inc) ∧ l[i].fits := by
  rcases h with rfl | ⟨b, off, rfl, h⟩
  · simp at hi
  · exact ⟨b, off, rfl, h i hi⟩

theorem op9Fields : (Try.prog.underlying 55).map (fun d => match d with | .struct fs => fs.toList.map (fun f => (f.type, f.offset)) | _ => []) = some [(3, 0), (3, 1), (3, 2), (3, 3), (46, 4)] := by kernel_rfl
theorem cellsOp9 : Try.prog.cellsOf 55 = 5 := by kernel_rfl
theorem cellsInt : Try.prog.cellsOf 3 = 1 := by kernel_rfl
theorem cellsOps9 : Try.prog.cellsOf 46 = 1 := by kernel_rfl

set_option maxRecDepth 100000 in
theorem op9_of_trod {H : Type} {enc : TypeId × Value → H} {W : World} {base : Nat} {sp : Nat → Bool} {held : Bool} {fuel : Nat} {cs : List Value} {x : DataW H × List MemPlace}
    (h : DataW.trod enc Try.prog W base sp held fuel 55 cs = some x) :
    ∃ r : Op9, cs = [.int .i64 r.kind, .int .i64 r.slot, .int .i64 r.n, .int .i64 r.v, .slice r.ina r.inl r.inc] ∧ r.fits := by
  have hf := op9Fields
  rw [Try.underlying55] at hf
  obtain ⟨xs, m, _, _, hl, hxl, hi⟩ := DataW.trod_struct Try.underlying55 h
  rw [cellsOp9] at hl
  obtain ⟨c0, c1, c2, c3, c4, rfl⟩ : ∃ c0 c1 c2 c3 c4, cs = [c0, c1, c2, c3, c4] := by
    match cs, hl with
    | [a, b, c, d, e], _ => exact ⟨a, b, c, d, e, rfl⟩
  have hx : xs.length = 5 := hxl
  obtain ⟨y0, y1, y2, y3, y4, rfl⟩ : ∃ c0 c1 c2 c3 c4, xs = [c0, c1, c2, c3, c4] := by
    match xs, hx with
    | [a, b, c, d, e], _ => exact ⟨a, b, c, d, e, rfl⟩
  have g0 : DataW.trod enc Try.prog W base sp held m 3 (([c0, c1, c2, c3, c4].drop 0).take (Try.prog.cellsOf 3)) = [y0, y1, y2, y3, y4][0]? := hi 0 _ rfl
  have g1 : DataW.trod enc Try.prog W base sp held m 3 (([c0, c1, c2, c3, c4].drop 1).take (Try.prog.cellsOf 3)) = [y0, y1, y2, y3, y4][1]? := hi 1 _ rfl
  have g2 : DataW.trod enc Try.prog W base sp held m 3 (([c0, c1, c2, c3, c4].drop 2).take (Try.prog.cellsOf 3)) = [y0, y1, y2, y3, y4][2]? := hi 2 _ rfl
  have g3 : DataW.trod enc Try.prog W base sp held m 3 (([c0, c1, c2, c3, c4].drop 3).take (Try.prog.cellsOf 3)) = [y0, y1, y2, y3, y4][3]? := hi 3 _ rfl
  have g4 : DataW.trod enc Try.prog W base sp held m 46 (([c0, c1, c2, c3, c4].drop 4).take (Try.prog.cellsOf 46)) = [y0, y1, y2, y3, y4][4]? := hi 4 _ rfl
  simp only [cellsInt, cellsOps9, List.drop_zero, List.take_succ_cons, List.take_zero, List.drop_succ_cons, List.getElem?_cons_zero, List.getElem?_cons_succ] at g0 g1 g2 g3 g4
  obtain ⟨k, e0, _, w0⟩ := DataW.trod_int Try.underlying3 g0
  obtain ⟨s, e1, _, w1⟩ := DataW.trod_int Try.underlying3 g1
  obtain ⟨n, e2, _, w2⟩ := DataW.trod_int Try.underlying3 g2
  obtain ⟨v, e3, _, w3⟩ := DataW.trod_int Try.underlying3 g3
  simp only [List.cons.injEq, and_true] at e0 e1 e2 e3
  subst e0; subst e1; subst e2; subst e3
  obtain ⟨a, l, c, rfl⟩ : ∃ a l c, c4 = .slice a l c := by
    rcases Go.Deep.open_slice Try.underlying46 g4 with ⟨hcs, _⟩ | ⟨x, l, c, m, n, D, Pl, hcs, _⟩
    · simp at hcs
      exact ⟨_, _, _, hcs⟩
    · simp at hcs
      exact ⟨_, _, _, hcs⟩
  exact ⟨⟨k, s, n, v, a, l, c⟩, rfl, w0, w1, w2, w3⟩

set_option maxRecDepth 100000 in
theorem open_ops9 {H : Type} {enc : TypeId × Value → H} {W : World} {base : Nat} {v : Value} {d : DataW H} {p : List MemPlace} {sp : Nat → Bool} {held : Bool} {b2 : Nat}
    (hv : Value.okWide Try.prog W .any b2 46 v) (h : DataW.Trod enc Try.prog W base sp held 46 v d p) :
    ∃ a l cap, v = .slice a (l : List Op9).length cap ∧ l.length ≤ cap ∧ cap ≤ maxLen ∧ Ops9 W a l := by
  obtain ⟨a, len, cap, rfl⟩ := okWide_slice Try.underlying46 hv
  obtain ⟨fuel, hf⟩ := h
  rcases Go.Deep.open_slice Try.underlying46 hf with ⟨hcs, _⟩ | ⟨x, l, c, m, n, D, Pl, hcs, _, hl, hm, hmm, _, hx⟩
  · simp [Value.cells] at hcs
    obtain ⟨rfl, rfl, rfl⟩ := hcs
    have z : (0 : Nat) ≤ maxLen := by unfold maxLen; omega
    refine ⟨none, [], 0, rfl, ?_, z, .inl rfl⟩
    exact Nat.le_refl _
  · simp [Value.cells] at hcs
    obtain ⟨rfl, rfl, rfl⟩ := hcs
    have hlm : len ≤ m := by rw [hmm]; split <;> omega
    have each : ∀ i, i < len → ∃ r : Op9, W.cell? (x.add (i * 5)) = some (.int .i64 r.kind) ∧ W.cell? ((x.add (i * 5)).add 1) = some (.int .i64 r.slot) ∧ W.cell? ((x.add (i * 5)).add 2) = some (.int .i64 r.n) ∧ W.cell? ((x.add (i * 5)).add 3) = some (.int .i64 r.v) ∧
        W.cell? ((x.add (i * 5)).add 4) = some (.slice r.ina r.inl r.inc) ∧ r.fits := by
      intro i hi
      obtain ⟨cs', h1, h2⟩ := hx i (by omega)
      obtain ⟨r, rfl, h3⟩ := op9_of_trod h2
      rw [cellsOp9] at h1
      obtain ⟨_, _, hc⟩ := World.cells?_some h1
      exact ⟨r, by simpa [Addr.add] using hc 0 (by omega), by simpa using hc 1 (by omega), by simpa using hc 2 (by omega), by simpa using hc 3 (by omega), by simpa using hc 4 (by omega), h3⟩
    obtain ⟨R, hR⟩ := Go.Deep.choose_lt each
    refine ⟨some x, (List.range len).map R, cap, by simp, by simpa using hl, hm, ?_⟩
    by_cases h0 : len = 0
    · subst h0
      exact .inl (by simp)
    · obtain ⟨b, off, spot⟩ := x
      have c0 := (hR 0 (by omega)).1
      have hs : spot = none := by
        cases spot with
        | none => rfl
        | some s =>
          simp only [Addr.add, Nat.zero_mul, if_true, World.cell?] at c0
          split at c0 <;> simp at c0
      subst hs
      have hadd : ∀ o k, (⟨b, o, none⟩ : Addr).add k = ⟨b, o + k, none⟩ := by intro o k; unfold Addr.add; split <;> simp_all
      refine .inr ⟨b, off, rfl, fun i hi => ?_⟩
      have hi' : i < len := by simpa using hi
      have := hR i hi'
      simp only [hadd] at this
      simpa using this
end Go.Proofs.Ytjhemoekmlhlpaa
