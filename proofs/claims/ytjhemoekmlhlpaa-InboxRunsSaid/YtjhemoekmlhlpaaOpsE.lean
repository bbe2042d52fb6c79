/- Arguments that came in: a []Op of jotterlaw09 with the lists within its elements, to the bottom. -/
import Derived.Test.YtjhemoekmlhlpaaRunsW
import Derived.SizedLaws
namespace Go.Proofs.Ytjhemoekmlhlpaa
open Go Go.ChangeShapes Go.WideShapes Go.ChangeAt Go.RowKit
set_option linter.unusedVariables false

theorem OpsD.mono {w : World} {d : Nat} : ∀ {a : Option Addr} {n : Nat}, OpsD w d a n → OpsD w (d + 1) a n := by
  induction d with
  | zero =>
    intro a n h
    have h0 : n = 0 := h
    subst h0
    exact OpsD.nil _ _ _
  | succ d ih =>
    rintro a n ⟨h1, l, h2, h3, h4⟩
    exact ⟨h1, l, h2, h3, fun i hi => ih (h4 i hi)⟩
theorem weightsAll_mem' {H : Type} {P : Program} {e : TypeId} : ∀ {l : List (DataW H)} {d : DataW H}, d ∈ l → ∀ n ∈ d.weights P e, n ∈ DataW.weightsAll P e l
  | [], _, h, _, _ => by cases h
  | d0 :: l, d, h, n, hn => by
    simp only [DataW.weightsAll, List.mem_append]
    rcases List.mem_cons.1 h with rfl | h
    · exact .inl hn
    · exact .inr (weightsAll_mem' h n hn)
theorem bytesOp9 : Try.prog.bytesOf 55 = 56 := by kernel_rfl
theorem typesOp9 : (Try.prog.underlying 55).map (fun d => match d with | .struct fs => fs.toList.map (·.type) | _ => []) = some [3, 3, 3, 3, 46] := by kernel_rfl
set_option maxRecDepth 100000 in
theorem opsD_of_trod {H : Type} {enc : TypeId × Value → H} {W : World} {base : Nat} {sp : Nat → Bool} {held : Bool} : ∀ (fuel : Nat) (cs : List Value) (x : DataW H × List MemPlace), DataW.trod enc Try.prog W base sp held fuel 46 cs = some x →
    (∀ k ∈ x.1.weights Try.prog 46, k ≤ reachBytes) → ∃ a n c, cs = [.slice a n c] ∧ n ≤ c ∧ (a = none → c = 0) ∧ ((∀ b, sp b = true) → c * 56 ≤ 140737488351232) ∧ OpsD W (fuel + 1) a n := by
  intro fuel
  induction fuel using Nat.strongRecOn with
  | _ fuel ih =>
    intro cs x h hw
    rcases DataW.trod_slice Try.underlying46 h with ⟨rfl, _⟩ | ⟨a, len, cap, elems, rest, n, rfl, rfl, rfl, hb, hl, hm, hlen, hel, hsp, hns⟩
    · exact ⟨none, 0, 0, rfl, Nat.le_refl _, fun _ => rfl, fun _ => by omega, OpsD.nil _ _ _⟩
    · have hbig : ((elems.map (·.1)).length + (rest.map (·.1)).length) * 56 ≤ reachBytes := by
        refine hw _ ?_
        simp only [DataW.weights, Try.underlying46, bytesOp9, List.mem_cons]
        exact .inl trivial
      have hwe : ∀ d ∈ elems.map (·.1), ∀ k ∈ d.weights Try.prog 55, k ≤ reachBytes := fun d hd k hk => by
        refine hw k ?_
        simp only [DataW.weights, Try.underlying46, List.mem_cons, List.mem_append]
        exact .inr (.inl (weightsAll_mem' hd k hk))
      simp only [List.length_map] at hbig
      have hr : reachBytes = 140737488351232 := rfl
      have each : ∀ i, i < len → ∃ r : Op9, W.cell? (a.add (i * 5)) = some (.int .i64 r.kind) ∧ W.cell? ((a.add (i * 5)).add 1) = some (.int .i64 r.slot) ∧ W.cell? ((a.add (i * 5)).add 2) = some (.int .i64 r.n) ∧ W.cell? ((a.add (i * 5)).add 3) = some (.int .i64 r.v) ∧
          W.cell? ((a.add (i * 5)).add 4) = some (.slice r.ina r.inl r.inc) ∧ r.fits ∧ OpsD W n r.ina r.inl := by
        intro i hi
        have h1 := hel i hi
        rw [List.getElem?_eq_getElem (by omega)] at h1
        obtain ⟨cs', hcs, h2⟩ := Option.bind_eq_some_iff.1 h1
        obtain ⟨r, rfl, h3⟩ := op9_of_trod h2
        obtain ⟨xs, m, rfl, hxe, _, hxl, hxi⟩ := DataW.trod_struct Try.underlying55 h2
        have hx5 : xs.length = 5 := hxl
        have g4 := hxi 4 _ rfl
        rw [List.getElem?_eq_getElem (show 4 < xs.length by omega)] at g4
        have e4 : ([Value.int .i64 r.kind, .int .i64 r.slot, .int .i64 r.n, .int .i64 r.v, .slice r.ina r.inl r.inc].drop 4).take (Try.prog.cellsOf 46) = [.slice r.ina r.inl r.inc] := by rw [cellsOps9]; rfl
        have g5 : DataW.trod enc Try.prog W base sp held m 46 [.slice r.ina r.inl r.inc] = some xs[4] := g4
        have hw4 : ∀ k ∈ (xs[4]).1.weights Try.prog 46, k ≤ reachBytes := fun k hk => by
          refine hwe _ (List.mem_map.2 ⟨elems[i]'(by omega), List.getElem_mem _, rfl⟩) k ?_
          rw [hxe]
          have ht := typesOp9
          rw [Try.underlying55] at ht
          simp only [DataW.weights, Try.underlying55]
          refine DataW.weights_mem_each (j := 4) (t := 46) (d := (xs[4]).1) ?_ ?_ k hk
          · rfl
          · rw [List.getElem?_map, List.getElem?_eq_getElem (show 4 < xs.length by omega)]; rfl
        obtain ⟨a', n', c', he, _, _, _, hd⟩ := ih m (by omega) _ _ g5 hw4
        simp only [List.cons.injEq, Value.slice.injEq, and_true] at he
        obtain ⟨ha', hn', _⟩ := he
        rw [cellsOp9] at hcs
        obtain ⟨_, _, hc⟩ := World.cells?_some hcs
        refine ⟨r, by simpa [Addr.add] using hc 0 (by omega), by simpa using hc 1 (by omega), by simpa using hc 2 (by omega), by simpa using hc 3 (by omega), by simpa using hc 4 (by omega), h3, ?_⟩
        rw [ha', hn']
        exact hd
      obtain ⟨R, hR⟩ := Go.Deep.choose_lt each
      refine ⟨some a, len, cap, rfl, hl, (fun h => by cases h), fun hs => ?_, ?_⟩
      · have := (hsp (hs _)).1
        omega
      · refine ⟨by omega, (List.range len).map R, by simp, ?_, fun i hi => ?_⟩
        · by_cases h0 : len = 0
          · subst h0
            exact .inl (by simp)
          · obtain ⟨b, off, spot⟩ := a
            have c0 := (hR 0 (by omega)).1
            have hs : spot = none := by
              cases spot with
              | none => rfl
              | some s =>
                simp only [Addr.add, Nat.zero_mul, if_true, World.cell?] at c0
                split at c0 <;> simp at c0
            subst hs
            have hadd : ∀ o k, (⟨b, o, none⟩ : Addr).add k = ⟨b, o + k, none⟩ := by intro o k; unfold Addr.add; split <;> simp_all
            refine .inr ⟨b, off, rfl, fun i hi => ?_⟩
            have hi' : i < len := by simpa using hi
            obtain ⟨h0, h1, h2, h3, h4, h5, _⟩ := hR i hi'
            simp only [hadd] at h0 h1 h2 h3 h4
            simpa using ⟨h0, h1, h2, h3, h4, h5⟩
        · have hi' : i < len := by simpa using hi
          have := (hR i hi').2.2.2.2.2.2
          simpa using OpsD.mono this
set_option maxRecDepth 100000 in
theorem open_opsD {H : Type} {enc : TypeId × Value → H} {W : World} {base : Nat} {v : Value} {d : DataW H} {p : List MemPlace} {held : Bool} {b2 : Nat}
    (hv : Value.okWide Try.prog W .any b2 46 v) (h : DataW.Trod enc Try.prog W base (fun _ => true) held 46 v d p) (hw : ∀ k ∈ d.weights Try.prog 46, k ≤ reachBytes) :
    ∃ a l cap dd, v = .slice a (l : List Op9).length cap ∧ l.length ≤ cap ∧ cap * 56 ≤ 140737488351232 ∧ (a = none → cap = 0) ∧ Ops9 W a l ∧ ∀ i (h : i < l.length), OpsD W dd l[i].ina l[i].inl := by
  obtain ⟨a0, len, cap, rfl⟩ := okWide_slice Try.underlying46 hv
  obtain ⟨fuel, hf⟩ := h
  obtain ⟨a, n, c, hcs, h1, h2, h3, hd⟩ := opsD_of_trod fuel _ _ hf hw
  simp [Value.cells] at hcs
  obtain ⟨rfl, rfl, rfl⟩ := hcs
  obtain ⟨h4, l, rfl, h5, h6⟩ := hd
  exact ⟨a0, l, cap, fuel, rfl, h1, h3 (fun _ => rfl), h2, h5, h6⟩
end Go.Proofs.Ytjhemoekmlhlpaa
