/- A map of ints to api.Ops, each the Op of a number: it is said as a map of numbers. -/
import Derived.Test.YtjhemoekmlhlpaaRst
namespace Go.Proofs.Ytjhemoekmlhlpaa
open Go Go.RowKit Go.Maps
set_option linter.unusedVariables false

/-- the Op of a number, as the law builds it -/
def opL (v : Int) : List Value := [.int .i64 (v.tmod 3), .int .i64 v, .int .u8 0, .int .i64 0, .int .i64 (wrap64 (-v))]
def opV (v : Int) : Value := .agg #[.int .i64 (v.tmod 3), .int .i64 v, .int .u8 0, .int .i64 0, .int .i64 (wrap64 (-v))]
def opN : Value → Int
  | .agg cs => match cs.getD 1 undef with
    | Value.int .i64 p => p
    | _ => 0
  | _ => 0
open Classical in
/-- an element that is the Op of a number reads as that number -/
noncomputable def opR (val : Value) : Option (DataW Unit × List MemPlace) :=
  if val = opV (opN val) ∧ (Lit.int .i64 (opN val)).wf = true then some (.lit (.int .i64 (opN val)), []) else none
theorem opN_opV (v : Int) : opN (opV v) = v := rfl
theorem opR_mk {v : Int} (hv : (Lit.int .i64 v).wf = true) : opR (opV v) = some (.lit (.int .i64 v), []) := by
  unfold opR
  rw [opN_opV, if_pos ⟨rfl, hv⟩]
theorem opR_inv {val : Value} {x : DataW Unit × List MemPlace} (h : opR val = some x) : ∃ c, val = opV c ∧ x = (.lit (.int .i64 c), []) ∧ (Lit.int .i64 c).wf = true := by
  unfold opR at h
  split at h
  · rename_i hc
    exact ⟨_, hc.1, (Option.some.inj h).symm, hc.2⟩
  · cases h
theorem zeroO (w : World) : (zeroValue 93).run Try.prog w = .ok (opV 0) w := by kernel_rfl
def MapO (w : World) (b : Nat) (f : Int → Option Int) : Prop :=
  ∃ D : DataW Unit, (∃ n, w.ownsMap Try.prog 3 opR b n D) ∧ (∀ k, Maps.has D (.int .i64 k) = (f k).isSome) ∧
    (∀ k v, f k = some v → D.atKey (.int .i64 k) (.lit (.int .i64 0)) = .lit (.int .i64 v)) ∧ (∀ l, Maps.has D l = true → ∃ k : Nat, 1 ≤ k ∧ k ≤ 4096 ∧ l = .int .i64 k)
theorem MapO.made (w : World) : MapO (w.alloc (.map #[] 0)) w.heap.size (fun _ => none) :=
  ⟨.map [], ⟨0, World.ownsMap_made _ _ _ _⟩, (fun k => by rw [has_eq]; rfl), (fun k v (h : none = some v) => nomatch h), (fun l (h : Maps.has (.map []) l = true) => by rw [has_eq] at h; cases h)⟩
theorem MapO.block {w : World} {b : Nat} {f : Int → Option Int} (h : MapO w b f) : ∃ es cl, w.heap[b]? = some (.map es cl) := by
  obtain ⟨D, ⟨n, es, cl, hb, _⟩, _⟩ := h
  exact ⟨es, cl, hb⟩
set_option maxRecDepth 100000 in
theorem MapO.look {w : World} {b : Nat} {f : Int → Option Int} (h : MapO w b f) (k : Int) (hk : (Lit.int .i64 k).wf = true) :
    (Instr.lookup 103 (.map (some b)) (.int .i64 k) true).run Try.prog w = .ok (.tuple #[opV ((f k).getD 0), .bool (f k).isSome]) w := by
  obtain ⟨D, ⟨n, ho⟩, hhas, hat, _⟩ := h
  obtain ⟨v, ps, hrun, hv⟩ := ho.look_ok lawI Try.underlying103 (zeroO w) (opR_mk (wfI (by omega) (by omega))) (keyOf_int_mk Try.underlying3 hk)
  obtain ⟨c, rfl, hc, _⟩ := opR_inv hv
  have hc1 := congrArg Prod.fst hc
  simp only at hc1
  rw [hrun, hhas]
  cases hf : f k with
  | some x =>
    rw [hat k x hf] at hc1
    have : x = c := by injection hc1 with h1; injection h1
    rw [this]
    simp
  | none =>
    have hn : Maps.has D (.int .i64 k) = false := by rw [hhas, hf]; rfl
    rw [atKey_of_not_has hn] at hc1
    have : (0 : Int) = c := by injection hc1 with h1; injection h1
    rw [← this]
    simp
theorem MapO.fr {w w' : World} {b : Nat} {f : Int → Option Int} {S : List Nat} (h : MapO w b f) (fr : Fr S w w') (hb : b ∉ S) : MapO w' b f := by
  obtain ⟨D, ⟨n, es, cl, hblk, hrest⟩, h2⟩ := h
  exact ⟨D, ⟨n, es, cl, (fr.block b (Array.getElem?_eq_some_iff.1 hblk).1 hb).trans hblk, hrest⟩, h2⟩
set_option maxRecDepth 100000 in
theorem MapO.store {w : World} {b : Nat} {f : Int → Option Int} (h : MapO w b f) (k : Nat) (h1 : 1 ≤ k) (h2 : k ≤ 4096) (v : Int) (hv : (Lit.int .i64 v).wf = true) :
    ∃ w', (Instr.mapUpdate 103 (.map (some b)) (.int .i64 k) (opV v)).run Try.prog w = .ok () w' ∧ MapO w' b (upd f k (some v)) ∧ Fr [b] w w' := by
  obtain ⟨D, ⟨n, ho⟩, hhas, hat, hkeys⟩ := h
  have hT := ho.tidy lawI
  have hs := size_bound 4096 D hT (by obtain ⟨es, he, _, hk⟩ := ho.entries lawI; exact ⟨es, he, hk⟩) hkeys
  obtain ⟨w', hrun, ho', ht⟩ := (ownsMap_tight ho).store lawI Try.underlying103 (by unfold maxLen; omega) (keyOf_int_mk Try.underlying3 (wfI (k := (k : Int)) (by omega) (by omega))) (opR_mk hv)
  refine ⟨w', hrun, ⟨_, ⟨_, ho'⟩, fun j => ?_, fun j x hj => ?_, fun l hl => ?_⟩, Fr.ofTurned ht⟩
  · unfold upd
    by_cases e : j = (k : Int)
    · subst e
      rw [if_pos rfl, has_put_same hT.isMap (show WideAt.IsKeyLit (.int .i64 (k : Int)) from trivial)]
      rfl
    · rw [if_neg e, has_put_other (by intro hh; injection hh with _ h3; exact e h3), hhas]
  · unfold upd at hj
    by_cases e : j = (k : Int)
    · subst e
      rw [if_pos rfl] at hj
      obtain rfl := Option.some.inj hj
      rw [atKey_put_same hT.isMap (show WideAt.IsKeyLit (.int .i64 (k : Int)) from trivial)]
    · rw [if_neg e] at hj
      rw [atKey_put_other (by intro hh; injection hh with _ h3; exact e h3)]
      exact hat j x hj
  · by_cases e : l = .int .i64 (k : Int)
    · exact ⟨k, h1, h2, e⟩
    · rw [has_put_other e] at hl
      exact hkeys l hl

theorem MapO.drop {w : World} {b : Nat} {f : Int → Option Int} (h : MapO w b f) (k : Int) (hk : (Lit.int .i64 k).wf = true) (ty : TypeId) :
    ∃ w', (Builtin.delete_ #[103, 3] ty #[.map (some b), .int .i64 k]).run Try.prog w = .ok (.tuple #[]) w' ∧ MapO w' b (upd f k none) ∧ Fr [b] w w' := by
  obtain ⟨D, ⟨n, ho⟩, hhas, hat, hkeys⟩ := h
  obtain ⟨w', hrun, ho', ht⟩ := ho.drop lawI Try.underlying103 (keyOf_int_mk Try.underlying3 hk) ty
  refine ⟨w', hrun, ⟨_, ⟨_, ho'⟩, fun j => ?_, fun j x hj => ?_, fun l hl => ?_⟩, Fr.ofTurned ht⟩
  · unfold upd
    by_cases e : j = k
    · subst e
      rw [if_pos rfl, has_del_same]
      rfl
    · rw [if_neg e, has_del_other (by intro hh; injection hh with _ h3; exact e h3), hhas]
  · unfold upd at hj
    by_cases e : j = k
    · subst e
      rw [if_pos rfl] at hj
      cases hj
    · rw [if_neg e] at hj
      rw [atKey_del_other (by intro hh; injection hh with _ h3; exact e h3)]
      exact hat j x hj
  · by_cases e : l = .int .i64 k
    · subst e
      rw [has_del_same] at hl
      cases hl
    · rw [has_del_other e] at hl
      exact hkeys l hl
theorem MapO.clear {w : World} {b : Nat} {f : Int → Option Int} (h : MapO w b f) (ty : TypeId) :
    ∃ w', (Builtin.clear_ #[103] ty #[.map (some b)]).run Try.prog w = .ok (.tuple #[]) w' ∧ MapO w' b (fun _ => none) ∧ Fr [b] w w' := by
  obtain ⟨es, cl, hb⟩ := h.block
  have hlt : b < w.heap.size := (Array.getElem?_eq_some_iff.1 hb).1
  refine ⟨w.putObj b (.map #[] cl), ?_, ⟨.map [], ⟨0, #[], cl, World.putObj_heap_same hlt, ⟨by simp, MapKept.stamped_empty cl, by simp⟩, Nat.le_refl _, rfl⟩, (fun k => by rw [has_eq]; rfl), (fun k v (h : none = some v) => nomatch h), (fun l (h : Maps.has (.map []) l = true) => by rw [has_eq] at h; cases h)⟩, Fr.ofGrown (grownBy_putObj' w b _) (fun x hx _ => by cases hx; simp)⟩
  simp [Builtin.clear_, Sem.run_bind, run_underlying Try.underlying103, getObj, setObj, Sem.run, hb, Result.andThen, World.putObj]
theorem MapO.drewN {w : World} {b : Nat} {f : Int → Option Int} (h : MapO w b f) (n : Nat) : MapO (w.drewN n) b f := h
theorem Row.neMapO {w : World} {g b : Nat} {c : List Value} {T : TypeId} {f : Int → Option Int} (h : Row w g c T) (k : MapO w b f) : g ≠ b := by
  rintro rfl
  obtain ⟨es, cl, he⟩ := k.block
  unfold Row at h
  rw [he] at h
  cases Option.some.inj h
end Go.Proofs.Ytjhemoekmlhlpaa
