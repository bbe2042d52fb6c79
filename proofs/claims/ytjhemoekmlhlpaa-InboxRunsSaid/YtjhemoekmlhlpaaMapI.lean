/- A map[int]int of the call's own, as a function of numbers: look-up, store, delete. -/
import Derived.Test.YtjhemoekmlhlpaaProg
import Derived.Test.YtjhemoekmlhlpaaBase
import Derived.Maps.OwnSet
import Derived.Maps.Range
namespace Go.Proofs.Ytjhemoekmlhlpaa
open Go Go.RowKit Go.Maps
set_option linter.unusedVariables false

theorem lawI : Keyed Try.prog 3 := int_keyed Try.underlying3
theorem zeroI (w : World) : (zeroValue 3).run Try.prog w = .ok (.int .i64 0) w := by kernel_rfl

/-- block b is a map that holds f's numbers; its keys lie in 1 .. 4096 -/
def MapF (w : World) (b : Nat) (f : Int → Option Int) : Prop :=
  ∃ D : DataW Unit, (∃ n, w.ownsMap Try.prog 3 (plainElem Try.prog 3) b n D) ∧ (∀ k, Maps.has D (.int .i64 k) = (f k).isSome) ∧
    (∀ k v, f k = some v → D.atKey (.int .i64 k) (.lit (.int .i64 0)) = .lit (.int .i64 v)) ∧ (∀ l, Maps.has D l = true → ∃ k : Nat, 1 ≤ k ∧ k ≤ 4096 ∧ l = .int .i64 k)
def upd (f : Int → Option Int) (k : Int) (o : Option Int) : Int → Option Int := fun j => if j = k then o else f j

theorem size_bound : ∀ (m : Nat) (D : DataW Unit), Tidy D → (∃ es, D = .map es ∧ ∀ p ∈ es, WideAt.IsKeyLit p.1) → (∀ l, Maps.has D l = true → ∃ k : Nat, 1 ≤ k ∧ k ≤ m ∧ l = .int .i64 k) → Maps.size D ≤ m := by
  intro m
  induction m with
  | zero =>
    intro D hT hE h
    obtain ⟨es, rfl, hk⟩ := hE
    cases es with
    | nil => simp [size_eq]
    | cons p es =>
      have hs : Maps.has (.map (p :: es) : DataW Unit) p.1 = true := by
        rw [has_eq]
        simp [WideAt.sameKey_self (hk p (by simp))]
      obtain ⟨k, h1, h2, _⟩ := h _ hs
      omega
  | succ m ih =>
    intro D hT hE h
    have h1 := ih (D.del (.int .i64 ((m + 1 : Nat) : Int))) (hT.del _) (by
      obtain ⟨es, rfl, hk⟩ := hE
      exact ⟨_, rfl, fun p hp => hk p (List.mem_filter.1 hp).1⟩) (fun l hl => by
      by_cases e : l = .int .i64 ((m + 1 : Nat) : Int)
      · subst e
        rw [has_del_same] at hl
        cases hl
      · rw [has_del_other e] at hl
        obtain ⟨k, h1, h2, rfl⟩ := h l hl
        refine ⟨k, h1, ?_, rfl⟩
        rcases Nat.lt_or_ge k (m + 1) with hk | hk
        · omega
        · exact absurd (by rw [show k = m + 1 by omega]) e)
    have h2 := size_del (k := .int .i64 ((m + 1 : Nat) : Int)) hT
    split at h2 <;> omega
theorem ownsMap_tight {w : World} {P : Program} {k : TypeId} {R : Value → Option (DataW Unit × List MemPlace)} {b n : Nat} {D : DataW Unit} (h : w.ownsMap P k R b n D) : w.ownsMap P k R b (Maps.size D) D := by
  obtain ⟨es, clock, hb, F, _, rfl⟩ := h
  exact ⟨es, clock, hb, F, by simp [Maps.size, length_sorted], rfl⟩
theorem Fr.ofTurned {w w' : World} {b : Nat} (h : w.mapTurned w' b) : Fr [b] w w' := Fr.ofGrown h.grown (fun x hx _ => by simp at hx; simp [hx])
theorem wfI {k : Int} (h1 : -9223372036854775808 ≤ k) (h2 : k ≤ 9223372036854775807) : (Lit.int .i64 k).wf = true := WalkArith.wf_i64 ⟨h1, h2⟩

theorem MapF.made (w : World) : MapF (w.alloc (.map #[] 0)) w.heap.size (fun _ => none) :=
  ⟨.map [], ⟨0, World.ownsMap_made _ _ _ _⟩, (fun k => by rw [has_eq]; rfl), (fun k v (h : none = some v) => nomatch h), (fun l (h : Maps.has (.map []) l = true) => by rw [has_eq] at h; cases h)⟩
theorem MapF.block {w : World} {b : Nat} {f : Int → Option Int} (h : MapF w b f) : ∃ es cl, w.heap[b]? = some (.map es cl) := by
  obtain ⟨D, ⟨n, es, cl, hb, _⟩, _⟩ := h
  exact ⟨es, cl, hb⟩
theorem MapF.fr {w w' : World} {b : Nat} {f : Int → Option Int} {S : List Nat} (h : MapF w b f) (fr : Fr S w w') (hb : b ∉ S) : MapF w' b f := by
  obtain ⟨D, ⟨n, es, cl, he, rest⟩, r⟩ := h
  exact ⟨D, ⟨n, es, cl, (fr.block b (Array.getElem?_eq_some_iff.1 he).1 hb).trans he, rest⟩, r⟩
theorem MapF.drewN {w : World} {b : Nat} {f : Int → Option Int} (h : MapF w b f) (n : Nat) : MapF (w.drewN n) b f := h
theorem Row.neMap {w : World} {g b : Nat} {c : List Value} {T : TypeId} {f : Int → Option Int} (h : Row w g c T) (k : MapF w b f) : g ≠ b := by
  rintro rfl
  obtain ⟨es, cl, he⟩ := k.block
  unfold Row at h
  rw [h] at he
  cases Option.some.inj he

set_option maxRecDepth 100000 in
theorem MapF.look {w : World} {b : Nat} {f : Int → Option Int} (h : MapF w b f) (k : Int) (hk : (Lit.int .i64 k).wf = true) :
    (Instr.lookup 80 (.map (some b)) (.int .i64 k) true).run Try.prog w = .ok (.tuple #[.int .i64 ((f k).getD 0), .bool (f k).isSome]) w := by
  obtain ⟨D, ⟨n, ho⟩, hhas, hat, _⟩ := h
  obtain ⟨v, ps, hrun, hv⟩ := ho.look_ok lawI Try.underlying80 (zeroI w) (plainElem_int Try.underlying3 (by decide)) (keyOf_int_mk Try.underlying3 hk)
  obtain ⟨c, rfl, hc, _⟩ := plainElem_int_inv Try.underlying3 hv
  have hc1 := congrArg Prod.fst hc
  simp only at hc1
  rw [hrun, hhas]
  cases hf : f k with
  | some x =>
    rw [hat k x hf] at hc1
    have : x = c := by injection hc1 with h1; injection h1
    rw [this]; rfl
  | none =>
    have hn : Maps.has D (.int .i64 k) = false := by rw [hhas, hf]; rfl
    rw [atKey_of_not_has hn] at hc1
    have : (0 : Int) = c := by injection hc1 with h1; injection h1
    rw [← this]; rfl
set_option maxRecDepth 100000 in
theorem MapF.store {w : World} {b : Nat} {f : Int → Option Int} (h : MapF w b f) (k : Nat) (h1 : 1 ≤ k) (h2 : k ≤ 4096) (v : Int) (hv : (Lit.int .i64 v).wf = true) :
    ∃ w', (Instr.mapUpdate 80 (.map (some b)) (.int .i64 k) (.int .i64 v)).run Try.prog w = .ok () w' ∧ MapF w' b (upd f k (some v)) ∧ Fr [b] w w' := by
  obtain ⟨D, ⟨n, ho⟩, hhas, hat, hkeys⟩ := h
  have hT := ho.tidy lawI
  have hs := size_bound 4096 D hT (by obtain ⟨es, he, _, hk⟩ := ho.entries lawI; exact ⟨es, he, hk⟩) hkeys
  obtain ⟨w', hrun, ho', ht⟩ := (ownsMap_tight ho).store lawI Try.underlying80 (by unfold maxLen; omega) (keyOf_int_mk Try.underlying3 (wfI (k := (k : Int)) (by omega) (by omega))) (plainElem_int Try.underlying3 hv)
  refine ⟨w', hrun, ⟨_, ⟨_, ho'⟩, fun j => ?_, fun j x hj => ?_, fun l hl => ?_⟩, Fr.ofTurned ht⟩
  · unfold upd
    by_cases e : j = (k : Int)
    · subst e
      rw [if_pos rfl, has_put_same hT.isMap (show WideAt.IsKeyLit (.int .i64 (k : Int)) from trivial)]
      rfl
    · rw [if_neg e, has_put_other (by intro hh; injection hh with _ h3; exact e h3), hhas]
  · unfold upd at hj
    by_cases e : j = (k : Int)
    · subst e
      rw [if_pos rfl] at hj
      obtain rfl := Option.some.inj hj
      rw [atKey_put_same hT.isMap (show WideAt.IsKeyLit (.int .i64 (k : Int)) from trivial)]
    · rw [if_neg e] at hj
      rw [atKey_put_other (by intro hh; injection hh with _ h3; exact e h3)]
      exact hat j x hj
  · by_cases e : l = .int .i64 (k : Int)
    · exact ⟨k, h1, h2, e⟩
    · rw [has_put_other e] at hl
      exact hkeys l hl
set_option maxRecDepth 100000 in
theorem MapF.drop {w : World} {b : Nat} {f : Int → Option Int} (h : MapF w b f) (k : Int) (hk : (Lit.int .i64 k).wf = true) (ty : TypeId) :
    ∃ w', (Builtin.delete_ #[80, 3] ty #[.map (some b), .int .i64 k]).run Try.prog w = .ok (.tuple #[]) w' ∧ MapF w' b (upd f k none) ∧ Fr [b] w w' := by
  obtain ⟨D, ⟨n, ho⟩, hhas, hat, hkeys⟩ := h
  obtain ⟨w', hrun, ho', ht⟩ := ho.drop lawI Try.underlying80 (keyOf_int_mk Try.underlying3 hk) ty
  refine ⟨w', hrun, ⟨_, ⟨_, ho'⟩, fun j => ?_, fun j x hj => ?_, fun l hl => ?_⟩, Fr.ofTurned ht⟩
  · unfold upd
    by_cases e : j = k
    · subst e
      rw [if_pos rfl, has_del_same]
      rfl
    · rw [if_neg e, has_del_other (by intro hh; injection hh with _ h3; exact e h3), hhas]
  · unfold upd at hj
    by_cases e : j = k
    · subst e
      rw [if_pos rfl] at hj
      cases hj
    · rw [if_neg e] at hj
      rw [atKey_del_other (by intro hh; injection hh with _ h3; exact e h3)]
      exact hat j x hj
  · by_cases e : l = .int .i64 k
    · subst e
      rw [has_del_same] at hl
      cases hl
    · rw [has_del_other e] at hl
      exact hkeys l hl
end Go.Proofs.Ytjhemoekmlhlpaa
