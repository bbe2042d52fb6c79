/- jotterref09.Inbox, the document's list: its cells, what is found in it. Plain facts, and the calls that only read. -/
import Derived.Test.YtjhemoekmlhlpaaOrdA
import Derived.Deep.DeepCutAuto
namespace Go.Proofs.Ytjhemoekmlhlpaa
open Go Go.RowKit
set_option linter.unusedVariables false

/-- what the list says of a number -/
def lk : List (Int × Int) → Int → Option Int
  | [], _ => none
  | x :: L, j => if j = x.1 then some x.2 else lk L j
theorem lk_none {L : List (Int × Int)} {j : Int} (h : ∀ x ∈ L, x.1 ≠ j) : lk L j = none := by
  induction L with
  | nil => rfl
  | cons x L ih =>
    unfold lk
    rw [if_neg (fun e => h x (by simp) e.symm)]
    exact ih (fun y hy => h y (by simp [hy]))
theorem lk_mem {L : List (Int × Int)} {j v : Int} (h : lk L j = some v) : (j, v) ∈ L := by
  induction L with
  | nil => cases h
  | cons x L ih =>
    unfold lk at h
    split at h
    · rename_i e
      obtain rfl := Option.some.inj h
      rw [e]
      simp
    · exact List.mem_cons_of_mem _ (ih h)
theorem lk_get {L : List (Int × Int)} (hn : (L.map (·.1)).Nodup) (i : Nat) (hi : i < L.length) : lk L L[i].1 = some L[i].2 := by
  induction L generalizing i with
  | nil => simp at hi
  | cons x L ih =>
    cases i with
    | zero => simp [lk]
    | succ i =>
      simp only [List.map_cons, List.nodup_cons] at hn
      have hi' : i < L.length := by simpa using hi
      simp only [List.getElem_cons_succ]
      unfold lk
      rw [if_neg (fun e => hn.1 (List.mem_map.2 ⟨L[i], List.getElem_mem _, e⟩))]
      exact ih hn.2 i (by simpa using hi)
theorem lk_add {L : List (Int × Int)} {a b : Int} (h : ∀ x ∈ L, x.1 ≠ a) : lk (L ++ [(a, b)]) = upd (lk L) a (some b) := by
  funext j
  unfold upd
  induction L with
  | nil => simp [lk]
  | cons x L ih =>
    have ih := ih (fun y hy => h y (by simp [hy]))
    simp only [List.cons_append, lk]
    by_cases e : j = x.1
    · rw [if_pos e, if_pos e, if_neg (fun e2 => h x (by simp) (e.symm.trans e2))]
    · rw [if_neg e, if_neg e]
      exact ih
theorem lk_del {L : List (Int × Int)} (hn : (L.map (·.1)).Nodup) (i : Nat) (hi : i < L.length) : lk (L.take i ++ L.drop (i + 1)) = upd (lk L) L[i].1 none := by
  induction L generalizing i with
  | nil => simp at hi
  | cons x L ih =>
    simp only [List.map_cons, List.nodup_cons] at hn
    cases i with
    | zero =>
      funext j
      simp only [List.take_zero, List.nil_append, List.drop_succ_cons, List.drop_zero, List.getElem_cons_zero, upd]
      by_cases e : j = x.1
      · rw [if_pos e, e]
        exact lk_none (fun y hy e2 => hn.1 (List.mem_map.2 ⟨y, hy, e2⟩))
      · rw [if_neg e]
        simp [lk, e]
    | succ i =>
      have hi' : i < L.length := by simpa using hi
      have h := ih hn.2 i hi'
      funext j
      have hj := congrFun h j
      simp only [List.take_succ_cons, List.drop_succ_cons, List.cons_append, List.getElem_cons_succ, lk]
      unfold upd at hj ⊢
      by_cases e : j = x.1
      · rw [if_pos e, if_neg (fun e2 => hn.1 (List.mem_map.2 ⟨L[i], List.getElem_mem _, by rw [← e2, e]⟩))]
        simp [lk, e]
      · rw [if_neg e, hj]
        simp [lk, e]
/-- the list's cells -/
def th : List (Int × Int) → List Value
  | [] => []
  | x :: L => .int .i64 x.1 :: .int .i64 x.2 :: th L
theorem th_length (L : List (Int × Int)) : (th L).length = L.length * 2 := by
  induction L with
  | nil => rfl
  | cons x L ih => simp [th, ih]; omega
theorem th_append (L M : List (Int × Int)) : th (L ++ M) = th L ++ th M := by
  induction L with
  | nil => rfl
  | cons x L ih => simp [th, ih]
theorem th_get (L : List (Int × Int)) (q : Nat) (hq : q < L.length) : (th L)[q * 2]? = some (.int .i64 L[q].1) ∧ (th L)[q * 2 + 1]? = some (.int .i64 L[q].2) := by
  induction L generalizing q with
  | nil => simp at hq
  | cons x L ih =>
    cases q with
    | zero => simp [th]
    | succ q =>
      have := ih q (by simpa using hq)
      rw [show (q + 1) * 2 = q * 2 + 1 + 1 by omega]
      simp only [th, List.getElem?_cons_succ, List.getElem_cons_succ]
      exact this
theorem th_one (L : List (Int × Int)) : ∀ v ∈ th L, v.oneCell' = true := by
  induction L with
  | nil => simp [th]
  | cons x L ih =>
    intro v hv
    simp only [th, List.mem_cons] at hv
    rcases hv with rfl | rfl | hv
    · rfl
    · rfl
    · exact ih v hv
/-- the list stands at block g, its row is its own -/
def Rf (w : World) (base g : Nat) (v : Value) (r c : Nat) (L : List (Int × Int)) : Prop :=
  Row w g [.int .i64 r, .int .i64 c, v] 99 ∧ w.ownsRow base 110 2 v L.length (th L) ∧ (L.map (·.1)).Nodup ∧ (∀ x ∈ L, 1 ≤ x.1 ∧ x.1 ≤ 4096) ∧ 1 ≤ r ∧ r ≤ 4096 ∧ c ≤ 4096
theorem Rf.fr0 {w w' : World} {base g r c : Nat} {v : Value} {L : List (Int × Int)} (h : Rf w base g v r c L) (f : Fr [] w w') : Rf w' base g v r c L := ⟨h.1.fr f (by simp), owns_fr0 h.2.1 f, h.2.2⟩
theorem rising_bound' {L : List Int} {c r : Nat} (h : L.Pairwise (· < ·)) (hb : ∀ x ∈ L, (c : Int) < x ∧ x ≤ (c : Int) + r) : L.length ≤ r := by
  have h1 : ∀ j (hj : j < L.length), (c : Int) + 1 + j ≤ L[j] := by
    intro j
    induction j with
    | zero => intro hj; have := (hb _ (List.getElem_mem hj)).1; omega
    | succ j ih =>
      intro hj
      have h2 := ih (by omega)
      have h3 := List.pairwise_iff_getElem.1 h j (j + 1) (by omega) hj (by omega)
      omega
  rcases Nat.lt_or_ge r L.length with hlt | hge
  · have h2 := h1 (L.length - 1) (by omega)
    have h3 := (hb _ (List.getElem_mem (show L.length - 1 < L.length by omega))).2
    omega
  · exact hge
theorem Rf.length {w : World} {base g r c : Nat} {v : Value} {L : List (Int × Int)} (h : Rf w base g v r c L) : L.length ≤ 4096 := by
  have h1 := sorted_of_perm h.2.2.1
  have h2 := rising_bound' (c := 0) (r := 4096) h1 (fun x hx => by
    have hx := (List.mergeSort_perm _ _).mem_iff.1 hx
    obtain ⟨y, hy, rfl⟩ := List.mem_map.1 hx
    have := h.2.2.2.1 y hy
    omega)
  simpa using h2
theorem Rf.slice {w : World} {base g r c : Nat} {v : Value} {L : List (Int × Int)} (h : Rf w base g v r c L) : ∃ a k, v = .slice a L.length k ∧ L.length ≤ k := h.2.1.slice2
theorem Rf.get {w : World} {base g r c n k : Nat} {a : Option Addr} {L : List (Int × Int)} (h : Rf w base g (.slice a n k) r c L) (i : Nat) (hi : i < L.length) :
    ∃ b, a = some ⟨b, 0, none⟩ ∧ w.cell? ⟨b, i * 2, none⟩ = some (.int .i64 L[i].1) ∧ w.cell? ⟨b, i * 2 + 1, none⟩ = some (.int .i64 L[i].2) := by
  rcases h.2.1.2 with ⟨_, hn⟩ | ⟨b, cap, cur, hv, hb, hg, hn, hc, _, ht⟩
  · omega
  · simp only [Value.slice.injEq] at hv
    obtain ⟨rfl, _, _⟩ := hv
    refine ⟨b, rfl, ?_⟩
    have hrow : Row w b cur.toList 110 := by unfold Row; simpa using hg
    have h2 := th_get L i hi
    rw [← ht, List.getElem?_take, List.getElem?_take, if_pos (by omega), if_pos (by omega)] at h2
    rw [hrow.cell, hrow.cell]
    exact h2

theorem built_rf (x : Int) (w : World) : (Instr.build 99 #[(0, .int .i64 x)]).run Try.prog w = .ok (.agg #[.int .i64 x, .int .i64 0, .slice none 0 0]) w := run_build w _ _ _ (by kernel_rfl)
set_option maxRecDepth 100000 in
theorem rfNew_ok (r base : Nat) (w : World) (h1 : 1 ≤ r) (h2 : r ≤ 4096) :
    Calls Try.prog 40 #[.int .i64 r] w fun e w' => ∃ g, e = .returned (.tuple #[.pointer (some ⟨g, 0, none⟩), .int .i64 0]) ∧ w.heap.size ≤ g ∧ Rf w' base g (.slice none 0 0) r 0 [] ∧ Fr [] w w' := by
  have hbd := fun w => built_rf r w
  go_enter Try.func40, Try.ntmps40
  go_wp2_with fail
  go_ret2
  exact ⟨w.heap.size, rfl, Nat.le_refl _, ⟨Row.new w [.int .i64 r, .int .i64 0, .slice none 0 0] _, World.ownsRow_nil _ _ _ _, List.nodup_nil, by simp, h1, h2, Nat.zero_le _⟩, (Fr.refl [] w).alloc _⟩
set_option maxRecDepth 100000 in
theorem rfCum_any (base g : Nat) (v : Value) (r c : Nat) (L : List (Int × Int)) (w : World) (h : Rf w base g v r c L) :
    Calls Try.prog 34 #[.pointer (some ⟨g, 0, none⟩)] w fun e w' => e = .returned (.int .i64 c) ∧ w = w' := by
  have c1 := h.1.cell' (j := 1) rfl
  clear h
  go_enter Try.func34, Try.ntmps34
  go_wp2_with fail
  go_ret
  exact ⟨rfl, rfl⟩

/-- what find answers -/
def Found (L : List (Int × Int)) (num : Int) (k : Int) : Prop := (∃ (i : Nat) (h : i < L.length), k = i ∧ L[i].1 = num) ∨ (k = -1 ∧ ∀ x ∈ L, x.1 ≠ num)
set_option maxRecDepth 100000 in
set_option maxHeartbeats 4000000 in
theorem rfFind_any (base g : Nat) (v : Value) (r c : Nat) (L : List (Int × Int)) (num : Int) (w : World) (h : Rf w base g v r c L) :
    Calls Try.prog 64 #[.pointer (some ⟨g, 0, none⟩), .int .i64 num] w fun e w' => (∃ k, e = .returned (.int .i64 k) ∧ Found L num k) ∧ ∃ n, w' = w.drewN n := by
  have H := Lib.hid h
  obtain ⟨a, kk, rfl, hk1⟩ := h.slice
  have hl := h.length
  obtain ⟨n, hn⟩ : ∃ n, n = L.length := ⟨_, rfl⟩
  have HN := Lib.hid hn
  have c2 := h.1.cell' (j := 2) rfl
  rw [← hn] at hl c2
  clear h hk1 hn
  go_enter Try.func64, Try.ntmps64
  go_wp2_with fail
  go_loopw [5] (fun iv wr => ∃ (i : Nat), iv = .int .i64 i ∧ i ≤ n ∧ Hid (∃ m, wr = w.drewN m) ∧ Hid (∀ j (h : j < L.length), j < i → L[j].1 ≠ num)) (fun iv _ => n - (intOf iv).toNat)
  case atStart => exact ⟨0, rfl, Nat.zero_le _, Lib.hid ⟨0, rfl⟩, Lib.hid (fun j _ h => by omega)⟩
  case round =>
    obtain ⟨i, rfl, hin, HW, HJ⟩ := hrel
    obtain ⟨m, rfl⟩ := HW.out
    by_cases hi : i < n
    · have hil : i < L.length := by have := HN.out; omega
      have hr : Rf w base g (.slice a n kk) r c L := by rw [HN.out]; exact H.out
      obtain ⟨bl, hal, e1, e2⟩ := hr.get i hil
      subst hal
      by_cases hx : L[i].1 = num
      · have HX := Lib.hid hx
        rw [hx] at e1
        clear hx hr e2
        go_wp2_with fail
        go_ret
        exact ⟨⟨_, rfl, .inl ⟨i, hil, rfl, HX.out⟩⟩, m, rfl⟩
      · have HX := Lib.hid hx
        generalize L[i].1 = x at e1 hx
        clear hr e2
        go_wp2_with fail
        go_roundw
        case rel => exact ⟨i + 1, by go_num, by omega, Lib.hid ⟨m, rfl⟩, Lib.hid (fun j hj hji => by
          rcases Nat.lt_or_ge j i with hlt | hge
          · exact HJ.out j hj hlt
          · obtain rfl : j = i := by omega
            exact HX.out)⟩
        case measure => simp [intOf]; omega
    · go_wp2_with fail
      go_ret
      exact ⟨⟨_, rfl, .inr ⟨rfl, fun x hx => by
        obtain ⟨j, hj, rfl⟩ := List.getElem_of_mem hx
        exact HJ.out j hj (by have := HN.out; omega)⟩⟩, m, rfl⟩
end Go.Proofs.Ytjhemoekmlhlpaa
