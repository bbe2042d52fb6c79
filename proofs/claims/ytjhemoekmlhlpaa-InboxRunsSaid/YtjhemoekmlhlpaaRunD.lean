/- Box.gone, by the depth of the steps within steps. -/
import Derived.Test.YtjhemoekmlhlpaaRunR
import Derived.Deep.RegionHeld3
import Derived.Test.YtjhemoekmlhlpaaOpsI
import Derived.OrdersIn
import Derived.RegionIn
import Derived.RangeFuncCalls
namespace Go.Proofs.Ytjhemoekmlhlpaa
open Go Go.RowKit Go.Maps Go.Sort Go.Shelf
set_option linter.unusedVariables false

/-- a list of n steps at a, its steps' own lists and so on, d deep -/
def OpsD (w : World) : Nat → Option Addr → Nat → Prop
  | 0, _, n => n = 0
  | d + 1, a, n => n ≤ 4398046511104 ∧ ∃ l : List Op9, l.length = n ∧ Ops9 w a l ∧ ∀ i (h : i < l.length), OpsD w d l[i].ina l[i].inl
theorem MapF.unique {w : World} {b : Nat} {f f' : Int → Option Int} (h : MapF w b f) (k : MapF w b f') : f = f' := by
  have key : ∀ {f f' : Int → Option Int}, MapF w b f → MapF w b f' → ∀ j, (f j).isSome = true → f' j = f j := by
    intro f f' h k j hj
    obtain ⟨m, h1, h2, rfl⟩ := h.key hj
    have e := (h.look (m : Int) (wfI (by omega) (by omega))).symm.trans (k.look (m : Int) (wfI (by omega) (by omega)))
    have e2 := (Result.ok.inj e).1
    simp only [Value.tuple.injEq, List.cons.injEq, Array.mk.injEq, Value.int.injEq, Value.bool.injEq, true_and, and_true] at e2
    obtain ⟨e3, e4⟩ := e2
    cases hf : f (m : Int) with
    | none => rw [hf] at hj; cases hj
    | some x =>
      rw [hf] at e3 e4
      cases hf' : f' (m : Int) with
      | none => rw [hf'] at e4; cases e4
      | some y => rw [hf'] at e3; simp at e3; rw [e3]
  funext j
  by_cases h1 : (f j).isSome = true
  · exact (key h k j h1).symm
  · by_cases h2 : (f' j).isSome = true
    · exact key k h j h2
    · cases e1 : f j with
      | some x => rw [e1] at h1; simp at h1
      | none => cases e2 : f' j with
        | some x => rw [e2] at h2; simp at h2
        | none => rfl
theorem Ibx.unique {w : World} {g b r c c' : Nat} {f f' : Int → Option Int} (h : Ibx w g b r c f) (k : Ibx w g b r c' f') : c = c' ∧ f = f' := by
  have e := h.1.unique k.1
  simp only [List.cons.injEq, Value.int.injEq, true_and, and_true] at e
  exact ⟨by omega, h.2.1.unique k.2.1⟩

theorem keepO_fr {S : List Nat} {w w' : World} (f : Fr S w w') (hS : ∀ y ∈ S, kd w y ≠ 0) : ∀ (k : Nat) (o : Obj), w.heap[k]? = some o → o.isCells = false → o.isWalk = false → w'.heap[k]? = some o := by
  intro k o ho h1 h2
  refine (f.block k (Array.getElem?_eq_some_iff.1 ho).1 (fun hm => hS k hm ?_)).trans ho
  unfold kd
  rw [ho]
  cases o <;> first | rfl | cases h1
/-- writes into a box that is none of theirs -/
theorem BxI.write {E S : List Nat} {w w' : World} {base X gA bA r : Nat} (h : BxI E w base X gA bA r) (f : Fr S w w') (hS : ∀ y ∈ S, kd w y ∉ KS ∧ (kd w y = 3 + 1 → y ∈ E)) : BxI E w' base X gA bA r := by
  obtain ⟨gB, bB, gp, gq, vp, vq, vL, vW, cA, s, cB, Lp, Lq, xs, ys, ls, h, hE⟩ := h
  have hk : ∀ y k, kd w y = k → k ∈ KS → y ∉ S := fun y k hy hk hm => (hS y hm).1 (by rw [hy]; exact hk)
  have hsl : ∀ x l, (x ∈ xs ∨ x ∈ ys) → SlotAt w x l → SlotAt w' x l := fun x l hx hs => hs.fr' f fun y hy hm => by
    rcases hs.2 with ⟨rfl, _⟩ | ⟨b, c, cs, rfl, hb, _⟩
    · cases hy
    · obtain rfl := Option.some.inj hy
      exact hE _ hx b rfl ((hS b hm).2 (cells_kd hb))
  have hA := h.2.2.1
  have hB := h.2.2.2.1
  refine ⟨gB, bB, gp, gq, vp, vq, vL, vW, cA, s, cB, Lp, Lq, xs, ys, ls, ⟨⟨h.1.1.fr f (hk _ _ h.1.1.kd (by decide)), h.1.2.1.fr' f (fun y hy => hk _ _ (h.1.2.1.kd y hy) (by decide)) (fun x l hx => hsl x l (.inl hx)), h.1.2.2.1.fr' f (fun y hy => hk _ _ (h.1.2.2.1.kd y hy) (by decide)) (fun x l hx => hsl x l (.inr hx)), h.1.2.2.2⟩, h.2.1,
    ⟨hA.1.fr f (hk _ _ hA.kds.1 (by decide)) (hk _ _ hA.kds.2.1 (by decide)), ⟨hA.2.1.1.fr f (hk _ _ hA.kds.2.2.1 (by decide)), owns_fr hA.2.1.2.1 f (fun y hy => hk _ _ (hA.kds.2.2.2 y hy) (by decide)), hA.2.1.2.2⟩, hA.2.2⟩,
    ⟨hB.1.fr f (hk _ _ hB.kds.1 (by decide)) (hk _ _ hB.kds.2.1 (by decide)), ⟨hB.2.1.1.fr f (hk _ _ hB.kds.2.2.1 (by decide)), owns_fr hB.2.1.2.1 f (fun y hy => hk _ _ (hB.kds.2.2.2 y hy) (by decide)), hB.2.1.2.2⟩, hB.2.2⟩,
    h.2.2.2.2.1, h.2.2.2.2.2.1, Nat.le_trans h.2.2.2.2.2.2 f.size⟩, hE⟩
def noDefer (ops : Array Oper) : Bool := ops.all fun o => match o.op with | .defer _ => false | _ => true
theorem noDefer_ok {ops : Array Oper} (h : noDefer ops = true) : ∀ (i : Nat) (o : Oper), ops[i]? = some o → ∀ c, o.op ≠ .defer c := by
  intro i o ho c hc
  have h2 := Array.all_eq_true'.1 h o (Array.mem_of_getElem? ho)
  simp only [hc] at h2
  cases h2
/-- what is kept between the rounds of a gone; k: how many went before -/
def GoneJ (E : List Nat) (w00 w : World) (X gA bA r B bx bo br bn ol : Nat) (os : List Value) (m : Nat) (W : World) : Prop :=
  BxI (bn :: E) W w00.heap.size X gA bA r ∧ Fr [] w00 W ∧ FrB w00.heap.size w W ∧ Row W B [ptr gA] 29 ∧ Row W bx [ptr X] 61 ∧ Row W bo os 55 ∧ (∃ b, Row W br [.bool b] 4) ∧
  ∃ k c f, Row W bn [.int .i64 (k : Nat)] 3 ∧ Ibx W gA bA r c f ∧ m = (ol - k) * 4098 + (4097 - c) ∧ k + m ≤ ol * 4098 + 4097

theorem own_putObj {w : World} {base n size l : Nat} {e : TypeId} {v : Value} {xs : List Value} {o o' : Obj} (h : w.ownsRow base e size v n xs) (hl : w.heap[l]? = some o) (ho : o.isCells = false) : (w.putObj l o').ownsRow base e size v n xs := by
  refine owns_fr h Fr.put1 fun y hy hm => ?_
  simp at hm
  subst hm
  rcases h.2 with ⟨rfl, _⟩ | ⟨g, cap, cur, rfl, _, hg, _⟩
  · cases hy
  · obtain rfl := Option.some.inj hy
    rw [hl] at hg
    obtain rfl := Option.some.inj hg
    cases ho
theorem SlotAt.putObj {w : World} {x : Value} {ls : List Int} {l : Nat} {o o' : Obj} (h : SlotAt w x ls) (hl : w.heap[l]? = some o) (ho : o.isCells = false) : SlotAt (w.putObj l o') x ls := by
  refine h.fr' Fr.put1 fun y hy hm => ?_
  simp at hm
  subst hm
  rcases h.2 with ⟨rfl, _⟩ | ⟨b, c, cs, rfl, hb, _⟩
  · cases hy
  · obtain rfl := Option.some.inj hy
    rw [hl] at hb
    obtain rfl := Option.some.inj hb
    cases ho
theorem Lists.putObj {w : World} {base l : Nat} {v : Value} {xs : List Value} {ls : List (List Int)} {o o' : Obj} (h : Lists w base v xs ls) (hl : w.heap[l]? = some o) (ho : o.isCells = false) : Lists (w.putObj l o') base v xs ls :=
  ⟨own_putObj h.1 hl ho, fun i hi => by obtain ⟨x, hx, hs⟩ := h.2 i hi; exact ⟨x, hx, hs.putObj hl ho⟩⟩
theorem MapO.putObj {w : World} {b l : Nat} {f : Int → Option Int} {o o' : Obj} (h : MapO w b f) (hl : w.heap[l]? = some o) (ho : o.isWalk = false) : MapO (w.putObj l o') b f := by
  refine h.fr Fr.put1 ?_
  intro hm
  simp at hm
  subst hm
  obtain ⟨es, cl, he⟩ := h.block
  rw [hl] at he
  obtain rfl := Option.some.inj he
  cases ho
theorem BxP.putObj {w : World} {base X gA bA gB bB gp gq : Nat} {vp vq vL vW : Value} {r cA s cB : Nat} {Lp Lq : List (Int × Int)} {xs ys : List Value} {ls : List (List Int)} {l : Nat} {o o' : Obj}
    (h : BxP w base X gA bA gB bB gp gq vp vq vL vW r cA s cB Lp Lq xs ys ls) (hl : w.heap[l]? = some o) (ho : o.isCells = false) (ho2 : o.isWalk = false) : BxP (w.putObj l o') base X gA bA gB bB gp gq vp vq vL vW r cA s cB Lp Lq xs ys ls :=
  ⟨⟨h.1.1.putObj hl ho, h.1.2.1.putObj hl ho, h.1.2.2.1.putObj hl ho, h.1.2.2.2⟩, h.2.1,
    ⟨h.2.2.1.1.putObj hl ho ho2, ⟨h.2.2.1.2.1.1.putObj hl ho, own_putObj h.2.2.1.2.1.2.1 hl ho, h.2.2.1.2.1.2.2⟩, h.2.2.1.2.2⟩,
    ⟨⟨h.2.2.2.1.1.1.putObj hl ho, h.2.2.2.1.1.2.1.putObj hl ho2, h.2.2.2.1.1.2.2⟩, ⟨h.2.2.2.1.2.1.1.putObj hl ho, own_putObj h.2.2.2.1.2.1.2.1 hl ho, h.2.2.2.1.2.1.2.2⟩, h.2.2.2.1.2.2⟩,
    h.2.2.2.2.1, h.2.2.2.2.2.1, by rw [World.putObj_size]; exact h.2.2.2.2.2.2⟩
theorem results_cell_bool {fn : Func} {p : Tmp} (h : fn.results = #[.cell p 4]) (tmps : Array Value) (w : World) (g : Nat) (b : Bool) (hp : tmps.getD p undef = .pointer (some ⟨g, 0, none⟩)) (hr : Row w g [.bool b] 4) :
    (results fn tmps).run Try.prog w = .ok (.bool b) w := by
  have hp' : tmps[p]?.getD undef = .pointer (some ⟨g, 0, none⟩) := by simpa using hp
  have hc := hr.cell' (j := 0) rfl
  have ha : ∀ w, (isAgg 4).run Try.prog w = .ok false w := fun w => by kernel_rfl
  simp [results, h, hp', asAddr, loadVar, Sem.run_bind, ha, Result.andThen, go_sem, hc]
/-- behind its loop a gone hands back what its result's cell holds -/
theorem gone_leaves {E : List Nat} {w w00 wz : World} {X gA bA r D br bn : Nat} {a : Act} (hd : a.defers = [{ target := .collected D, args := #[] }]) (hp : a.tmps.getD 6 undef = .pointer (some ⟨br, 0, none⟩)) (hres : Try.f33.results = #[.cell 6 4])
    (hr : Row wz br [.bool true] 4) (hD : wz.heap[D]? = some (.deferred (some []))) (hI : BxI (bn :: E) wz w00.heap.size X gA bA r) (hF : FrB w00.heap.size w wz) (hDw : w.heap.size ≤ D) :
    bodyPostM Fence.wide 6 Try.prog Try.f33 (BxPost E w w00.heap.size X gA bA r) .ret a wz := by
  obtain ⟨gB, bB, gp, gq, vp, vq, vL, vW, cA, s, cB, Lp, Lq, xs, ys, ls, hP, hE⟩ := hI
  have hI' : BxI (bn :: E) (wz.putObj D (.deferred none)) w00.heap.size X gA bA r := ⟨gB, bB, gp, gq, vp, vq, vL, vW, cA, s, cB, Lp, Lq, xs, ys, ls, hP.putObj hD rfl rfl, hE⟩
  have hF' : FrB w00.heap.size w (wz.putObj D (.deferred none)) := hF.new Fr.put1 (fun y hy => by simp at hy; omega)
  obtain ⟨tmps, defers⟩ := a
  simp only at hd hp
  subst hd
  refine ⟨by simp, .inl ⟨_, _, rfl, run_takeDeferred hD, ?_⟩⟩
  exact ⟨_, results_cell_bool hres tmps _ br true hp (hr.putObj hD rfl), rfl, hI'.drop, hF'⟩
set_option maxRecDepth 100000 in
set_option maxHeartbeats 8000000 in
theorem gone_step (w00 : World) (X gA bA r : Nat) (d : Nat)
    (ih : ∀ d', d' < d → ∀ (kind num x : Int) (ia : Option Addr) (il ic B : Nat) (E : List Nat) (w : World), (∀ y ∈ E, y < w.heap.size) → OpsD w00 d' ia il → BxI E w w00.heap.size X gA bA r → Fr [] w00 w → Row w B [ptr gA] 29 →
      Calls Try.prog 33 #[ptr X, .agg #[.int .i64 kind, .int .i64 0, .int .i64 num, .int .i64 x, .slice ia il ic], .func (.func 50) #[] #[.pointer (some ⟨B, 0, none⟩)]] w (BxPost E w w00.heap.size X gA bA r))
    (kind num x : Int) (ia : Option Addr) (il ic B : Nat) (E : List Nat) (w : World) (hlt : ∀ y ∈ E, y < w.heap.size) (hD : OpsD w00 d ia il) (hI : BxI E w w00.heap.size X gA bA r) (hF : Fr [] w00 w) (hB : Row w B [ptr gA] 29) :
    Calls Try.prog 33 #[ptr X, .agg #[.int .i64 kind, .int .i64 0, .int .i64 num, .int .i64 x, .slice ia il ic], .func (.func 50) #[] #[.pointer (some ⟨B, 0, none⟩)]] w (BxPost E w w00.heap.size X gA bA r) := by
  have hil : il ≤ 4398046511104 := by
    cases d with
    | zero => have h0 : il = 0 := hD; omega
    | succ d => exact hD.1
  have HLT := Lib.hid hlt; have IH := Lib.hid ih; have HD := Lib.hid hD; have HI := Lib.hid hI; have HF := Lib.hid hF; have HB := Lib.hid hB
  clear ih hD hI hF hB hlt
  refine (callsIn_wide (n := 6)).1 ?_
  refine callsIn_of_wp_marks Try.func33 rfl trivial ?_ rfl
  simp only [Try.ntmps33, List.size_toArray, List.length_cons, List.length_nil, Nat.reduceAdd, Nat.reduceSub, Array.replicate_succ, Array.replicate_zero, List.push_toArray, List.append_toArray, List.nil_append, List.cons_append]
  gi_wp2_with fail
  obtain ⟨w1, hw1⟩ : ∃ w1, w1 = (((w.alloc (.cells #[ptr X] 61)).alloc (.cells #[.int .i64 kind, .int .i64 0, .int .i64 num, .int .i64 x, .slice ia il ic] 55)).alloc (.cells #[.bool false] 4)).alloc (.cells #[.int .i64 0] 3) := ⟨_, rfl⟩
  have hf1 : Fr [] w w1 := by rw [hw1]; exact ((((Fr.refl [] w).alloc _).alloc _).alloc _).alloc _
  have r0 : Row w1 w.heap.size [ptr X] 61 := by rw [hw1]; exact (((Row.new w _ _).alloc _).alloc _).alloc _
  have r1 : Row w1 (w.heap.size + 1) [.int .i64 kind, .int .i64 0, .int .i64 num, .int .i64 x, .slice ia il ic] 55 := by
    rw [hw1]
    have := ((Row.new (w.alloc (.cells #[ptr X] 61)) [.int .i64 kind, .int .i64 0, .int .i64 num, .int .i64 x, .slice ia il ic] 55).alloc (.cells #[.bool false] 4)).alloc (.cells #[.int .i64 0] 3)
    rwa [World.size_alloc] at this
  have r2 : Row w1 (w.heap.size + 1 + 1) [.bool false] 4 := by
    rw [hw1]
    have := (Row.new ((w.alloc (.cells #[ptr X] 61)).alloc (.cells #[.int .i64 kind, .int .i64 0, .int .i64 num, .int .i64 x, .slice ia il ic] 55)) [.bool false] 4).alloc (.cells #[.int .i64 0] 3)
    rwa [World.size_alloc, World.size_alloc] at this
  have r3 : Row w1 (w.heap.size + 1 + 1 + 1) [.int .i64 (0 : Nat)] 3 := by
    rw [hw1]
    have := Row.new (((w.alloc (.cells #[ptr X] 61)).alloc (.cells #[.int .i64 kind, .int .i64 0, .int .i64 num, .int .i64 x, .slice ia il ic] 55)).alloc (.cells #[.bool false] 4)) [.int .i64 0] 3
    rwa [World.size_alloc, World.size_alloc, World.size_alloc] at this
  rw [← hw1]
  clear hw1
  generalize hbx : w.heap.size = bx at r0 r1 r2 r3 ⊢
  generalize hbo : bx + 1 = bo at r1 r2 r3 ⊢
  generalize hbr : bo + 1 = br at r2 r3 ⊢
  generalize hbn : br + 1 = bn at r3 ⊢
  have R0 := Lib.hid r0; have R1 := Lib.hid r1; have R2 := Lib.hid r2; have R3 := Lib.hid r3
  have SZ : Hid (w.heap.size = bx ∧ bx < bo ∧ bo < br ∧ br < bn) := Lib.hid ⟨hbx, by omega, by omega, by omega⟩
  have HF1 := Lib.hid hf1
  clear r0 r1 r2 r3 hbx hbo hbr hbn hf1
  obtain ⟨c0, f0, hi0⟩ : ∃ c f, Ibx w1 gA bA r c f := by
    obtain ⟨gB, bB, gp, gq, vp, vq, vL, vW, cA, s, cB, Lp, Lq, xs, ys, ls, h, _⟩ := HI.out
    exact ⟨_, _, h.2.2.1.1.fr0 HF1.out⟩
  have HJ0 : Hid (GoneJ E w00 w X gA bA r B bx bo br bn il [.int .i64 kind, .int .i64 0, .int .i64 num, .int .i64 x, .slice ia il ic] (il * 4098 + (4097 - c0)) w1) := Lib.hid
    ⟨(HI.out.add (by have := SZ.out; omega)).fr0 HF1.out, HF.out.trans0 HF1.out, .nil HF1.out, HB.out.fr HF1.out (by simp), R0.out, R1.out, ⟨_, R2.out⟩, 0, c0, f0, R3.out, hi0, by simp, by omega⟩
  clear hi0
  refine wpIn_range_run (B := B) (g := gA) (bA := bA) (r := r) rfl rfl (GoneJ E w00 w X gA bA r B bx bo br bn il [.int .i64 kind, .int .i64 0, .int .i64 num, .int .i64 x, .slice ia il ic]) ?jf ?jp ?ji
    (fun c W => c = .ret ∧ BxI (bn :: E) W w00.heap.size X gA bA r ∧ Fr [] w00 W ∧ FrB w00.heap.size w W ∧ Row W br [.bool true] 4) ?ip _ HJ0.out
    (fun p q => { tmps := #[ptr X, .agg #[.int .i64 kind, .int .i64 0, .int .i64 num, .int .i64 x, .slice ia il ic], .func (.func 50) #[] #[.pointer (some ⟨B, 0, none⟩)], .pointer (some ⟨bx, 0, none⟩), .pointer (some ⟨bo, 0, none⟩), undef, .pointer (some ⟨br, 0, none⟩), .pointer (some ⟨bn, 0, none⟩), .int .i64 p, .int .i64 q, undef, undef, undef, undef, .func (.func 50) #[] #[.pointer (some ⟨B, 0, none⟩)], .int .i64 p, .int .i64 q, undef, undef, undef, undef, undef, undef, undef, undef, undef, undef, undef, undef, undef, undef, undef, undef, undef, undef, undef, undef, undef, undef, undef, undef, undef, undef, undef, undef, undef, undef, undef, undef, undef, undef, undef, undef, undef, undef, undef, undef, undef, undef, undef, undef, undef, undef, undef, undef, undef], defers := [] }) ?assign ?body ?done ?stop
  case jf =>
    rintro m W W' ⟨h1, h2, h3, h4, h5, h6, ⟨b, h7⟩, k, c, f, h8, h9, h10⟩ hf
    exact ⟨h1.fr0 hf, h2.trans0 hf, h3.trans (.nil hf), h4.fr hf (by simp), h5.fr hf (by simp), h6.fr hf (by simp), ⟨b, h7.fr hf (by simp)⟩, k, c, f, h8.fr hf (by simp), h9.fr0 hf, h10⟩
  case jp =>
    rintro m W l o o' ⟨⟨gB, bB, gp, gq, vp, vq, vL, vW, cA, s, cB, Lp, Lq, xs, ys, ls, hP, hE⟩, h2, h3, h4, h5, h6, ⟨b, h7⟩, k, c, f, h8, h9, h10⟩ hle hl ho ho2
    have hge : w.heap.size ≤ l := Nat.le_trans HF1.out.size hle
    have hfl : Fr [l] W (W.putObj l o') := Fr.put1
    have h00 : Fr [] w00 (W.putObj l o') := h2.trans hfl (fun y hy hlt => by simp at hy; subst hy; have := HF.out.size; omega)
    refine ⟨⟨gB, bB, gp, gq, vp, vq, vL, vW, cA, s, cB, Lp, Lq, xs, ys, ls, hP.putObj hl ho ho2, hE⟩, h00, h3.new hfl (fun y hy => by simp at hy; omega), h4.putObj hl ho, h5.putObj hl ho, h6.putObj hl ho, ⟨b, h7.putObj hl ho⟩, k, c, f, h8.putObj hl ho, h9.putObj hl ho ho2, h10⟩
  case ip =>
    rintro c W l o o' ⟨hc, ⟨gB, bB, gp, gq, vp, vq, vL, vW, cA, s, cB, Lp, Lq, xs, ys, ls, hP, hE⟩, h2, h3, h4⟩ hle hl ho ho2
    have hge : w.heap.size ≤ l := Nat.le_trans HF1.out.size hle
    have hfl : Fr [l] W (W.putObj l o') := Fr.put1
    have h00 : Fr [] w00 (W.putObj l o') := h2.trans hfl (fun y hy hlt => by simp at hy; subst hy; have := HF.out.size; omega)
    exact ⟨hc, ⟨gB, bB, gp, gq, vp, vq, vL, vW, cA, s, cB, Lp, Lq, xs, ys, ls, hP.putObj hl ho ho2, hE⟩, h00, h3.new hfl (fun y hy => by simp at hy; omega), h4.putObj hl ho⟩
  case ji =>
    rintro m W ⟨h1, h2, h3, h4, h5, h6, h7, k, c, f, h8, h9, h10⟩
    exact ⟨c, f, h9, h4.cell' (j := 0) rfl, kd_ne h4.kd h9.1.kd (by decide)⟩
  case assign =>
    intro l p q W K hK
    gi_wp2_with (rw [Oper.semAt_eq _ _ _ (fun c h => by cases h)]; go_simp; try go_bits)
    exact hK
  case body =>
    rintro l m W c f v ⟨hb1, hb2, hb3, hb4, hb5, hb6, ⟨b7, hb7⟩, k, c', f', hb8, hb9, hb10, hb11⟩ hi hfc W' hf' hi'
    obtain ⟨rfl, rfl⟩ := hi.unique hb9
    obtain ⟨gB, bB, gp, gq, vp, vq, vL, vW, cA, s, cB, Lp, Lq, xs, ys, ls, hP, hE⟩ := hb1
    obtain ⟨rfl, rfl⟩ := hi.unique hP.2.2.1.1
    have hkA : ∀ {T : TypeId} {g0 : Nat} {cc : List Value}, Row W g0 cc T → T ≠ 82 → Row W' g0 cc T := fun {T g0 cc} hr hT => hr.fr hf' (by
      intro hm
      simp at hm
      rcases hm with e | e
      · exact kd_ne hr.kd hi.1.kd (by simpa using hT) e
      · exact kd_ne hr.kd hi.2.1.kd (by omega) e)
    have hX' := hkA hP.1.1 (by decide)
    have hrf' : Rf W' w00.heap.size gp vp r c Lp := ⟨hkA hP.2.2.1.2.1.1 (by decide), owns_fr hP.2.2.1.2.1.2.1 hf' (fun y hy hm => by
      simp at hm
      rcases hm with e | e
      · exact kd_ne (own_kd hP.2.2.1.2.1.2.1 y hy) hi.1.kd (by decide) e
      · exact kd_ne (own_kd hP.2.2.1.2.1.2.1 y hy) hi.2.1.kd (by decide) e), hP.2.2.1.2.1.2.2⟩
    have r0' := hkA hb5 (by decide)
    have r1' := hkA hb6 (by decide)
    have r2' := hkA hb7 (by decide)
    have r3' := hkA hb8 (by decide)
    have rB' := hkA hb4 (by decide)
    have c0 := r0'.cell' (j := 0) rfl
    have PN := Lib.hid (next_any w00.heap.size X gA bA gB gp gq vp vL vW r c Lp v W' hX' hi' hrf' hfc (Nat.le_trans hP.2.2.2.2.2.2 hf'.size))
    have HP := Lib.hid hP; have HE := Lib.hid hE; have HI := Lib.hid hi; have HI' := Lib.hid hi'; have HF' := Lib.hid hf'; have HRF := Lib.hid hrf'; have H00 := Lib.hid hb2; have HFB := Lib.hid hb3
    have R0' := Lib.hid r0'; have R1' := Lib.hid r1'; have R2' := Lib.hid r2'; have R3' := Lib.hid r3'; have RB' := Lib.hid rB'; have HX' := Lib.hid hX'; have HFC := Lib.hid hfc
    have HM := Lib.hid hb10; have HM2 := Lib.hid hb11
    clear hP hE hi hi' hf' hrf' hb2 hb3 hb4 hb5 hb6 hb7 hb8 hb9 hb10 hb11 r0' r1' r2' r3' rB' hX' hfc hkA HB R0 R1 R2 R3 HJ0
    have hn1 : Fence.wide.fn 51 := trivial
    have hn2 : Fence.wide.fn 32 := trivial
    have hn3 : Fence.wide.fn 27 := trivial
    have hn4 : Fence.wide.fn 31 := trivial
    have hn5 : Fence.wide.fn 33 := trivial
    obtain ⟨p, hp⟩ : ∃ p, p = c + 1 := ⟨_, rfl⟩
    rw [← hp] at PN ⊢
    have HPP := Lib.hid hp
    clear hp
    gi_wp2_with (rw [Oper.semAt_eq _ _ _ (fun c h => by cases h)]; go_simp; try go_bits)
    refine (CallsIn.inRound l (callsIn_wide.2 PN.out)).mono ?_
    rintro e w2 ⟨rfl, ⟨v2, L2, hr2, hl2, hv2⟩, hf2⟩
    rw [HPP.out] at hr2 hl2
    have hi2 : Ibx w2 gA bA r (c + 1) (lk L2) := by
      rw [hl2]
      exact HI'.out.fr hf2 (by simp; exact kd_ne HI'.out.1.kd HRF.out.1.kd (by decide)) (by simp; exact kd_ne HI'.out.2.1.kd HRF.out.1.kd (by decide))
    have hW2 : Fr (SideS gA bA gp vp) W w2 := (HF'.out.mono (T := SideS gA bA gp vp) (fun y hy _ => by unfold SideS; simp at hy ⊢; rcases hy with rfl | rfl <;> simp)).trans hf2 (fun y hy _ => by unfold SideS; simp at hy; subst hy; simp)
    obtain ⟨hU, hFU⟩ := HP.out.updA HE.out ⟨v2, c + 1, L2, ⟨hi2, hr2, HP.out.2.2.1.2.2.pop hl2⟩, hW2, .inr fun y hy => Nat.le_trans HF'.out.size (hv2 y hy)⟩
    have hgp : ∀ {T : TypeId} {g0 : Nat} {cc : List Value}, Row W' g0 cc T → T ≠ 99 → Row w2 g0 cc T := fun {T g0 cc} hr hT => hr.fr hf2 (by
      intro hm
      simp at hm
      exact kd_ne hr.kd HRF.out.1.kd (by simpa using hT) hm)
    have hKO : ∀ (k : Nat) (o : Obj), W'.heap[k]? = some o → o.isCells = false → o.isWalk = false → w2.heap[k]? = some o := keepO_fr hf2 (fun y hy => by simp at hy; subst hy; rw [HRF.out.1.kd]; decide)
    have h002 : Fr [] w00 w2 := FrB.fr0 H00.out hFU
    have hFB2 : FrB w00.heap.size w w2 := HFB.out.trans hFU
    have RX := Lib.hid (hgp R0'.out (by decide)); have RO := Lib.hid (hgp R1'.out (by decide)); have RR := Lib.hid (hgp R2'.out (by decide)); have RN := Lib.hid (hgp R3'.out (by decide)); have RB := Lib.hid (hgp RB'.out (by decide)); have HX2 := Lib.hid (hgp HX'.out (by decide))
    have HU := Lib.hid hU; have HKO := Lib.hid hKO; have H002 := Lib.hid h002; have HFB2 := Lib.hid hFB2; have HI2 := Lib.hid hi2
    have e0 := RX.out.cell' (j := 0) rfl
    have n0 := RN.out.cell' (j := 0) rfl
    have o4 := RO.out.cell' (j := 4) rfl
    clear c0 hr2 hl2 hv2 hf2 hi2 hW2 hU hFU hgp hKO h002 hFB2 R0' R1' R2' R3' RB' HX' HFC PN HRF
    have hk55 : k ≤ 18023194602508290 := by have := HM2.out; omega
    have hk1 : IntKind.i64.wrap ((k : Int) + 1) = (k : Int) + 1 := IntWalk.i64_in _ (by omega)
    have HLT2 : Hid (∀ W : World, w2.heap.size ≤ W.heap.size → ∀ y ∈ bn :: E, y < W.heap.size) := Lib.hid fun W hW y hy => by
      rcases List.mem_cons.1 hy with rfl | hy
      · exact Nat.lt_of_lt_of_le RN.out.lt hW
      · exact Nat.lt_of_lt_of_le (HLT.out y hy) (Nat.le_trans HFB2.out.size hW)
    have hne : bn ≠ bo := by have := SZ.out; omega
    have hne2 : bn ≠ br := by have := SZ.out; omega
    by_cases hz : (k : Int) + 1 = num
    · have hz1 : ((k : Int) + 1 == num) = true := by rw [beq_iff_eq]; exact hz
      by_cases hlt : k < il
      · have hd1 : decide ((k : Int) < (il : Int)) = true := decide_eq_true (by omega)
        cases d with
        | zero => exact absurd (show il = 0 from HD.out) (by omega)
        | succ d =>
          obtain ⟨_, os, hol, hos, hod⟩ := HD.out
          obtain ⟨ba, off, rfl, p0, p1, p2, p3, p4, hfit⟩ := (hos.fr0 H002.out).get k (by omega)
          have hsub := hod k (by omega)
          obtain ⟨o, ho⟩ : ∃ o, o = os[k]'(by omega) := ⟨_, rfl⟩
          rw [← ho] at p0 p1 p2 p3 p4 hfit hsub
          obtain ⟨kd1, sl1, nu1, x1, ia1, il1, ic1⟩ := o
          have HFIT := Lib.hid hfit; have HSUB := Lib.hid hsub
          have hkil : (k : Int) < (il : Int) := by omega
          clear ho hfit hsub hos hod hol
          by_cases h8 : kd1 = 8
          · subst h8
            gi_wp2_with (first | (gi_at_call 32; refine (CallsIn.inRound l (callsIn_wide.2 (here_any 8 sl1 nu1 x1 ia1 il1 ic1 w2))).mono ?_; rintro e w3 ⟨rfl, hf3⟩; have HF3 := Lib.hid (hf3.alloc (.cells #[.int .i64 8, .int .i64 0, .int .i64 nu1, .int .i64 x1, .slice ia1 il1 ic1] 55)); have e1 := HF3.out.cell e0 (by simp); have HU3 := Lib.hid (HU.out.fr0 HF3.out); have HLT3 := Lib.hid (HLT2.out _ HF3.out.size); have c8 := (HX2.out.fr HF3.out (by simp)).cell' (j := 0) rfl; clear hf3) | (rw [Oper.semAt_eq _ _ _ (fun c h => by cases h)]; go_simp; try go_bits))
            have rt := Row.new w3 [.int .i64 8, .int .i64 0, .int .i64 nu1, .int .i64 x1, .slice ia1 il1 ic1] 55
            generalize w3.alloc (.cells #[.int .i64 8, .int .i64 0, .int .i64 nu1, .int .i64 x1, .slice ia1 il1 ic1] 55) = w3' at HF3 HU3 HLT3 e1 c8 rt ⊢
            generalize w3.heap.size = bt at rt ⊢
            have RT := Lib.hid rt
            have t0 := rt.cell' (j := 0) rfl
            have t1 := rt.cell' (j := 1) rfl
            have t2 := rt.cell' (j := 2) rfl
            have t3 := rt.cell' (j := 3) rfl
            have t4 := rt.cell' (j := 4) rfl
            clear rt e0 n0 o4 p0 p1 p2 p3 p4
            refine wpIn_region_round (S := fun w' => w'.cell? ⟨bx, 0, none⟩ = some (ptr X) ∧ w'.cell? ⟨bt, 0, none⟩ = some (.int .i64 8) ∧ w'.cell? ⟨bt, 1, none⟩ = some (.int .i64 0) ∧ w'.cell? ⟨bt, 2, none⟩ = some (.int .i64 nu1) ∧ w'.cell? ⟨bt, 3, none⟩ = some (.int .i64 x1) ∧ w'.cell? ⟨bt, 4, none⟩ = some (.slice ia1 il1 ic1) ∧ w'.cell? ⟨X, 0, none⟩ = some (ptr gA)) (by kernel_rfl) (noDefer_ok (by kernel_rfl)) (by rintro ⟨_, _, h⟩; exact h) ⟨e1, t0, t1, t2, t3, t4, c8⟩ (fun hHeld => ?_)
            refine wpAnyH_take (i := 0) (oi := { dst := some 36, op := Op.load 61 (Operand.tmp 3), type := 61, pos := "law.go:256", after := #[], guard := none }) (v := ptr X) rfl (by kernel_rfl) (by kernel_rfl) (by kernel_rfl) (fun _ _ _ h => h) (Or.inl ⟨by rfl, ?_⟩) hHeld ?_
            · intro wS hSw
              try dsimp only at hSw
              go_simp
            try simp only [Act.put, List.setIfInBounds_toArray, List.set_cons_zero, List.set_cons_succ]
            refine wpAnyH_take (i := 1) (oi := { dst := some 37, op := Op.load 55 (Operand.tmp 10), type := 55, pos := "law.go:256", after := #[], guard := none }) (v := .agg #[.int .i64 8, .int .i64 0, .int .i64 nu1, .int .i64 x1, .slice ia1 il1 ic1]) rfl (by kernel_rfl) (by kernel_rfl) (by kernel_rfl) (fun _ _ _ h => h) (Or.inl ⟨by rfl, ?_⟩) hHeld ?_
            · intro wS hSw
              try dsimp only at hSw
              go_simp
            try simp only [Act.put, List.setIfInBounds_toArray, List.set_cons_zero, List.set_cons_succ]
            refine wpAnyH_take (i := 2) (oi := { dst := some 38, op := Op.load 61 (Operand.tmp 3), type := 61, pos := "law.go:256", after := #[], guard := none }) (v := ptr X) rfl (by kernel_rfl) (by kernel_rfl) (by kernel_rfl) (fun _ _ _ h => h) (Or.inl ⟨by rfl, ?_⟩) hHeld ?_
            · intro wS hSw
              try dsimp only at hSw
              go_simp
            try simp only [Act.put, List.setIfInBounds_toArray, List.set_cons_zero, List.set_cons_succ]
            refine wpAnyH_take (i := 3) (oi := { dst := some 39, op := Op.nilCheck (Operand.tmp 38), type := 0, pos := "law.go:256", after := #[{ on := 2, ground := Ground.data }], guard := none }) (v := ptr X) rfl (by kernel_rfl) (by kernel_rfl) (by kernel_rfl) (fun _ _ _ h => h) (Or.inl ⟨by rfl, ?_⟩) hHeld ?_
            · intro wS hSw
              try dsimp only at hSw
              go_simp
            try simp only [Act.put, List.setIfInBounds_toArray, List.set_cons_zero, List.set_cons_succ]
            refine wpAnyH_take (i := 4) (oi := { dst := some 40, op := Op.fieldAddr 74 (Operand.tmp 39) 0, type := 0, pos := "law.go:256", after := #[{ on := 3, ground := Ground.data }], guard := none }) (v := .pointer (some ⟨X, 0, none⟩)) rfl (by kernel_rfl) (by kernel_rfl) (by kernel_rfl) (fun _ _ _ h => h) (Or.inl ⟨by rfl, ?_⟩) hHeld ?_
            · intro wS hSw
              try dsimp only at hSw
              go_simp
            try simp only [Act.put, List.setIfInBounds_toArray, List.set_cons_zero, List.set_cons_succ]
            refine wpAnyH_take (i := 5) (oi := { dst := some 41, op := Op.load 29 (Operand.tmp 40), type := 29, pos := "law.go:256", after := #[{ on := 4, ground := Ground.data }], guard := none }) (v := ptr gA) rfl (by kernel_rfl) (by kernel_rfl) (by kernel_rfl) (fun _ _ _ h => h) (Or.inl ⟨by rfl, ?_⟩) hHeld ?_
            · intro wS hSw
              try dsimp only at hSw
              go_simp
            try simp only [Act.put, List.setIfInBounds_toArray, List.set_cons_zero, List.set_cons_succ]
            refine wpAnyH_ready (rs := [6]) (by kernel_rfl) (by simp) ?_
            refine AllReadyH.cons (o := { dst := some 42, op := Op.call { callee := Callee.value (Operand.func 31), args := #[Operand.tmp 41], argTypes := #[29] }, type := 68, pos := "law.go:256", after := #[{ on := 5, ground := Ground.data }], guard := none }) rfl (fun K hK => ?_) AllReadyH.nil
            go_simp
            refine (run_any gA _).mono ?_
            rintro e w5 ⟨B5, rfl, hB5, hR5, hf5⟩
            have hf35 : Fr [] w3' w5 := (Fr.refl [] w3').drew.trans0 hf5
            refine hK.out _ _ ⟨hf35.cell e1 (by simp), hf35.cell t0 (by simp), hf35.cell t1 (by simp), hf35.cell t2 (by simp), hf35.cell t3 (by simp), hf35.cell t4 (by simp), hf35.cell c8 (by simp)⟩ (fun hHeld => ?_)
            clear hK K
            try simp only [Act.put, List.setIfInBounds_toArray, List.set_cons_zero, List.set_cons_succ]
            refine wpAnyH_ready (rs := [7]) (by kernel_rfl) (by simp) ?_
            refine AllReadyH.cons (o := { dst := some 43, op := Op.call { callee := Callee.value (Operand.func 33), args := #[Operand.tmp 36, Operand.tmp 37, Operand.tmp 42], argTypes := #[61, 55, 67] }, type := 4, pos := "law.go:256", after := #[{ on := 0, ground := Ground.data }, { on := 1, ground := Ground.data }, { on := 6, ground := Ground.data }, { on := 6, ground := Ground.chain }], guard := none }) rfl (fun K hK => ?_) AllReadyH.nil
            go_simp
            refine (IH.out d (by omega) 8 nu1 x1 ia1 il1 ic1 B5 (bn :: E) w5 (fun y hy => Nat.lt_of_lt_of_le (HLT3.out y hy) hf35.size) HSUB.out (HU3.out.fr0 hf35) ((H002.out.trans0 HF3.out).trans0 hf35) hR5).mono ?_
            rintro e w4 ⟨rfl, hi4, hf4'⟩
            have hf4 := (FrB.nil hf35).trans hf4'
            have rt4 := hf4.row RT.out (by decide)
            have rx4 := hf4.row (RX.out.fr HF3.out (by simp)) (by decide)
            have cX4 : w4.cell? ⟨X, 0, none⟩ = some (ptr gA) := by
              obtain ⟨gB, bB, gp, gq, vp, vq, vL, vW, cA, s, cB, Lp, Lq, xs, ys, ls, h, _⟩ := hi4
              exact h.1.1.cell' (j := 0) rfl
            refine hK.out _ _ ⟨rx4.cell' (j := 0) rfl, rt4.cell' (j := 0) rfl, rt4.cell' (j := 1) rfl, rt4.cell' (j := 2) rfl, rt4.cell' (j := 3) rfl, rt4.cell' (j := 4) rfl, cX4⟩ (fun hHeld => ?_)
            clear hK K
            try simp only [Act.put, List.setIfInBounds_toArray, List.set_cons_zero, List.set_cons_succ]
            refine wpAnyH_take (i := 8) (oi := { dst := some 11, op := Op.assign (Operand.tmp 43), type := 4, pos := "law.go:256", after := #[{ on := 7, ground := Ground.data }, { on := 7, ground := Ground.chain }, { on := 0, ground := Ground.phase }, { on := 1, ground := Ground.phase }, { on := 2, ground := Ground.phase }, { on := 3, ground := Ground.phase }, { on := 4, ground := Ground.phase }, { on := 5, ground := Ground.phase }, { on := 6, ground := Ground.phase }, { on := 7, ground := Ground.phase }], guard := none }) (v := .bool true) rfl (by kernel_rfl) (by kernel_rfl) (by kernel_rfl) (fun _ _ _ h => h) (Or.inl ⟨by rfl, ?_⟩) hHeld ?_
            · intro wS hSw
              try dsimp only at hSw
              go_simp
            try simp only [Act.put, List.setIfInBounds_toArray, List.set_cons_zero, List.set_cons_succ]
            refine wpAnyH_done (by kernel_rfl) ?_ _
            have HI4 := Lib.hid hi4; have HF4 := Lib.hid hf4
            clear hi4 hf4 e1 c8
            have RX4 := Lib.hid (HF4.out.row (RX.out.fr HF3.out (by simp)) (by decide)); have RO4 := Lib.hid (HF4.out.row (RO.out.fr HF3.out (by simp)) (by decide)); have RR4 := Lib.hid (HF4.out.row (RR.out.fr HF3.out (by simp)) (by decide)); have RN4 := Lib.hid (HF4.out.row (RN.out.fr HF3.out (by simp)) (by decide)); have RB4 := Lib.hid (HF4.out.row (RB.out.fr HF3.out (by simp)) (by decide))
            have HFB4 := Lib.hid ((HFB2.out.trans (.nil HF3.out)).trans HF4.out)
            have H004 := Lib.hid (FrB.fr0 (H002.out.trans0 HF3.out) HF4.out)
            have HKO4 : Hid (∀ (k : Nat) (o : Obj), W'.heap[k]? = some o → o.isCells = false → o.isWalk = false → w4.heap[k]? = some o) := Lib.hid fun k o h1 h2 h3 => HF4.out.keep k o ((HF3.out.block k (Array.getElem?_eq_some_iff.1 (HKO.out k o h1 h2 h3)).1 (by simp)).trans (HKO.out k o h1 h2 h3)) h2 h3
            have HM4 : Hid (∃ c4 f4, Ibx w4 gA bA r c4 f4 ∧ (il - (k + 1)) * 4098 + (4097 - c4) < m ∧ k + 1 + ((il - (k + 1)) * 4098 + (4097 - c4)) ≤ il * 4098 + 4097) := Lib.hid (by
              obtain ⟨gB, bB, gp, gq, vp, vq, vL, vW, cA, s, cB, Lp, Lq, xs, ys, ls, h, _⟩ := HI4.out
              refine ⟨cA, _, h.2.2.1.1, ?_, ?_⟩
              · have := HM.out; omega
              · have := HM.out; have := HM2.out; omega)
            have n1 := RN4.out.cell' (j := 0) rfl
            have fn1 := RN4.out.free 0
            have q2 := RO4.out.cell' (j := 2) rfl
            have b0 := RR4.out.cell' (j := 0) rfl
            have fb0 := RR4.out.free 0
            clear hHeld t0 t1 t2 t3 t4 rt4 rx4 cX4 hf35 hf5 hf4' hR5 hB5
            gi_wp2_with (rw [Oper.semAt_eq _ _ _ (fun c h => by cases h)]; go_simp; try go_bits)
            have hwf : Fr [bn, br] w4 ((w4.setCell ⟨bn, 0, none⟩ (.int .i64 num)).setCell ⟨br, 0, none⟩ (.bool true)) := ((Fr.refl [bn, br] w4).setCell (a := ⟨bn, 0, none⟩) _ (fun _ => by simp)).setCell (a := ⟨br, 0, none⟩) _ (fun _ => by simp)
            have hSS : ∀ y ∈ [bn, br], kd w4 y ∉ KS ∧ (kd w4 y = 3 + 1 → y ∈ bn :: E) ∧ kd w4 y ≠ 0 := fun y hy => by
              simp at hy
              rcases hy with rfl | rfl
              · rw [RN4.out.kd]; exact ⟨by decide, fun _ => by simp, by decide⟩
              · rw [RR4.out.kd]; exact ⟨by decide, fun e => absurd e (by decide), by decide⟩
            have hfb := HFB4.out.new hwf (fun y hy => by have := SZ.out; simp at hy; rcases hy with rfl | rfl <;> omega)
            exact ⟨fun k o _ h1 h2 h3 => keepO_fr hwf (fun y hy => (hSS y hy).2.2) k o (HKO4.out k o h1 h2 h3) h2 h3, rfl, HI4.out.write hwf (fun y hy => ⟨(hSS y hy).1, (hSS y hy).2.1⟩), FrB.fr0 HF.out hfb, hfb, (RR4.out.set_other (a := ⟨bn, 0, none⟩) hne2.symm (.int .i64 num)).set 0 (.bool true)⟩
          · have h81 : (kd1 == 8) = false := by rw [beq_eq_false_iff_ne]; exact h8
            gi_wp2_with (first
              | (gi_at_call 32; refine (CallsIn.inRound l (callsIn_wide.2 (here_any kd1 sl1 nu1 x1 ia1 il1 ic1 w2))).mono ?_; rintro e w3 ⟨rfl, hf3⟩; have HF3 := Lib.hid (hf3.alloc (.cells #[.int .i64 kd1, .int .i64 0, .int .i64 nu1, .int .i64 x1, .slice ia1 il1 ic1] 55)); have e1 := HF3.out.cell e0 (by simp); have HU3 := Lib.hid (HU.out.fr0 HF3.out); have HLT3 := Lib.hid (HLT2.out _ HF3.out.size); have c8 := (HX2.out.fr HF3.out (by simp)).cell' (j := 0) rfl; clear hf3)
              | (gi_at_call 27; refine (CallsIn.inRound l (callsIn_wide.2 (step_ok (bn :: E) w00.heap.size X gA bA r (.slice ia1 il1 ic1) kd1 0 nu1 x1 _ HLT3.out HU3.out HFIT.out.2.2.1 HFIT.out.2.2.2))).mono ?_; rintro e w4 ⟨rfl, hi4, hf4⟩
                 have HI4 := Lib.hid hi4; have HF4 := Lib.hid hf4
                 clear hi4 hf4 e1 e0 n0 o4 p0 p1 p2 p3 p4 c8
                 have RX4 := Lib.hid (HF4.out.row (RX.out.fr HF3.out (by simp)) (by decide)); have RO4 := Lib.hid (HF4.out.row (RO.out.fr HF3.out (by simp)) (by decide)); have RR4 := Lib.hid (HF4.out.row (RR.out.fr HF3.out (by simp)) (by decide)); have RN4 := Lib.hid (HF4.out.row (RN.out.fr HF3.out (by simp)) (by decide)); have RB4 := Lib.hid (HF4.out.row (RB.out.fr HF3.out (by simp)) (by decide))
                 have HFB4 := Lib.hid ((HFB2.out.trans (.nil HF3.out)).trans HF4.out)
                 have H004 := Lib.hid (FrB.fr0 (H002.out.trans0 HF3.out) HF4.out)
                 have HKO4 : Hid (∀ (k : Nat) (o : Obj), W'.heap[k]? = some o → o.isCells = false → o.isWalk = false → w4.heap[k]? = some o) := Lib.hid fun k o h1 h2 h3 => HF4.out.keep k o ((HF3.out.block k (Array.getElem?_eq_some_iff.1 (HKO.out k o h1 h2 h3)).1 (by simp)).trans (HKO.out k o h1 h2 h3)) h2 h3
                 have HM4 : Hid (∃ c4 f4, Ibx w4 gA bA r c4 f4 ∧ (il - (k + 1)) * 4098 + (4097 - c4) < m ∧ k + 1 + ((il - (k + 1)) * 4098 + (4097 - c4)) ≤ il * 4098 + 4097) := Lib.hid (by
                   obtain ⟨gB, bB, gp, gq, vp, vq, vL, vW, cA, s, cB, Lp, Lq, xs, ys, ls, h, _⟩ := HI4.out
                   refine ⟨cA, _, h.2.2.1.1, ?_, ?_⟩
                   · have := HM.out; omega
                   · have := HM.out; have := HM2.out; omega)
                 have n1 := RN4.out.cell' (j := 0) rfl
                 have fn1 := RN4.out.free 0
                 have q2 := RO4.out.cell' (j := 2) rfl
                 have b0 := RR4.out.cell' (j := 0) rfl
                 have fb0 := RR4.out.free 0)
              | (rw [Oper.semAt_eq _ _ _ (fun c h => by cases h)]; go_simp; try go_bits))
            have hwf : Fr [bn, br] w4 ((w4.setCell ⟨bn, 0, none⟩ (.int .i64 num)).setCell ⟨br, 0, none⟩ (.bool true)) := ((Fr.refl [bn, br] w4).setCell (a := ⟨bn, 0, none⟩) _ (fun _ => by simp)).setCell (a := ⟨br, 0, none⟩) _ (fun _ => by simp)
            have hSS : ∀ y ∈ [bn, br], kd w4 y ∉ KS ∧ (kd w4 y = 3 + 1 → y ∈ bn :: E) ∧ kd w4 y ≠ 0 := fun y hy => by
              simp at hy
              rcases hy with rfl | rfl
              · rw [RN4.out.kd]; exact ⟨by decide, fun _ => by simp, by decide⟩
              · rw [RR4.out.kd]; exact ⟨by decide, fun e => absurd e (by decide), by decide⟩
            have hfb := HFB4.out.new hwf (fun y hy => by have := SZ.out; simp at hy; rcases hy with rfl | rfl <;> omega)
            exact ⟨fun k o _ h1 h2 h3 => keepO_fr hwf (fun y hy => (hSS y hy).2.2) k o (HKO4.out k o h1 h2 h3) h2 h3, rfl, HI4.out.write hwf (fun y hy => ⟨(hSS y hy).1, (hSS y hy).2.1⟩), FrB.fr0 HF.out hfb, hfb, (RR4.out.set_other (a := ⟨bn, 0, none⟩) hne2.symm (.int .i64 num)).set 0 (.bool true)⟩
      · have hd1 : decide ((k : Int) < (il : Int)) = false := decide_eq_false (by omega)
        have RX4 := RX; have RO4 := RO; have RR4 := RR; have RN4 := RN; have RB4 := RB; have HFB4 := HFB2; have H004 := H002; have HKO4 := HKO; have HI4 := HU
        obtain ⟨w4, hw4⟩ : ∃ w4, w4 = w2 := ⟨_, rfl⟩
        subst hw4
        have HM4 : Hid (∃ c4 f4, Ibx w4 gA bA r c4 f4 ∧ (il - (k + 1)) * 4098 + (4097 - c4) < m ∧ k + 1 + ((il - (k + 1)) * 4098 + (4097 - c4)) ≤ il * 4098 + 4097) := Lib.hid (by
          refine ⟨c + 1, _, HI2.out, ?_, ?_⟩
          · have := HM.out; have := HI2.out.2.2.2.2; omega
          · have := HM.out; have := HM2.out; have := HI2.out.2.2.2.2; omega)
        have n1 := RN4.out.cell' (j := 0) rfl
        have fn1 := RN4.out.free 0
        have q2 := RO4.out.cell' (j := 2) rfl
        have b0 := RR4.out.cell' (j := 0) rfl
        have fb0 := RR4.out.free 0
        gi_wp2_with (rw [Oper.semAt_eq _ _ _ (fun c h => by cases h)]; go_simp; try go_bits)
        have hwf : Fr [bn, br] w4 ((w4.setCell ⟨bn, 0, none⟩ (.int .i64 num)).setCell ⟨br, 0, none⟩ (.bool true)) := ((Fr.refl [bn, br] w4).setCell (a := ⟨bn, 0, none⟩) _ (fun _ => by simp)).setCell (a := ⟨br, 0, none⟩) _ (fun _ => by simp)
        have hSS : ∀ y ∈ [bn, br], kd w4 y ∉ KS ∧ (kd w4 y = 3 + 1 → y ∈ bn :: E) ∧ kd w4 y ≠ 0 := fun y hy => by
          simp at hy
          rcases hy with rfl | rfl
          · rw [RN4.out.kd]; exact ⟨by decide, fun _ => by simp, by decide⟩
          · rw [RR4.out.kd]; exact ⟨by decide, fun e => absurd e (by decide), by decide⟩
        have hfb := HFB4.out.new hwf (fun y hy => by have := SZ.out; simp at hy; rcases hy with rfl | rfl <;> omega)
        exact ⟨fun k o _ h1 h2 h3 => keepO_fr hwf (fun y hy => (hSS y hy).2.2) k o (HKO4.out k o h1 h2 h3) h2 h3, rfl, HI4.out.write hwf (fun y hy => ⟨(hSS y hy).1, (hSS y hy).2.1⟩), FrB.fr0 HF.out hfb, hfb, (RR4.out.set_other (a := ⟨bn, 0, none⟩) hne2.symm (.int .i64 num)).set 0 (.bool true)⟩
    · have hz1 : ((k : Int) + 1 == num) = false := by rw [beq_eq_false_iff_ne]; exact hz
      by_cases hlt : k < il
      · have hd1 : decide ((k : Int) < (il : Int)) = true := decide_eq_true (by omega)
        cases d with
        | zero => exact absurd (show il = 0 from HD.out) (by omega)
        | succ d =>
          obtain ⟨_, os, hol, hos, hod⟩ := HD.out
          obtain ⟨ba, off, rfl, p0, p1, p2, p3, p4, hfit⟩ := (hos.fr0 H002.out).get k (by omega)
          have hsub := hod k (by omega)
          obtain ⟨o, ho⟩ : ∃ o, o = os[k]'(by omega) := ⟨_, rfl⟩
          rw [← ho] at p0 p1 p2 p3 p4 hfit hsub
          obtain ⟨kd1, sl1, nu1, x1, ia1, il1, ic1⟩ := o
          have HFIT := Lib.hid hfit; have HSUB := Lib.hid hsub
          have hkil : (k : Int) < (il : Int) := by omega
          clear ho hfit hsub hos hod hol
          by_cases h8 : kd1 = 8
          · subst h8
            gi_wp2_with (first | (gi_at_call 32; refine (CallsIn.inRound l (callsIn_wide.2 (here_any 8 sl1 nu1 x1 ia1 il1 ic1 w2))).mono ?_; rintro e w3 ⟨rfl, hf3⟩; have HF3 := Lib.hid (hf3.alloc (.cells #[.int .i64 8, .int .i64 0, .int .i64 nu1, .int .i64 x1, .slice ia1 il1 ic1] 55)); have e1 := HF3.out.cell e0 (by simp); have HU3 := Lib.hid (HU.out.fr0 HF3.out); have HLT3 := Lib.hid (HLT2.out _ HF3.out.size); have c8 := (HX2.out.fr HF3.out (by simp)).cell' (j := 0) rfl; clear hf3) | (rw [Oper.semAt_eq _ _ _ (fun c h => by cases h)]; go_simp; try go_bits))
            have rt := Row.new w3 [.int .i64 8, .int .i64 0, .int .i64 nu1, .int .i64 x1, .slice ia1 il1 ic1] 55
            generalize w3.alloc (.cells #[.int .i64 8, .int .i64 0, .int .i64 nu1, .int .i64 x1, .slice ia1 il1 ic1] 55) = w3' at HF3 HU3 HLT3 e1 c8 rt ⊢
            generalize w3.heap.size = bt at rt ⊢
            have RT := Lib.hid rt
            have t0 := rt.cell' (j := 0) rfl
            have t1 := rt.cell' (j := 1) rfl
            have t2 := rt.cell' (j := 2) rfl
            have t3 := rt.cell' (j := 3) rfl
            have t4 := rt.cell' (j := 4) rfl
            clear rt e0 n0 o4 p0 p1 p2 p3 p4
            refine wpIn_region_round (S := fun w' => w'.cell? ⟨bx, 0, none⟩ = some (ptr X) ∧ w'.cell? ⟨bt, 0, none⟩ = some (.int .i64 8) ∧ w'.cell? ⟨bt, 1, none⟩ = some (.int .i64 0) ∧ w'.cell? ⟨bt, 2, none⟩ = some (.int .i64 nu1) ∧ w'.cell? ⟨bt, 3, none⟩ = some (.int .i64 x1) ∧ w'.cell? ⟨bt, 4, none⟩ = some (.slice ia1 il1 ic1) ∧ w'.cell? ⟨X, 0, none⟩ = some (ptr gA)) (by kernel_rfl) (noDefer_ok (by kernel_rfl)) (by rintro ⟨_, _, h⟩; exact h) ⟨e1, t0, t1, t2, t3, t4, c8⟩ (fun hHeld => ?_)
            refine wpAnyH_take (i := 0) (oi := { dst := some 36, op := Op.load 61 (Operand.tmp 3), type := 61, pos := "law.go:256", after := #[], guard := none }) (v := ptr X) rfl (by kernel_rfl) (by kernel_rfl) (by kernel_rfl) (fun _ _ _ h => h) (Or.inl ⟨by rfl, ?_⟩) hHeld ?_
            · intro wS hSw
              try dsimp only at hSw
              go_simp
            try simp only [Act.put, List.setIfInBounds_toArray, List.set_cons_zero, List.set_cons_succ]
            refine wpAnyH_take (i := 1) (oi := { dst := some 37, op := Op.load 55 (Operand.tmp 10), type := 55, pos := "law.go:256", after := #[], guard := none }) (v := .agg #[.int .i64 8, .int .i64 0, .int .i64 nu1, .int .i64 x1, .slice ia1 il1 ic1]) rfl (by kernel_rfl) (by kernel_rfl) (by kernel_rfl) (fun _ _ _ h => h) (Or.inl ⟨by rfl, ?_⟩) hHeld ?_
            · intro wS hSw
              try dsimp only at hSw
              go_simp
            try simp only [Act.put, List.setIfInBounds_toArray, List.set_cons_zero, List.set_cons_succ]
            refine wpAnyH_take (i := 2) (oi := { dst := some 38, op := Op.load 61 (Operand.tmp 3), type := 61, pos := "law.go:256", after := #[], guard := none }) (v := ptr X) rfl (by kernel_rfl) (by kernel_rfl) (by kernel_rfl) (fun _ _ _ h => h) (Or.inl ⟨by rfl, ?_⟩) hHeld ?_
            · intro wS hSw
              try dsimp only at hSw
              go_simp
            try simp only [Act.put, List.setIfInBounds_toArray, List.set_cons_zero, List.set_cons_succ]
            refine wpAnyH_take (i := 3) (oi := { dst := some 39, op := Op.nilCheck (Operand.tmp 38), type := 0, pos := "law.go:256", after := #[{ on := 2, ground := Ground.data }], guard := none }) (v := ptr X) rfl (by kernel_rfl) (by kernel_rfl) (by kernel_rfl) (fun _ _ _ h => h) (Or.inl ⟨by rfl, ?_⟩) hHeld ?_
            · intro wS hSw
              try dsimp only at hSw
              go_simp
            try simp only [Act.put, List.setIfInBounds_toArray, List.set_cons_zero, List.set_cons_succ]
            refine wpAnyH_take (i := 4) (oi := { dst := some 40, op := Op.fieldAddr 74 (Operand.tmp 39) 0, type := 0, pos := "law.go:256", after := #[{ on := 3, ground := Ground.data }], guard := none }) (v := .pointer (some ⟨X, 0, none⟩)) rfl (by kernel_rfl) (by kernel_rfl) (by kernel_rfl) (fun _ _ _ h => h) (Or.inl ⟨by rfl, ?_⟩) hHeld ?_
            · intro wS hSw
              try dsimp only at hSw
              go_simp
            try simp only [Act.put, List.setIfInBounds_toArray, List.set_cons_zero, List.set_cons_succ]
            refine wpAnyH_take (i := 5) (oi := { dst := some 41, op := Op.load 29 (Operand.tmp 40), type := 29, pos := "law.go:256", after := #[{ on := 4, ground := Ground.data }], guard := none }) (v := ptr gA) rfl (by kernel_rfl) (by kernel_rfl) (by kernel_rfl) (fun _ _ _ h => h) (Or.inl ⟨by rfl, ?_⟩) hHeld ?_
            · intro wS hSw
              try dsimp only at hSw
              go_simp
            try simp only [Act.put, List.setIfInBounds_toArray, List.set_cons_zero, List.set_cons_succ]
            refine wpAnyH_ready (rs := [6]) (by kernel_rfl) (by simp) ?_
            refine AllReadyH.cons (o := { dst := some 42, op := Op.call { callee := Callee.value (Operand.func 31), args := #[Operand.tmp 41], argTypes := #[29] }, type := 68, pos := "law.go:256", after := #[{ on := 5, ground := Ground.data }], guard := none }) rfl (fun K hK => ?_) AllReadyH.nil
            go_simp
            refine (run_any gA _).mono ?_
            rintro e w5 ⟨B5, rfl, hB5, hR5, hf5⟩
            have hf35 : Fr [] w3' w5 := (Fr.refl [] w3').drew.trans0 hf5
            refine hK.out _ _ ⟨hf35.cell e1 (by simp), hf35.cell t0 (by simp), hf35.cell t1 (by simp), hf35.cell t2 (by simp), hf35.cell t3 (by simp), hf35.cell t4 (by simp), hf35.cell c8 (by simp)⟩ (fun hHeld => ?_)
            clear hK K
            try simp only [Act.put, List.setIfInBounds_toArray, List.set_cons_zero, List.set_cons_succ]
            refine wpAnyH_ready (rs := [7]) (by kernel_rfl) (by simp) ?_
            refine AllReadyH.cons (o := { dst := some 43, op := Op.call { callee := Callee.value (Operand.func 33), args := #[Operand.tmp 36, Operand.tmp 37, Operand.tmp 42], argTypes := #[61, 55, 67] }, type := 4, pos := "law.go:256", after := #[{ on := 0, ground := Ground.data }, { on := 1, ground := Ground.data }, { on := 6, ground := Ground.data }, { on := 6, ground := Ground.chain }], guard := none }) rfl (fun K hK => ?_) AllReadyH.nil
            go_simp
            refine (IH.out d (by omega) 8 nu1 x1 ia1 il1 ic1 B5 (bn :: E) w5 (fun y hy => Nat.lt_of_lt_of_le (HLT3.out y hy) hf35.size) HSUB.out (HU3.out.fr0 hf35) ((H002.out.trans0 HF3.out).trans0 hf35) hR5).mono ?_
            rintro e w4 ⟨rfl, hi4, hf4'⟩
            have hf4 := (FrB.nil hf35).trans hf4'
            have rt4 := hf4.row RT.out (by decide)
            have rx4 := hf4.row (RX.out.fr HF3.out (by simp)) (by decide)
            have cX4 : w4.cell? ⟨X, 0, none⟩ = some (ptr gA) := by
              obtain ⟨gB, bB, gp, gq, vp, vq, vL, vW, cA, s, cB, Lp, Lq, xs, ys, ls, h, _⟩ := hi4
              exact h.1.1.cell' (j := 0) rfl
            refine hK.out _ _ ⟨rx4.cell' (j := 0) rfl, rt4.cell' (j := 0) rfl, rt4.cell' (j := 1) rfl, rt4.cell' (j := 2) rfl, rt4.cell' (j := 3) rfl, rt4.cell' (j := 4) rfl, cX4⟩ (fun hHeld => ?_)
            clear hK K
            try simp only [Act.put, List.setIfInBounds_toArray, List.set_cons_zero, List.set_cons_succ]
            refine wpAnyH_take (i := 8) (oi := { dst := some 11, op := Op.assign (Operand.tmp 43), type := 4, pos := "law.go:256", after := #[{ on := 7, ground := Ground.data }, { on := 7, ground := Ground.chain }, { on := 0, ground := Ground.phase }, { on := 1, ground := Ground.phase }, { on := 2, ground := Ground.phase }, { on := 3, ground := Ground.phase }, { on := 4, ground := Ground.phase }, { on := 5, ground := Ground.phase }, { on := 6, ground := Ground.phase }, { on := 7, ground := Ground.phase }], guard := none }) (v := .bool true) rfl (by kernel_rfl) (by kernel_rfl) (by kernel_rfl) (fun _ _ _ h => h) (Or.inl ⟨by rfl, ?_⟩) hHeld ?_
            · intro wS hSw
              try dsimp only at hSw
              go_simp
            try simp only [Act.put, List.setIfInBounds_toArray, List.set_cons_zero, List.set_cons_succ]
            refine wpAnyH_done (by kernel_rfl) ?_ _
            have HI4 := Lib.hid hi4; have HF4 := Lib.hid hf4
            clear hi4 hf4 e1 c8
            have RX4 := Lib.hid (HF4.out.row (RX.out.fr HF3.out (by simp)) (by decide)); have RO4 := Lib.hid (HF4.out.row (RO.out.fr HF3.out (by simp)) (by decide)); have RR4 := Lib.hid (HF4.out.row (RR.out.fr HF3.out (by simp)) (by decide)); have RN4 := Lib.hid (HF4.out.row (RN.out.fr HF3.out (by simp)) (by decide)); have RB4 := Lib.hid (HF4.out.row (RB.out.fr HF3.out (by simp)) (by decide))
            have HFB4 := Lib.hid ((HFB2.out.trans (.nil HF3.out)).trans HF4.out)
            have H004 := Lib.hid (FrB.fr0 (H002.out.trans0 HF3.out) HF4.out)
            have HKO4 : Hid (∀ (k : Nat) (o : Obj), W'.heap[k]? = some o → o.isCells = false → o.isWalk = false → w4.heap[k]? = some o) := Lib.hid fun k o h1 h2 h3 => HF4.out.keep k o ((HF3.out.block k (Array.getElem?_eq_some_iff.1 (HKO.out k o h1 h2 h3)).1 (by simp)).trans (HKO.out k o h1 h2 h3)) h2 h3
            have HM4 : Hid (∃ c4 f4, Ibx w4 gA bA r c4 f4 ∧ (il - (k + 1)) * 4098 + (4097 - c4) < m ∧ k + 1 + ((il - (k + 1)) * 4098 + (4097 - c4)) ≤ il * 4098 + 4097) := Lib.hid (by
              obtain ⟨gB, bB, gp, gq, vp, vq, vL, vW, cA, s, cB, Lp, Lq, xs, ys, ls, h, _⟩ := HI4.out
              refine ⟨cA, _, h.2.2.1.1, ?_, ?_⟩
              · have := HM.out; omega
              · have := HM.out; have := HM2.out; omega)
            have n1 := RN4.out.cell' (j := 0) rfl
            have fn1 := RN4.out.free 0
            have q2 := RO4.out.cell' (j := 2) rfl
            have b0 := RR4.out.cell' (j := 0) rfl
            have fb0 := RR4.out.free 0
            clear hHeld t0 t1 t2 t3 t4 rt4 rx4 cX4 hf35 hf5 hf4' hR5 hB5
            gi_wp2_with (rw [Oper.semAt_eq _ _ _ (fun c h => by cases h)]; go_simp; try go_bits)
            have hwf : Fr [bn] w4 (w4.setCell ⟨bn, 0, none⟩ (.int .i64 ((k : Int) + 1))) := (Fr.refl [bn] w4).setCell (a := ⟨bn, 0, none⟩) _ (fun _ => by simp)
            have hSS : ∀ y ∈ [bn], kd w4 y ∉ KS ∧ (kd w4 y = 3 + 1 → y ∈ bn :: E) ∧ kd w4 y ≠ 0 := fun y hy => by
              simp at hy
              subst hy
              rw [RN4.out.kd]; exact ⟨by decide, fun _ => by simp, by decide⟩
            have hfb := HFB4.out.new hwf (fun y hy => by have := SZ.out; simp at hy; omega)
            have hnot : ∀ {T : TypeId} {g0 : Nat} {cc : List Value}, Row w4 g0 cc T → T ≠ 3 → Row (w4.setCell ⟨bn, 0, none⟩ (.int .i64 ((k : Int) + 1))) g0 cc T := fun {T g0 cc} hr hT => hr.fr hwf (by
              intro hm
              simp at hm
              exact kd_ne hr.kd RN4.out.kd (by simpa using hT) hm)
            have hrn := RN4.out.set 0 (.int .i64 ((k : Int) + 1))
            obtain ⟨c4, f4, hi4, hm4, hm5⟩ := HM4.out
            have hi4' : Ibx (w4.setCell ⟨bn, 0, none⟩ (.int .i64 ((k : Int) + 1))) gA bA r c4 f4 := hi4.fr hwf (by simp; exact kd_ne hi4.1.kd RN4.out.kd (by decide)) (by simp; exact kd_ne hi4.2.1.kd RN4.out.kd (by decide))
            exact ⟨fun k o _ h1 h2 h3 => keepO_fr hwf (fun y hy => (hSS y hy).2.2) k o (HKO4.out k o h1 h2 h3) h2 h3, _, hm4, HI4.out.write hwf (fun y hy => ⟨(hSS y hy).1, (hSS y hy).2.1⟩), FrB.fr0 HF.out hfb, hfb, hnot RB4.out (by decide), hnot RX4.out (by decide), hnot RO4.out (by decide), ⟨_, hnot RR4.out (by decide)⟩, k + 1, c4, f4, (by rw [show ((k + 1 : Nat) : Int) = (k : Int) + 1 by omega]; exact hrn), hi4', rfl, hm5⟩
          · have h81 : (kd1 == 8) = false := by rw [beq_eq_false_iff_ne]; exact h8
            gi_wp2_with (first
              | (gi_at_call 32; refine (CallsIn.inRound l (callsIn_wide.2 (here_any kd1 sl1 nu1 x1 ia1 il1 ic1 w2))).mono ?_; rintro e w3 ⟨rfl, hf3⟩; have HF3 := Lib.hid (hf3.alloc (.cells #[.int .i64 kd1, .int .i64 0, .int .i64 nu1, .int .i64 x1, .slice ia1 il1 ic1] 55)); have e1 := HF3.out.cell e0 (by simp); have HU3 := Lib.hid (HU.out.fr0 HF3.out); have HLT3 := Lib.hid (HLT2.out _ HF3.out.size); have c8 := (HX2.out.fr HF3.out (by simp)).cell' (j := 0) rfl; clear hf3)
              | (gi_at_call 27; refine (CallsIn.inRound l (callsIn_wide.2 (step_ok (bn :: E) w00.heap.size X gA bA r (.slice ia1 il1 ic1) kd1 0 nu1 x1 _ HLT3.out HU3.out HFIT.out.2.2.1 HFIT.out.2.2.2))).mono ?_; rintro e w4 ⟨rfl, hi4, hf4⟩
                 have HI4 := Lib.hid hi4; have HF4 := Lib.hid hf4
                 clear hi4 hf4 e1 e0 n0 o4 p0 p1 p2 p3 p4 c8
                 have RX4 := Lib.hid (HF4.out.row (RX.out.fr HF3.out (by simp)) (by decide)); have RO4 := Lib.hid (HF4.out.row (RO.out.fr HF3.out (by simp)) (by decide)); have RR4 := Lib.hid (HF4.out.row (RR.out.fr HF3.out (by simp)) (by decide)); have RN4 := Lib.hid (HF4.out.row (RN.out.fr HF3.out (by simp)) (by decide)); have RB4 := Lib.hid (HF4.out.row (RB.out.fr HF3.out (by simp)) (by decide))
                 have HFB4 := Lib.hid ((HFB2.out.trans (.nil HF3.out)).trans HF4.out)
                 have H004 := Lib.hid (FrB.fr0 (H002.out.trans0 HF3.out) HF4.out)
                 have HKO4 : Hid (∀ (k : Nat) (o : Obj), W'.heap[k]? = some o → o.isCells = false → o.isWalk = false → w4.heap[k]? = some o) := Lib.hid fun k o h1 h2 h3 => HF4.out.keep k o ((HF3.out.block k (Array.getElem?_eq_some_iff.1 (HKO.out k o h1 h2 h3)).1 (by simp)).trans (HKO.out k o h1 h2 h3)) h2 h3
                 have HM4 : Hid (∃ c4 f4, Ibx w4 gA bA r c4 f4 ∧ (il - (k + 1)) * 4098 + (4097 - c4) < m ∧ k + 1 + ((il - (k + 1)) * 4098 + (4097 - c4)) ≤ il * 4098 + 4097) := Lib.hid (by
                   obtain ⟨gB, bB, gp, gq, vp, vq, vL, vW, cA, s, cB, Lp, Lq, xs, ys, ls, h, _⟩ := HI4.out
                   refine ⟨cA, _, h.2.2.1.1, ?_, ?_⟩
                   · have := HM.out; omega
                   · have := HM.out; have := HM2.out; omega)
                 have n1 := RN4.out.cell' (j := 0) rfl
                 have fn1 := RN4.out.free 0
                 have q2 := RO4.out.cell' (j := 2) rfl
                 have b0 := RR4.out.cell' (j := 0) rfl
                 have fb0 := RR4.out.free 0)
              | (rw [Oper.semAt_eq _ _ _ (fun c h => by cases h)]; go_simp; try go_bits))
            have hwf : Fr [bn] w4 (w4.setCell ⟨bn, 0, none⟩ (.int .i64 ((k : Int) + 1))) := (Fr.refl [bn] w4).setCell (a := ⟨bn, 0, none⟩) _ (fun _ => by simp)
            have hSS : ∀ y ∈ [bn], kd w4 y ∉ KS ∧ (kd w4 y = 3 + 1 → y ∈ bn :: E) ∧ kd w4 y ≠ 0 := fun y hy => by
              simp at hy
              subst hy
              rw [RN4.out.kd]; exact ⟨by decide, fun _ => by simp, by decide⟩
            have hfb := HFB4.out.new hwf (fun y hy => by have := SZ.out; simp at hy; omega)
            have hnot : ∀ {T : TypeId} {g0 : Nat} {cc : List Value}, Row w4 g0 cc T → T ≠ 3 → Row (w4.setCell ⟨bn, 0, none⟩ (.int .i64 ((k : Int) + 1))) g0 cc T := fun {T g0 cc} hr hT => hr.fr hwf (by
              intro hm
              simp at hm
              exact kd_ne hr.kd RN4.out.kd (by simpa using hT) hm)
            have hrn := RN4.out.set 0 (.int .i64 ((k : Int) + 1))
            obtain ⟨c4, f4, hi4, hm4, hm5⟩ := HM4.out
            have hi4' : Ibx (w4.setCell ⟨bn, 0, none⟩ (.int .i64 ((k : Int) + 1))) gA bA r c4 f4 := hi4.fr hwf (by simp; exact kd_ne hi4.1.kd RN4.out.kd (by decide)) (by simp; exact kd_ne hi4.2.1.kd RN4.out.kd (by decide))
            exact ⟨fun k o _ h1 h2 h3 => keepO_fr hwf (fun y hy => (hSS y hy).2.2) k o (HKO4.out k o h1 h2 h3) h2 h3, _, hm4, HI4.out.write hwf (fun y hy => ⟨(hSS y hy).1, (hSS y hy).2.1⟩), FrB.fr0 HF.out hfb, hfb, hnot RB4.out (by decide), hnot RX4.out (by decide), hnot RO4.out (by decide), ⟨_, hnot RR4.out (by decide)⟩, k + 1, c4, f4, (by rw [show ((k + 1 : Nat) : Int) = (k : Int) + 1 by omega]; exact hrn), hi4', rfl, hm5⟩
      · have hd1 : decide ((k : Int) < (il : Int)) = false := decide_eq_false (by omega)
        have RX4 := RX; have RO4 := RO; have RR4 := RR; have RN4 := RN; have RB4 := RB; have HFB4 := HFB2; have H004 := H002; have HKO4 := HKO; have HI4 := HU
        obtain ⟨w4, hw4⟩ : ∃ w4, w4 = w2 := ⟨_, rfl⟩
        subst hw4
        have HM4 : Hid (∃ c4 f4, Ibx w4 gA bA r c4 f4 ∧ (il - (k + 1)) * 4098 + (4097 - c4) < m ∧ k + 1 + ((il - (k + 1)) * 4098 + (4097 - c4)) ≤ il * 4098 + 4097) := Lib.hid (by
          refine ⟨c + 1, _, HI2.out, ?_, ?_⟩
          · have := HM.out; have := HI2.out.2.2.2.2; omega
          · have := HM.out; have := HM2.out; have := HI2.out.2.2.2.2; omega)
        have n1 := RN4.out.cell' (j := 0) rfl
        have fn1 := RN4.out.free 0
        have q2 := RO4.out.cell' (j := 2) rfl
        have b0 := RR4.out.cell' (j := 0) rfl
        have fb0 := RR4.out.free 0
        gi_wp2_with (rw [Oper.semAt_eq _ _ _ (fun c h => by cases h)]; go_simp; try go_bits)
        have hwf : Fr [bn] w4 (w4.setCell ⟨bn, 0, none⟩ (.int .i64 ((k : Int) + 1))) := (Fr.refl [bn] w4).setCell (a := ⟨bn, 0, none⟩) _ (fun _ => by simp)
        have hSS : ∀ y ∈ [bn], kd w4 y ∉ KS ∧ (kd w4 y = 3 + 1 → y ∈ bn :: E) ∧ kd w4 y ≠ 0 := fun y hy => by
          simp at hy
          subst hy
          rw [RN4.out.kd]; exact ⟨by decide, fun _ => by simp, by decide⟩
        have hfb := HFB4.out.new hwf (fun y hy => by have := SZ.out; simp at hy; omega)
        have hnot : ∀ {T : TypeId} {g0 : Nat} {cc : List Value}, Row w4 g0 cc T → T ≠ 3 → Row (w4.setCell ⟨bn, 0, none⟩ (.int .i64 ((k : Int) + 1))) g0 cc T := fun {T g0 cc} hr hT => hr.fr hwf (by
          intro hm
          simp at hm
          exact kd_ne hr.kd RN4.out.kd (by simpa using hT) hm)
        have hrn := RN4.out.set 0 (.int .i64 ((k : Int) + 1))
        obtain ⟨c4, f4, hi4, hm4, hm5⟩ := HM4.out
        have hi4' : Ibx (w4.setCell ⟨bn, 0, none⟩ (.int .i64 ((k : Int) + 1))) gA bA r c4 f4 := hi4.fr hwf (by simp; exact kd_ne hi4.1.kd RN4.out.kd (by decide)) (by simp; exact kd_ne hi4.2.1.kd RN4.out.kd (by decide))
        exact ⟨fun k o _ h1 h2 h3 => keepO_fr hwf (fun y hy => (hSS y hy).2.2) k o (HKO4.out k o h1 h2 h3) h2 h3, _, hm4, HI4.out.write hwf (fun y hy => ⟨(hSS y hy).1, (hSS y hy).2.1⟩), FrB.fr0 HF.out hfb, hfb, hnot RB4.out (by decide), hnot RX4.out (by decide), hnot RO4.out (by decide), ⟨_, hnot RR4.out (by decide)⟩, k + 1, c4, f4, (by rw [show ((k + 1 : Nat) : Int) = (k : Int) + 1 by omega]; exact hrn), hi4', rfl, hm5⟩
  case done =>
    rintro D m W c f hDw ⟨hb1, hb2, hb3, hb4, hb5, hb6, ⟨b7, hb7⟩, k, c', f', hb8, hb9, hb10, hb11⟩ hi hfc hDef
    have HBI := Lib.hid hb1
    obtain ⟨gB, bB, gp, gq, vp, vq, vL, vW, cA, s, cB, Lp, Lq, xs, ys, ls, hP, hE⟩ := hb1
    obtain ⟨rfl, rfl⟩ := hi.unique hP.2.2.1.1
    have PH : Hid (CallsIn Fence.wide 5 Try.prog 44 #[ptr gp] W fun e w' => e = .returned (.tuple #[.int .i64 0, .bool false]) ∧ ∃ n, w' = W.drewN n) := Lib.hid (callsIn_wide.2 (by
      have := rfHead_any w00.heap.size gp vp r c Lp W hP.2.2.1.2.1
      rwa [hfc] at this))
    have c0 := hb5.cell' (j := 0) rfl
    have c2 := hP.1.1.cell' (j := 2) rfl
    have b0 := hb7.cell' (j := 0) rfl
    have fb0 := hb7.free 0
    have HR7 := Lib.hid hb7; have HB3 := Lib.hid hb3; have HDEF := Lib.hid hDef; have HDW := Lib.hid hDw
    have hnh : Fence.wide.fn 44 := trivial
    clear hP hE hi hfc hDef hb2 hb3 hb4 hb5 hb6 hb7 hb8 hb9 hb10 hb11 hDw HB R0 R1 R2 R3 HJ0 IH HD
    gi_wp2_with (gi_at_call 44; refine PH.out.mono ?_; rintro e w2 ⟨rfl, nd, hw2⟩; have hf2 : Fr [] W w2 := (by rw [hw2]; exact (Fr.refl _ _).drewN _); have HF2 := Lib.hid hf2; have b1 := hf2.cell b0 (by simp); have hr2 := HR7.out.fr hf2 (by simp); have fb1 := hr2.free 0; have HR2 := Lib.hid hr2; have HDEF2 : Hid (w2.heap[D]? = some (.deferred (some []))) := Lib.hid ((hf2.block D (Array.getElem?_eq_some_iff.1 HDEF.out).1 (by simp)).trans HDEF.out); clear hw2 hf2 hr2 b0 fb0)
    have hwf : Fr [br] w2 (w2.setCell ⟨br, 0, none⟩ (.bool true)) := (Fr.refl [br] w2).setCell (a := ⟨br, 0, none⟩) _ (fun _ => by simp)
    refine gone_leaves rfl rfl rfl (HR2.out.set 0 (.bool true)) ((hwf.block D (Array.getElem?_eq_some_iff.1 HDEF2.out).1 (by
      intro hm
      simp at hm
      subst hm
      have h5 := HR2.out
      unfold Row at h5
      rw [HDEF2.out] at h5
      cases Option.some.inj h5)).trans HDEF2.out) ((HBI.out.fr0 HF2.out).write hwf (fun y hy => ?_)) (((HB3.out.trans (.nil HF2.out)).new hwf (fun y hy => by have := SZ.out; simp at hy; omega))) (Nat.le_trans HF1.out.size HDW.out)
    simp at hy
    subst hy
    rw [HR2.out.kd]
    exact ⟨by decide, fun e => absurd e (by decide)⟩
  case stop =>
    rintro D c W hDw ⟨rfl, hb1, hb2, hb3, hb4⟩ hDef
    clear HB R0 R1 R2 R3 HJ0 IH HD
    gi_wp2_with fail
    exact gone_leaves rfl rfl rfl hb4 hDef hb1 hb3 (Nat.le_trans HF1.out.size hDw)
theorem gone_any (w00 : World) (X gA bA r : Nat) (d : Nat) : ∀ (kind num x : Int) (ia : Option Addr) (il ic B : Nat) (E : List Nat) (w : World), (∀ y ∈ E, y < w.heap.size) → OpsD w00 d ia il → BxI E w w00.heap.size X gA bA r → Fr [] w00 w → Row w B [ptr gA] 29 →
      Calls Try.prog 33 #[ptr X, .agg #[.int .i64 kind, .int .i64 0, .int .i64 num, .int .i64 x, .slice ia il ic], .func (.func 50) #[] #[.pointer (some ⟨B, 0, none⟩)]] w (BxPost E w w00.heap.size X gA bA r) := by
  induction d using Nat.strongRecOn with
  | _ d ih => exact fun kind num x ia il ic B E w h1 h2 h3 h4 h5 => gone_step w00 X gA bA r d (fun d' hd' => ih d' hd') kind num x ia il ic B E w h1 h2 h3 h4 h5
end Go.Proofs.Ytjhemoekmlhlpaa
