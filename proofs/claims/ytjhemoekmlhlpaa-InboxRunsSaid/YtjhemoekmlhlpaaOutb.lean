/- Contracts: outbox.Outbox[int]: New, Last, Acked, Push. -/
import Derived.Test.YtjhemoekmlhlpaaProg
import Derived.Test.YtjhemoekmlhlpaaBase
import Derived.Laws.Tables
import Derived.StillTailTactics
import Derived.Maps.AppendAt
import Derived.OwnWalk
namespace Go.Proofs.Ytjhemoekmlhlpaa
open Go Go.RowKit
set_option linter.unusedVariables false

def is (L : List Int) : List Value := L.map (Value.int .i64)
theorem is_length (L : List Int) : (is L).length = L.length := by simp [is]
theorem is_append (L M : List Int) : is (L ++ M) = is L ++ is M := by simp [is]
theorem is_one (L : List Int) : ∀ v ∈ is L, v.oneCell' = true := by
  intro v hv
  simp only [is, List.mem_map] at hv
  obtain ⟨x, _, rfl⟩ := hv
  rfl
theorem infoI : (Try.prog.info? 3).map (fun i => (i.zero, i.size, i.bytes)) = some (some (.int .i64 0), 1, 8) := by kernel_rfl

/-- append, with where the new slice lies -/
theorem wpList_append_at {P : Program} {w : World} {ops : Array Oper} {rest : List Oper} {o : Oper} {a : Act} {Q : Exit → Act → World → Prop} (hgd : o.guard = none) (s x : Operand) (t : TypeId)
    (ho : o.op = .call { callee := .builtin .append, args := #[s, x], argTypes := #[t, t] })
    (base : Nat) (e : TypeId) (z : Value) (size bytes : Nat) (ht : P.underlying t = some (.slice e)) (hi : (P.info? e).map (fun i => (i.zero, i.size, i.bytes)) = some (some z, size, bytes)) (hzs : z.cells.size = size) (hsz : 0 < size)
    (v : Value) (n : Nat) (xs : List Value) (hs : a.eval s = v) (hown : w.ownsRow base e size v n xs)
    (ad : Addr) (m c : Nat) (news : List Value) (hx : a.eval x = .slice (some ad) m c) (hl : news.length = m * size) (hnews : ∀ j u, news[j]? = some u → w.cell? (ad.add j) = some u) (h1 : ∀ u ∈ news, u.oneCell' = true)
    (h63 : n + m ≤ maxLen) (hbytes : (n + m) * bytes ≤ 140737488355328) (hbase : base ≤ w.heap.size)
    (h : ∀ v' w', w'.ownsRow base e size v' (n + m) (xs ++ news) → Fr v.ownBlock.toList w w' → (v'.ownBlock = v.ownBlock ∨ v'.ownBlock = some w.heap.size) → wpList P ops Q rest (a.put o.dst v') w') : wpList P ops Q (o :: rest) a w := by
  obtain ⟨i, hi0, hzero, hsize, hby⟩ := info_parts hi
  exact wpList_append_own_at w hgd s x t ho base e i z size bytes ht hi0 hzero hsize hby hzs hsz v n xs hs hown ad m c news hx hl hnews h1 h63 hbytes hbase
    fun v' w' h2 h3 _ h5 => h v' w' h2 (Fr.ofGrown h3 fun b hb _ => by rw [hb]; simp) h5
theorem lit1 (w : World) (v : Value) (T : TypeId) : ∀ j u, [v][j]? = some u → (w.alloc (.cells #[v] T)).cell? ((⟨w.heap.size, 0, none⟩ : Addr).add j) = some u := by
  intro j u hj
  match j, hj with
  | 0, hj => simp at hj; subst hj; simp [Addr.add]

/-- an outbox at block g; v: the slice of what is left, L, in a row of its own -/
def Obx (w : World) (base g : Nat) (v : Value) (win acked sent : Nat) (L : List Int) : Prop :=
  Row w g [.int .i64 win, .int .i64 acked, .int .i64 sent, v] 79 ∧ w.ownsRow base 3 1 v L.length (is L) ∧ 1 ≤ win ∧ win ≤ 4096 ∧ acked + L.length ≤ 4096 ∧ acked ≤ sent ∧ sent ≤ acked + min win L.length
theorem Obx.slice {w : World} {base g : Nat} {v : Value} {win acked sent : Nat} {L : List Int} (h : Obx w base g v win acked sent L) : ∃ a c, v = .slice a L.length c ∧ L.length ≤ c ∧ c ≤ maxLen := by
  obtain ⟨a, c, hv, h1, h2, _⟩ := owns_slice h.2.1
  exact ⟨a, c, hv, h1, h2⟩
theorem Obx.drewN {w : World} {base g : Nat} {v : Value} {win acked sent : Nat} {L : List Int} (h : Obx w base g v win acked sent L) (n : Nat) : Obx (w.drewN n) base g v win acked sent L := h
theorem Obx.fr {w w' : World} {base g : Nat} {v : Value} {win acked sent : Nat} {L : List Int} {S : List Nat} (h : Obx w base g v win acked sent L) (f : Fr S w w') (hg : g ∉ S) (hv : ∀ b, v.ownBlock = some b → b ∉ S) : Obx w' base g v win acked sent L :=
  ⟨h.1.fr f hg, owns_fr h.2.1 f hv, h.2.2⟩
theorem Obx.fr0 {w w' : World} {base g : Nat} {v : Value} {win acked sent : Nat} {L : List Int} (h : Obx w base g v win acked sent L) (f : Fr [] w w') : Obx w' base g v win acked sent L := h.fr f (by simp) (by simp)

theorem Row.neOwn {w : World} {g : Nat} {c : List Value} {T : TypeId} {base : Nat} {e : TypeId} {size n : Nat} {v : Value} {xs : List Value} (h : Row w g c T) (ho : w.ownsRow base e size v n xs) (hT : T ≠ e) : ∀ y, v.ownBlock = some y → g ≠ y := by
  rintro y hy rfl
  rcases ho.2 with ⟨rfl, _⟩ | ⟨g', cap, cur, rfl, _, hg, _⟩
  · cases hy
  · obtain rfl := Option.some.inj hy
    unfold Row at h
    rw [h] at hg
    exact hT (Obj.cells.inj (Option.some.inj hg)).2.1
theorem built_out (x : Int) (w : World) : (Instr.build 79 #[(0, .int .i64 x)]).run Try.prog w = .ok (.agg #[.int .i64 x, .int .i64 0, .int .i64 0, .slice none 0 0]) w := run_build w _ _ _ (by kernel_rfl)
set_option maxRecDepth 100000 in
theorem newOut_ok (r base : Nat) (w : World) (h1 : 1 ≤ r) (h2 : r ≤ 4096) :
    Calls Try.prog 11 #[.int .i64 r] w fun e w' => ∃ g, e = .returned (.tuple #[.pointer (some ⟨g, 0, none⟩), .int .i64 0]) ∧ w.heap.size ≤ g ∧ Obx w' base g (.slice none 0 0) r 0 0 [] ∧ Fr [] w w' := by
  have hbd := fun w => built_out r w
  go_enter Try.func11, Try.ntmps11
  go_wp2_with fail
  go_ret2
  exact ⟨w.heap.size, rfl, Nat.le_refl _, ⟨Row.new w _ _, World.ownsRow_nil _ _ _ _, h1, h2, by simp, Nat.le_refl _, Nat.zero_le _⟩, (Fr.refl [] w).alloc _⟩

theorem last_any (base g : Nat) (v : Value) (win acked sent : Nat) (L : List Int) (w : World) (h : Obx w base g v win acked sent L) :
    Calls Try.prog 35 #[.pointer (some ⟨g, 0, none⟩)] w fun e w' => e = .returned (.int .i64 ((acked + L.length : Nat) : Int)) ∧ ∃ n, w' = w.drewN n := by
  obtain ⟨a, c, rfl, _, _⟩ := h.slice
  have c1 := h.1.cell' (j := 1) rfl
  have c3 := h.1.cell' (j := 3) rfl
  obtain ⟨n, hn⟩ : ∃ n, n = L.length := ⟨_, rfl⟩
  obtain ⟨s, hs⟩ : ∃ s, s = acked + n := ⟨_, rfl⟩
  rw [← hn] at c3
  have hsi : (acked : Int) + (n : Int) = (s : Int) := by omega
  have hb := h.2.2.2.2.1
  rw [← hn, ← hs] at hb
  have q1 : IntKind.i64.wrap (s : Int) = (s : Int) := IntWalk.i64_in _ (by omega)
  rw [← hn, ← hs]
  clear h hs hn
  go_enter Try.func35, Try.ntmps35
  go_wp2_with fail
  go_quiet (fail)
  go_wp2_with fail
  go_ret
  exact ⟨rfl, _, rfl⟩
theorem acked_any (base g : Nat) (v : Value) (win acked sent : Nat) (L : List Int) (w : World) (h : Obx w base g v win acked sent L) :
    Calls Try.prog 21 #[.pointer (some ⟨g, 0, none⟩)] w fun e w' => e = .returned (.int .i64 acked) ∧ w = w' := by
  have c1 := h.1.cell' (j := 1) rfl
  clear h
  go_enter Try.func21, Try.ntmps21
  go_wp2_with fail
  go_ret
  exact ⟨rfl, rfl⟩

set_option maxRecDepth 100000 in
set_option maxHeartbeats 2000000 in
theorem push_any (base g : Nat) (v : Value) (win acked sent : Nat) (L : List Int) (x : Int) (w : World) (h : Obx w base g v win acked sent L) (hb : base ≤ w.heap.size) (hroom : acked + L.length < 4096) :
    Calls Try.prog 13 #[.pointer (some ⟨g, 0, none⟩), .int .i64 x] w fun e w' => e = .returned (.tuple #[.int .i64 ((acked + L.length + 1 : Nat) : Int), .int .i64 0]) ∧
      ∃ v', Obx w' base g v' win acked sent (L ++ [x]) ∧ Fr (g :: v.ownBlock.toList) w w' ∧ (v'.ownBlock = v.ownBlock ∨ ∃ y, v'.ownBlock = some y ∧ w.heap.size ≤ y) := by
  have H := Lib.hid h
  obtain ⟨a, c, rfl, hc1, hc2⟩ := h.slice
  obtain ⟨n, hn⟩ : ∃ n, n = L.length := ⟨_, rfl⟩
  obtain ⟨s, hs⟩ : ∃ s, s = acked + n := ⟨_, rfl⟩
  have HLS : Hid (∀ w2, Obx w2 base g (.slice a L.length c) win acked sent L → Calls Try.prog 35 #[.pointer (some ⟨g, 0, none⟩)] w2 fun e w' => e = .returned (.int .i64 s) ∧ ∃ n, w' = w2.drewN n) := Lib.hid fun w2 h2 => by
    have := last_any base g _ win acked sent L w2 h2
    rwa [← hn, ← hs] at this
  rw [← hn, ← hs] at hroom ⊢
  have hsn : n ≤ s := by omega
  have HN := Lib.hid hn; have HS := Lib.hid hs; have HB := Lib.hid hb
  have HBS : Hid (base ≤ w.heap.size) := Lib.hid hb
  clear hs h hc1 hc2 hb hn
  have t1 : ((s : Int) == 4096) = false := by rw [beq_eq_false_iff_ne]; omega
  go_enter Try.func13, Try.ntmps13
  go_wp2_with fail
  refine (HLS.out _ H.out).mono ?_
  rintro e w2 ⟨rfl, nd, rfl⟩
  obtain ⟨wq, hwq⟩ : ∃ wq, wq = w.drewN nd := ⟨_, rfl⟩
  rw [← hwq]
  have HQ : Hid (Obx wq base g (.slice a L.length c) win acked sent L) := Lib.hid (by rw [hwq]; exact H.out.drewN nd)
  have HF : Hid (Fr [] w wq) := Lib.hid (by rw [hwq]; exact (Fr.refl _ _).drewN nd)
  have HSZ : Hid (w.heap.size = wq.heap.size) := Lib.hid (by rw [hwq]; rfl)
  clear hwq
  have c3 := HQ.out.1.cell' (j := 3) rfl
  rw [← HN.out] at c3
  have HO : Hid (wq.ownsRow base 3 1 (.slice a n c) n (is L)) := Lib.hid (by have := HQ.out.2.1; rwa [← HN.out] at this)
  have HNE : Hid (∀ y, (Value.slice a n c).ownBlock = some y → g ≠ y) := Lib.hid (HQ.out.1.neOwn HO.out (by decide))
  go_wp2_with (at_builtin; refine wpList_append_at rfl (.tmp 13) (.tmp 15) 23 rfl base 3 (.int .i64 0) 1 8 Try.underlying23 infoI rfl (by decide) (.slice a n c) n (is L) rfl (owns_fr0 HO.out ((Fr.refl _ _).alloc _)) ⟨wq.heap.size, 0, none⟩ 1 1 [.int .i64 x] rfl rfl (lit1 _ _ _) (by intro u hu; simp at hu; subst hu; rfl) (by unfold maxLen; omega) (by omega) (by have := HBS.out; have := HSZ.out; simp; omega) ?_; intro v' w3 ho3 hf3 hat; have hr3 := (HQ.out.1.alloc _).fr hf3 (by intro hm; cases hob : (Value.slice a n c).ownBlock with | none => rw [hob] at hm; simp at hm | some y => rw [hob] at hm; simp at hm; exact HNE.out y hob hm); obtain ⟨a2, c2, rfl, _, _, _, _⟩ := owns_slice ho3; have HO3 := Lib.hid ho3; have HF3 := Lib.hid hf3; have HAT := Lib.hid hat; have HR3 := Lib.hid hr3; have d3 := hr3.cell' (j := 3) rfl; have f3 := hr3.free 3; clear ho3 hf3 hat hr3)
  obtain ⟨w4, hw4⟩ : ∃ w4, w4 = w3.setCell ⟨g, 3, none⟩ (.slice a2 (n + 1) c2) := ⟨_, rfl⟩
  have hlen : n + 1 = (L ++ [x]).length := by rw [List.length_append, ← HN.out]; rfl
  have HO4 : Hid (Obx w4 base g (.slice a2 (n + 1) c2) win acked sent (L ++ [x])) := Lib.hid (by
    rw [hw4]
    have hne := HR3.out.neOwn HO3.out (by decide)
    have ho := owns_fr HO3.out ((Fr.refl [g] w3).setCell (a := ⟨g, 3, none⟩) (.slice a2 (n + 1) c2) (fun _ => by simp)) (fun y hy => by simpa using fun e => hne y hy e.symm)
    have hr := HR3.out.set 3 (.slice a2 (n + 1) c2)
    have hb := H.out.2.2
    refine ⟨hr, ?_, hb.1, hb.2.1, ?_, hb.2.2.2.1, ?_⟩
    · rw [← hlen, is_append]; exact ho
    · rw [← hlen]; have := HS.out; omega
    · rw [← hlen]; have := hb.2.2.2.2; have := HN.out; omega)
  have HF4 : Hid (Fr (g :: (Value.slice a n c).ownBlock.toList) w w4) := Lib.hid (by
    rw [hw4]
    have f1 : Fr (g :: (Value.slice a n c).ownBlock.toList) w (wq.alloc (.cells #[.int .i64 x] 3)) := (HF.out.alloc _).nil _
    exact (f1.trans HF3.out (fun b hb _ => by simp [hb])).setCell (a := ⟨g, 3, none⟩) _ (fun _ => by simp))
  have HAT2 : Hid ((Value.slice a2 (n + 1) c2).ownBlock = (Value.slice a n c).ownBlock ∨ ∃ y, (Value.slice a2 (n + 1) c2).ownBlock = some y ∧ w.heap.size ≤ y) := Lib.hid (by
    rcases HAT.out with h | h
    · exact .inl h
    · exact .inr ⟨_, h, by rw [HSZ.out]; simp⟩)
  rw [← hw4]
  have HLEN := Lib.hid hlen
  clear hw4 hlen d3 f3
  refine (last_any base g _ win acked sent (L ++ [x]) _ HO4.out).mono ?_
  rw [← HLEN.out]
  have hs1 : acked + (n + 1) = s + 1 := by have := HS.out; omega
  rw [hs1]
  rintro e w5 ⟨rfl, nd5, rfl⟩
  go_wp2_with fail
  go_ret2
  exact ⟨rfl, _, HO4.out.drewN nd5, HF4.out.drewN nd5, HAT2.out⟩
end Go.Proofs.Ytjhemoekmlhlpaa
