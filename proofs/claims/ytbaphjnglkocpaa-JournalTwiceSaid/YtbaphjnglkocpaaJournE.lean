import Derived.Test.YtbaphjnglkocpaaJournD
import Derived.Deep.AppendSrc
/-
  The journal: what is read of it; its cells are written.
-/
namespace Go.Proofs.Ytbaphjnglkocpaa
open Go.RowKit
section
variable {P : Program}
/-- 'append' to a row of the call's own at a step of a region that draws its order -/
theorem step_append_sub {w : World} {ops : Array Oper} {o : Oper} {a : Act} {K : Act → World → Prop} {Q : Exit → Act → World → Prop} {E : Prop} (hgd : o.guard = none) (s x : Operand) (t : TypeId)
    (ho : o.op = .call { callee := .builtin .append, args := #[s, x], argTypes := #[t, t] }) (e : TypeId) (i : TypeInfo) (z : Value) (bytes : Nat) (ht : P.underlying t = some (.slice e)) (hi : P.info? e = some i) (hz : i.zero = some z)
    (hsize : i.size = 1) (hby : i.bytes = bytes) (hzs : z.cells.size = 1) (B : Nat) (v : Value) (xs : List Value) (hv : a.eval s = v) (h : SubRow w B v xs) (x' : Value) (hx : a.eval x = x') (news : List Value) (hs : Src P 1 t x' news.length news w)
    (hm : xs.length + news.length ≤ maxLen) (hb : (xs.length + news.length) * bytes ≤ 140737488355328) (hB : B ≤ w.heap.size)
    (hK : ∀ q cap w', SubRow w' B (.slice q (xs.length + news.length) cap) (xs ++ news) → Keeps (fun k => v.ownBlock = some k) w w' → ((Value.slice q (xs.length + news.length) cap).ownBlock = v.ownBlock ∨ (Value.slice q (xs.length + news.length) cap).ownBlock = some w.heap.size) → K (a.put o.dst (.slice q (xs.length + news.length) cap)) w') :
    if Region.wanted o (yielded ops a.tmps) = true then Oper.wp P o a w K Q else E := by
  obtain ⟨v', w', hr, h1, h2, h3⟩ := run_append_sub (P := P) w t o.type e i z bytes ht hi hz hsize hby hzs B v xs h x' news hs hm hb hB
  have hw : Region.wanted o (yielded ops a.tmps) = true := by simp [Region.wanted, hgd]
  rw [if_pos hw]
  unfold Oper.wp execOp
  simp only [ho, resolve, invoke, builtin, Sem.run_bind, Sem.run_pure, Result.andThen_ok, List.map_toArray, List.map_cons, List.map_nil, hv, hx, hr]
  obtain ⟨q, cap, rfl, _⟩ := h1.form
  rw [List.length_append] at h1 h3 ⊢
  exact hK q cap w' h1 h2 h3
end
theorem JAt.new {w : World} {B : Nat} {A : JAd} {m : JM} {d : Dev} (h : JAt w B A m) (hd : DevAt w A.p A.mn A.ms A.mc d) {k : Nat} (hk : w.heap.size ≤ k) :
    ¬ DFoot A.p A.mn A.ms A.mc k ∧ k ≠ A.s ∧ k ≠ A.j ∧ k ≠ A.mg ∧ A.vs.ownBlock ≠ some k ∧ A.va.ownBlock ≠ some k ∧ (A.vn.ownBlock = some k → m.note = []) := by
  obtain ⟨l, a1, _⟩ := h.gens
  refine ⟨fun e => ?_, fun e => ?_, fun e => ?_, fun e => ?_, fun e => ?_, fun e => ?_, fun e => ?_⟩
  · have := hd.lt k e; omega
  · have := h.slot.lt; omega
  · have := h.ltj; omega
  · have := a1.lt; omega
  · have := (h.stream.lt k e).2; omega
  · have := (h.starts.lt k e).2; omega
  · by_cases hn : m.note = []
    · exact hn
    · exfalso
      obtain ⟨q, cap, e2, _, _, h3⟩ := h.note
      obtain ⟨b, l, hl⟩ := List.exists_cons_of_ne_nil hn
      obtain ⟨a, rfl, hc⟩ := h3 0 b (by rw [hl]; rfl)
      rw [show a.add 0 = a from by simp [Addr.add]] at hc
      have := World.block_lt_of_cell? w a hc
      rw [e2] at e
      obtain ⟨b1, o1, s1⟩ := a
      have hs := spot_none hc
      simp only [] at hs
      subst hs
      simp [Value.ownBlock] at e
      simp only [] at this
      omega
/-- its own cells, its stream and its starts are written -/
theorem JB.upd {S : Nat → Prop} {w0 w w' : World} {A : JAd} {d : Dev} {m m' : JM} {c c' : Nat} (h : JB w0 w A d m c) (hc : c ≤ c') (hk : Keeps S w w') (hS : ∀ k, S k → k = A.j ∨ A.vs.ownBlock = some k ∨ A.va.ownBlock = some k)
    (vs va : Value)
    (hself : w'.heap[A.j]? = some (.cells #[.pointer (some ⟨A.p, 0, none⟩), .int .i64 m.at_, .int .i64 m'.n, .pointer (some ⟨A.s, 0, none⟩), .int .i64 m'.gen, .map (some A.mg), vs, .int .i64 m'.base, va, .int .i64 m'.first, .int .i64 m'.flushed, .int .i64 m'.booked, A.vn, .bool m'.dead] 93 (0, 0)))
    (hst : SubRow w' w0.heap.size vs (bytesV m'.stream)) (hsa : SubRow w' w0.heap.size va (intsV m'.starts)) (h1 : ∀ k, vs.ownBlock = some k → A.vs.ownBlock = some k ∨ w.heap.size ≤ k) (h2 : ∀ k, va.ownBlock = some k → A.va.ownBlock = some k ∨ w.heap.size ≤ k) (h3 : ∀ k, vs.ownBlock = some k → va.ownBlock ≠ some k)
    (e1 : m'.at_ = m.at_) (e2 : m'.num = m.num) (e3 : m'.sdead = m.sdead) (e4 : m'.gens = m.gens) (e5 : m'.note = m.note) (hok : m'.Ok d c') : JB w0 w' { A with vs := vs, va := va } d m' c' := by
  have ha := h.at_
  have hl := h.db.lay
  have hS1 : ∀ k, S k → ¬ DFoot A.p A.mn A.ms A.mc k ∧ k ≠ A.s ∧ k ≠ A.mg ∧ (A.vn.ownBlock = some k → m.note = []) := fun k hk => by
    rcases hS k hk with rfl | e | e
    · exact ⟨ha.jd hl, ha.js, ha.jg, fun e => by
        by_cases hn : m.note = []
        · exact hn
        · exact absurd rfl (ha.notej hn _ e).1⟩
    · have := ha.aps k e; exact ⟨this.1, this.2.1, this.2.2.2.1, this.2.2.2.2.2⟩
    · have := ha.apa k e; exact ⟨this.1, this.2.1, this.2.2.2.1, this.2.2.2.2⟩
  have hSl : ∀ k, S k → w0.heap.size ≤ k := fun k hk => by
    rcases hS k hk with rfl | e | e
    · exact ha.loj
    · exact (ha.stream.lt k e).1
    · exact (ha.starts.lt k e).1
  obtain ⟨l, a1, a2⟩ := ha.gens
  refine ⟨(h.db.other hk (fun k hf hs => (hS1 k hs).1 hf) hSl).more hc, ⟨?_, ?_, ⟨l, a1.keeps hk (fun hs => (hS1 _ hs).2.2.1 rfl), by rw [e4]; exact a2⟩, hst, hsa, ?_, ha.los, ha.loj, ha.log, ha.apg, fun k e => ?_, fun k e => ?_⟩, hok⟩
  · rw [e1, e2, e3]; exact ha.slot.keeps hk (fun hs => (hS1 _ hs).2.1 rfl)
  · rw [e1]; exact hself
  · rw [e5]; exact ha.note.keeps' hk (fun hn k e hs => hn ((hS1 k hs).2.2.2 e))
  · have h3' := h3 k e
    rcases h1 k e with e' | e'
    · have := ha.aps k e'; exact ⟨this.1, this.2.1, this.2.2.1, this.2.2.2.1, h3', by rw [e5]; exact this.2.2.2.2.2⟩
    · have := ha.new hl e'; exact ⟨this.1, this.2.1, this.2.2.1, this.2.2.2.1, h3', by rw [e5]; exact this.2.2.2.2.2.2⟩
  · rcases h2 k e with e' | e'
    · have := ha.apa k e'; rw [e5]; exact this
    · have := ha.new hl e'; exact ⟨this.1, this.2.1, this.2.2.1, this.2.2.2.1, by rw [e5]; exact this.2.2.2.2.2.2⟩
/-- one of its own numbers or marks is written -/
theorem JB.updCell {w0 w : World} {A : JAd} {d : Dev} {m m' : JM} {c c' : Nat} (h : JB w0 w A d m c) (hc : c ≤ c') (o : Nat) (v : Value)
    (hself : (#[.pointer (some ⟨A.p, 0, none⟩), .int .i64 m.at_, .int .i64 m.n, .pointer (some ⟨A.s, 0, none⟩), .int .i64 m.gen, .map (some A.mg), A.vs, .int .i64 m.base, A.va, .int .i64 m.first, .int .i64 m.flushed, .int .i64 m.booked, A.vn, .bool m.dead] : Array Value).setIfInBounds o v = #[.pointer (some ⟨A.p, 0, none⟩), .int .i64 m.at_, .int .i64 m'.n, .pointer (some ⟨A.s, 0, none⟩), .int .i64 m'.gen, .map (some A.mg), A.vs, .int .i64 m'.base, A.va, .int .i64 m'.first, .int .i64 m'.flushed, .int .i64 m'.booked, A.vn, .bool m'.dead])
    (e1 : m'.at_ = m.at_) (e2 : m'.num = m.num) (e3 : m'.sdead = m.sdead) (e4 : m'.gens = m.gens) (e5 : m'.note = m.note) (e6 : m'.stream = m.stream) (e7 : m'.starts = m.starts) (hok : m'.Ok d c') : JB w0 (w.setCell ⟨A.j, o, none⟩ v) A d m' c' := by
  have hk : Keeps (· = A.j) w (w.setCell ⟨A.j, o, none⟩ v) := Keeps.cellAt (S := (· = A.j)) rfl v
  refine h.upd hc hk (fun k e => .inl e) A.vs A.va (by rw [heap_setCell _ _ _ _ _ _ _ h.at_.self, hself]) ?_ ?_ (fun k e => .inl e) (fun k e => .inl e) (fun k e => (h.at_.aps k e).2.2.2.2.1) e1 e2 e3 e4 e5 hok
  · rw [e6]; exact h.at_.stream.block_keeps hk (fun k e => (h.at_.aps k e).2.2.1)
  · rw [e7]; exact h.at_.starts.block_keeps hk (fun k e => (h.at_.apa k e).2.2.1)
section
variable {w : World} {B : Nat} {A : JAd} {m : JM} {d : Dev} {c : Nat} (h : JAt w B A m)
include h
theorem JAt.vsForm : ∃ q cap, A.vs = .slice q m.stream.length cap ∧ m.stream.length ≤ cap ∧ cap ≤ maxLen := by
  obtain ⟨q, cap, e, h1, h2⟩ := h.stream.form
  rw [bytesV_len] at e h1
  exact ⟨q, cap, e, h1, h2⟩
theorem JAt.vaForm : ∃ q cap, A.va = .slice q (m.recs.length + 1) cap ∧ m.recs.length + 1 ≤ cap ∧ cap ≤ maxLen := by
  obtain ⟨q, cap, e, h1, h2⟩ := h.starts.form
  have e1 : (intsV m.starts).length = m.recs.length + 1 := by rw [intsV_len, JM.starts, startsOf_len]
  rw [e1] at e h1
  exact ⟨q, cap, e, h1, h2⟩
theorem jdead_any : Calls Try.prog 41 #[.pointer (some ⟨A.j, 0, none⟩)] w fun e w' => e = .returned (.bool m.dead) ∧ w = w' := by
  have c13 := h.cells.c13
  clear h
  go_enter Try.func41, Try.ntmps41
  go_wp2
  go_ret
  exact ⟨rfl, rfl⟩
theorem jbooked_any : Calls Try.prog 44 #[.pointer (some ⟨A.j, 0, none⟩)] w fun e w' => e = .returned (.int .i64 m.booked) ∧ w = w' := by
  have c13 := h.cells.c11
  clear h
  go_enter Try.func44, Try.ntmps44
  go_wp2
  go_ret
  exact ⟨rfl, rfl⟩
theorem jfirst_any : Calls Try.prog 16 #[.pointer (some ⟨A.j, 0, none⟩)] w fun e w' => e = .returned (.int .i64 m.first) ∧ w = w' := by
  have c13 := h.cells.c9
  clear h
  go_enter Try.func16, Try.ntmps16
  go_wp2
  go_ret
  exact ⟨rfl, rfl⟩
theorem jfree_any (hok : m.Ok d c) : Calls Try.prog 13 #[.pointer (some ⟨A.j, 0, none⟩)] w fun e w' => e = .returned (.int .i64 m.free) ∧ Below w.heap.size w w' := by
  obtain ⟨q, cap, e, h1, h2⟩ := h.vsForm
  have c2 := h.cells.c2
  have c6 := h.cells.c6
  rw [e] at c6
  have n1 := hok.n1
  have n2 := hok.n2
  have rm := hok.room
  have HF : Hid (m.free = m.n * 470 - m.stream.length) := Lib.hid rfl
  clear h hok e
  go_enter Try.func13, Try.ntmps13
  go_wp2_with fail
  go_quiet (fail)
  go_wp2
  go_ret
  exact ⟨by rw [HF.out]; rfl, below_drewN (Below.refl _ _) _⟩
theorem jnext_any (hok : m.Ok d c) (hc : c ≤ 100000000) : Calls Try.prog 15 #[.pointer (some ⟨A.j, 0, none⟩)] w fun e w' => e = .returned (.int .i64 m.next) ∧ Below w.heap.size w w' := by
  obtain ⟨q, cap, e, h1, h2⟩ := h.vaForm
  have c9 := h.cells.c9
  have c8 := h.cells.c8
  rw [e] at c8
  have n1 := hok.f1
  have n2 := hok.f2
  have HF : Hid (m.next = m.first + m.recs.length) := Lib.hid rfl
  unfold JM.next at n2
  clear h hok e
  go_enter Try.func15, Try.ntmps15
  go_wp2_with fail
  go_quiet (fail)
  go_wp2
  go_ret
  exact ⟨by rw [HF.out]; exact ret_int (by omega), below_drewN (Below.refl _ _) _⟩
theorem jflushed_any (hok : m.Ok d c) (hc : c ≤ 100000000) : Calls Try.prog 42 #[.pointer (some ⟨A.j, 0, none⟩)] w fun e w' => e = .returned (.int .i64 (m.first + m.flushed)) ∧ Below w.heap.size w w' := by
  have c9 := h.cells.c9
  have c10 := h.cells.c10
  have n1 := hok.f1
  have n2 := hok.f2
  have n3 := hok.fl
  unfold JM.next at n2
  clear h hok
  go_enter Try.func42, Try.ntmps42
  go_wp2_with fail
  go_quiet (fail)
  go_wp2
  go_ret
  exact ⟨rfl, below_drewN (Below.refl _ _) _⟩
end
theorem jend_any {w : World} {j : Nat} {base : Int} {q : Option Addr} {n cap : Nat} (c7 : w.cell? ⟨j, 7, none⟩ = some (.int .i64 base)) (c6 : w.cell? ⟨j, 6, none⟩ = some (.slice q n cap)) (h0 : 0 ≤ base) (h1 : base * 470 + n ≤ 1000000000000) :
    Calls Try.prog 77 #[.pointer (some ⟨j, 0, none⟩)] w fun e w' => e = .returned (.int .i64 (base * 470 + n)) ∧ Below w.heap.size w w' := by
  go_enter Try.func77, Try.ntmps77
  go_wp2_with fail
  go_quiet (fail)
  go_wp2
  go_ret
  exact ⟨rfl, below_drewN (Below.refl _ _) _⟩
end Go.Proofs.Ytbaphjnglkocpaa
