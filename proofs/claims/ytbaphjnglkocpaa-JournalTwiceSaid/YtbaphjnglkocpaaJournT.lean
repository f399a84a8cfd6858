import Derived.Test.YtbaphjnglkocpaaJournI
/-
  A journal that is being opened: its cells as they are, whatever they say; how they lie in memory.
-/
namespace Go.Proofs.Ytbaphjnglkocpaa
open Go.RowKit
structure RM where
  at_ : Int
  n : Int
  gen : Int
  gens : Int → Int
  stream : List UInt8
  base : Int
  starts : List Int
  first : Int
  flushed : Int
  booked : Int
  note : List UInt8
  dead : Bool
  num : Int
  sdead : Bool
def JM.raw (m : JM) : RM := ⟨m.at_, m.n, m.gen, m.gens, m.stream, m.base, m.starts, m.first, m.flushed, m.booked, m.note, m.dead, m.num, m.sdead⟩
/-- the journal in memory, but for its device -/
structure RAt (w : World) (B : Nat) (A : JAd) (m : RM) : Prop where
  slot : SlotW w A.s A.p m.at_ m.num m.sdead
  self : w.heap[A.j]? = some (.cells #[.pointer (some ⟨A.p, 0, none⟩), .int .i64 m.at_, .int .i64 m.n, .pointer (some ⟨A.s, 0, none⟩), .int .i64 m.gen, .map (some A.mg), A.vs, .int .i64 m.base, A.va, .int .i64 m.first, .int .i64 m.flushed, .int .i64 m.booked, A.vn, .bool m.dead] 93 (0, 0))
  gens : ∃ l : List (Int × Int), IMap w A.mg (enc (fun n => .int .i64 n) l) ∧ ∀ k, (aget l k).getD 0 = m.gens k
  stream : SubRow w B A.vs (bytesV m.stream)
  starts : SubRow w B A.va (intsV m.starts)
  note : Bytes w A.vn m.note
  los : B ≤ A.s
  loj : B ≤ A.j
  log : B ≤ A.mg
  apg : ¬ DFoot A.p A.mn A.ms A.mc A.mg
  aps : ∀ k, A.vs.ownBlock = some k → ¬ DFoot A.p A.mn A.ms A.mc k ∧ k ≠ A.s ∧ k ≠ A.j ∧ k ≠ A.mg ∧ A.va.ownBlock ≠ some k ∧ (A.vn.ownBlock = some k → m.note = [])
  apa : ∀ k, A.va.ownBlock = some k → ¬ DFoot A.p A.mn A.ms A.mc k ∧ k ≠ A.s ∧ k ≠ A.j ∧ k ≠ A.mg ∧ (A.vn.ownBlock = some k → m.note = [])
theorem RAt.toJ {w : World} {B : Nat} {A : JAd} {r : RM} {m : JM} (h : RAt w B A r) (e : r = m.raw) : JAt w B A m := by
  subst e; exact ⟨h.slot, h.self, h.gens, h.stream, h.starts, h.note, h.los, h.loj, h.log, h.apg, h.aps, h.apa⟩
structure RB (w0 w : World) (A : JAd) (d : Dev) (m : RM) (c : Nat) : Prop where
  db : DB w0 w A.p A.mn A.ms A.mc d c
  at_ : RAt w w0.heap.size A m
/-- the cells of a journal, for a walk -/
structure RCells (w : World) (A : JAd) (m : RM) : Prop where
  c0 : w.cell? ⟨A.j, 0, none⟩ = some (.pointer (some ⟨A.p, 0, none⟩))
  c1 : w.cell? ⟨A.j, 1, none⟩ = some (.int .i64 m.at_)
  c2 : w.cell? ⟨A.j, 2, none⟩ = some (.int .i64 m.n)
  c3 : w.cell? ⟨A.j, 3, none⟩ = some (.pointer (some ⟨A.s, 0, none⟩))
  c4 : w.cell? ⟨A.j, 4, none⟩ = some (.int .i64 m.gen)
  c5 : w.cell? ⟨A.j, 5, none⟩ = some (.map (some A.mg))
  c6 : w.cell? ⟨A.j, 6, none⟩ = some A.vs
  c7 : w.cell? ⟨A.j, 7, none⟩ = some (.int .i64 m.base)
  c8 : w.cell? ⟨A.j, 8, none⟩ = some A.va
  c9 : w.cell? ⟨A.j, 9, none⟩ = some (.int .i64 m.first)
  c10 : w.cell? ⟨A.j, 10, none⟩ = some (.int .i64 m.flushed)
  c11 : w.cell? ⟨A.j, 11, none⟩ = some (.int .i64 m.booked)
  c12 : w.cell? ⟨A.j, 12, none⟩ = some A.vn
  c13 : w.cell? ⟨A.j, 13, none⟩ = some (.bool m.dead)
section
variable {w w' : World} {B : Nat} {A : JAd} {m : RM}
theorem RAt.cells (h : RAt w B A m) : RCells w A m :=
  ⟨cell_in h.self rfl, cell_in h.self rfl, cell_in h.self rfl, cell_in h.self rfl, cell_in h.self rfl, cell_in h.self rfl, cell_in h.self rfl, cell_in h.self rfl, cell_in h.self rfl, cell_in h.self rfl, cell_in h.self rfl, cell_in h.self rfl, cell_in h.self rfl, cell_in h.self rfl⟩
theorem RAt.free (h : RAt w B A m) (o : Nat) : w.frozen? ⟨A.j, o, none⟩ = false := free_in h.self
theorem RAt.ltj (h : RAt w B A m) : A.j < w.heap.size := lt_of h.self
theorem RAt.js (h : RAt w B A m) : A.j ≠ A.s := by
  obtain ⟨q, l, c, h1⟩ := h.slot
  intro e
  have := h.self
  rw [e, h1] at this; simp at this
theorem RAt.jg (h : RAt w B A m) : A.j ≠ A.mg := by
  obtain ⟨l, ⟨_, _, a1, _⟩, _⟩ := h.gens
  intro e
  have := h.self
  rw [e, a1] at this; cases this
theorem RAt.sg (h : RAt w B A m) : A.s ≠ A.mg := by
  obtain ⟨l, ⟨_, _, a1, _⟩, _⟩ := h.gens
  obtain ⟨q, k, c, h1⟩ := h.slot
  intro e
  rw [e, a1] at h1; cases h1
theorem RAt.jd {mn' ms' mc' : Nat} {d : Dev} (h : RAt w B A m) (hd : DevAt w A.p mn' ms' mc' d) : ¬ DFoot A.p mn' ms' mc' A.j := cells_not_dev h.self hd (by simp)
theorem RAt.sd {d : Dev} (h : RAt w B A m) (hd : DevAt w A.p A.mn A.ms A.mc d) : ¬ DFoot A.p A.mn A.ms A.mc A.s := h.slot.not_dev hd
/-- no byte of any row lies in the journal's own cells -/
theorem RAt.notej (h : RAt w B A m) (hn : m.note ≠ []) (k : Nat) (hk : A.vn.ownBlock = some k) : k ≠ A.j ∧ k ≠ A.s ∧ k ≠ A.mg := by
  obtain ⟨q, cap, e, h1, _, h3⟩ := h.note
  obtain ⟨b, l, hl⟩ := List.exists_cons_of_ne_nil hn
  obtain ⟨a, rfl, hc⟩ := h3 0 b (by rw [hl]; rfl)
  rw [show a.add 0 = a from by simp [Addr.add]] at hc
  rw [e] at hk
  have hk' : a.block = k := by
    obtain ⟨b1, o1, s1⟩ := a
    have := spot_none hc
    simp only [] at this
    subst this
    simpa [Value.ownBlock] using hk
  subst hk'
  obtain ⟨l2, ⟨_, _, a2, _⟩, _⟩ := h.gens
  have hvs : ∃ q l c, A.vs = .slice q l c := by obtain ⟨q, c, e, _⟩ := h.stream.form; exact ⟨_, _, _, e⟩
  have hva : ∃ q l c, A.va = .slice q l c := by obtain ⟨q, c, e, _⟩ := h.starts.form; exact ⟨_, _, _, e⟩
  obtain ⟨q1, l1, c1, e1⟩ := hvs
  obtain ⟨q2, l3, c2, e2⟩ := hva
  refine ⟨fun e' => ?_, h.slot.no_byte hc, fun e' => ?_⟩
  · have hs := h.self
    rw [e1, e2, e] at hs
    exact cells_byte hc (e' ▸ hs) (by simp)
  · unfold World.cell? at hc; rw [e', a2] at hc; simp at hc
/-- what touches none of its blocks leaves it alone -/
theorem RAt.keeps {S : Nat → Prop} (h : RAt w B A m) (hk : Keeps S w w') (h1 : ¬ S A.s) (h2 : ¬ S A.j) (h3 : ¬ S A.mg) (h4 : ∀ k, A.vs.ownBlock = some k → ¬ S k) (h5 : ∀ k, A.va.ownBlock = some k → ¬ S k) (h6 : m.note ≠ [] → ∀ k, A.vn.ownBlock = some k → ¬ S k) : RAt w' B A m := by
  obtain ⟨l, a1, a2⟩ := h.gens
  exact ⟨h.slot.keeps hk h1, hk.at h.self h2, ⟨l, a1.keeps hk h3, a2⟩, h.stream.block_keeps hk h4, h.starts.block_keeps hk h5, h.note.keeps' hk h6, h.los, h.loj, h.log, h.apg, h.aps, h.apa⟩
theorem RAt.below (h : RAt w B A m) (hb : Below w.heap.size w w') : RAt w' B A m :=
  h.keeps (S := fun _ => False) (Keeps.of_below hb) (fun e => e) (fun e => e) (fun e => e) (fun _ _ e => e) (fun _ _ e => e) (fun _ _ _ e => e)
/-- the device's own steps leave it alone -/
theorem RAt.dev {d : Dev} (h : RAt w B A m) (hd : DevAt w A.p A.mn A.ms A.mc d) (hk : Keeps (DFoot A.p A.mn A.ms A.mc) w w') : RAt w' B A m := by
  obtain ⟨l, a1, a2⟩ := h.gens
  exact ⟨h.slot.dev hd hk, hk.at h.self (h.jd hd), ⟨l, a1.keeps hk h.apg, a2⟩, h.stream.block_keeps hk (fun k e => (h.aps k e).1), h.starts.block_keeps hk (fun k e => (h.apa k e).1), hd.bytes h.note hk, h.los, h.loj, h.log, h.apg, h.aps, h.apa⟩
end
theorem RB.below {w0 w w' : World} {A : JAd} {d : Dev} {m : RM} {c : Nat} (h : RB w0 w A d m c) (hb : Below w.heap.size w w') : RB w0 w' A d m c := ⟨h.db.below hb, h.at_.below hb⟩
theorem RAt.new {w : World} {B : Nat} {A : JAd} {m : RM} {d : Dev} (h : RAt w B A m) (hd : DevAt w A.p A.mn A.ms A.mc d) {k : Nat} (hk : w.heap.size ≤ k) :
    ¬ DFoot A.p A.mn A.ms A.mc k ∧ k ≠ A.s ∧ k ≠ A.j ∧ k ≠ A.mg ∧ A.vs.ownBlock ≠ some k ∧ A.va.ownBlock ≠ some k ∧ (A.vn.ownBlock = some k → m.note = []) := by
  obtain ⟨l, a1, _⟩ := h.gens
  refine ⟨fun e => ?_, fun e => ?_, fun e => ?_, fun e => ?_, fun e => ?_, fun e => ?_, fun e => ?_⟩
  · have := hd.lt k e; omega
  · have := h.slot.lt; omega
  · have := h.ltj; omega
  · have := a1.lt; omega
  · have := (h.stream.lt k e).2; omega
  · have := (h.starts.lt k e).2; omega
  · by_cases hn : m.note = []
    · exact hn
    · exfalso
      obtain ⟨q, cap, e2, _, _, h3⟩ := h.note
      obtain ⟨b, l, hl⟩ := List.exists_cons_of_ne_nil hn
      obtain ⟨a, rfl, hc⟩ := h3 0 b (by rw [hl]; rfl)
      rw [show a.add 0 = a from by simp [Addr.add]] at hc
      have := World.block_lt_of_cell? w a hc
      rw [e2] at e
      obtain ⟨b1, o1, s1⟩ := a
      have hs := spot_none hc
      simp only [] at hs
      subst hs
      simp [Value.ownBlock] at e
      simp only [] at this
      omega
/-- its own cells, its stream and its starts are written -/
theorem RB.upd {S : Nat → Prop} {w0 w w' : World} {A : JAd} {d : Dev} {m m' : RM} {c : Nat} (h : RB w0 w A d m c) (hk : Keeps S w w') (hS : ∀ k, S k → k = A.j ∨ A.vs.ownBlock = some k ∨ A.va.ownBlock = some k)
    (vs va : Value)
    (hself : w'.heap[A.j]? = some (.cells #[.pointer (some ⟨A.p, 0, none⟩), .int .i64 m.at_, .int .i64 m'.n, .pointer (some ⟨A.s, 0, none⟩), .int .i64 m'.gen, .map (some A.mg), vs, .int .i64 m'.base, va, .int .i64 m'.first, .int .i64 m'.flushed, .int .i64 m'.booked, A.vn, .bool m'.dead] 93 (0, 0)))
    (hst : SubRow w' w0.heap.size vs (bytesV m'.stream)) (hsa : SubRow w' w0.heap.size va (intsV m'.starts)) (h1 : ∀ k, vs.ownBlock = some k → A.vs.ownBlock = some k ∨ w.heap.size ≤ k) (h2 : ∀ k, va.ownBlock = some k → A.va.ownBlock = some k ∨ w.heap.size ≤ k) (h3 : ∀ k, vs.ownBlock = some k → va.ownBlock ≠ some k)
    (e1 : m'.at_ = m.at_) (e2 : m'.num = m.num) (e3 : m'.sdead = m.sdead) (e4 : m'.gens = m.gens) (e5 : m'.note = m.note) : RB w0 w' { A with vs := vs, va := va } d m' c := by
  have ha := h.at_
  have hl := h.db.lay
  have hS1 : ∀ k, S k → ¬ DFoot A.p A.mn A.ms A.mc k ∧ k ≠ A.s ∧ k ≠ A.mg ∧ (A.vn.ownBlock = some k → m.note = []) := fun k hk => by
    rcases hS k hk with rfl | e | e
    · exact ⟨ha.jd hl, ha.js, ha.jg, fun e => by
        by_cases hn : m.note = []
        · exact hn
        · exact absurd rfl (ha.notej hn _ e).1⟩
    · have := ha.aps k e; exact ⟨this.1, this.2.1, this.2.2.2.1, this.2.2.2.2.2⟩
    · have := ha.apa k e; exact ⟨this.1, this.2.1, this.2.2.2.1, this.2.2.2.2⟩
  have hSl : ∀ k, S k → w0.heap.size ≤ k := fun k hk => by
    rcases hS k hk with rfl | e | e
    · exact ha.loj
    · exact (ha.stream.lt k e).1
    · exact (ha.starts.lt k e).1
  obtain ⟨l, a1, a2⟩ := ha.gens
  refine ⟨h.db.other hk (fun k hf hs => (hS1 k hs).1 hf) hSl, ⟨?_, ?_, ⟨l, a1.keeps hk (fun hs => (hS1 _ hs).2.2.1 rfl), by rw [e4]; exact a2⟩, hst, hsa, ?_, ha.los, ha.loj, ha.log, ha.apg, fun k e => ?_, fun k e => ?_⟩⟩
  · rw [e1, e2, e3]; exact ha.slot.keeps hk (fun hs => (hS1 _ hs).2.1 rfl)
  · rw [e1]; exact hself
  · rw [e5]; exact ha.note.keeps' hk (fun hn k e hs => hn ((hS1 k hs).2.2.2 e))
  · have h3' := h3 k e
    rcases h1 k e with e' | e'
    · have := ha.aps k e'; exact ⟨this.1, this.2.1, this.2.2.1, this.2.2.2.1, h3', by rw [e5]; exact this.2.2.2.2.2⟩
    · have := ha.new hl e'; exact ⟨this.1, this.2.1, this.2.2.1, this.2.2.2.1, h3', by rw [e5]; exact this.2.2.2.2.2.2⟩
  · rcases h2 k e with e' | e'
    · have := ha.apa k e'; rw [e5]; exact this
    · have := ha.new hl e'; exact ⟨this.1, this.2.1, this.2.2.1, this.2.2.2.1, by rw [e5]; exact this.2.2.2.2.2.2⟩
/-- one of its own numbers or marks is written -/
theorem RB.updCell {w0 w : World} {A : JAd} {d : Dev} {m m' : RM} {c : Nat} (h : RB w0 w A d m c) (o : Nat) (v : Value)
    (hself : (#[.pointer (some ⟨A.p, 0, none⟩), .int .i64 m.at_, .int .i64 m.n, .pointer (some ⟨A.s, 0, none⟩), .int .i64 m.gen, .map (some A.mg), A.vs, .int .i64 m.base, A.va, .int .i64 m.first, .int .i64 m.flushed, .int .i64 m.booked, A.vn, .bool m.dead] : Array Value).setIfInBounds o v = #[.pointer (some ⟨A.p, 0, none⟩), .int .i64 m.at_, .int .i64 m'.n, .pointer (some ⟨A.s, 0, none⟩), .int .i64 m'.gen, .map (some A.mg), A.vs, .int .i64 m'.base, A.va, .int .i64 m'.first, .int .i64 m'.flushed, .int .i64 m'.booked, A.vn, .bool m'.dead])
    (e1 : m'.at_ = m.at_) (e2 : m'.num = m.num) (e3 : m'.sdead = m.sdead) (e4 : m'.gens = m.gens) (e5 : m'.note = m.note) (e6 : m'.stream = m.stream) (e7 : m'.starts = m.starts) : RB w0 (w.setCell ⟨A.j, o, none⟩ v) A d m' c := by
  have hk : Keeps (· = A.j) w (w.setCell ⟨A.j, o, none⟩ v) := Keeps.cellAt (S := (· = A.j)) rfl v
  refine h.upd hk (fun k e => .inl e) A.vs A.va (by rw [heap_setCell _ _ _ _ _ _ _ h.at_.self, hself]) ?_ ?_ (fun k e => .inl e) (fun k e => .inl e) (fun k e => (h.at_.aps k e).2.2.2.2.1) e1 e2 e3 e4 e5
  · rw [e6]; exact h.at_.stream.block_keeps hk (fun k e => (h.at_.aps k e).2.2.1)
  · rw [e7]; exact h.at_.starts.block_keeps hk (fun k e => (h.at_.apa k e).2.2.1)
theorem RB.gens {w0 w w' : World} {A : JAd} {d : Dev} {m : RM} {c : Nat} (h : RB w0 w A d m c) {l : List (Int × Int)} {g : Int → Int} (hm : IMap w' A.mg (enc (fun n => .int .i64 n) l)) (hl : ∀ k, (aget l k).getD 0 = g k) (hk : Keeps (· = A.mg) w w') : RB w0 w' A d { m with gens := g } c := by
  have ha := h.at_
  refine ⟨h.db.other hk (fun k hf e => ha.apg (e ▸ hf)) (fun k e => e ▸ ha.log), ⟨?_, ?_, ⟨l, hm, hl⟩, ?_, ?_, ?_, ha.los, ha.loj, ha.log, ha.apg, ha.aps, ha.apa⟩⟩
  · exact ha.slot.keeps hk (fun e => ha.sg e)
  · exact hk.at ha.self (fun e => ha.jg e)
  · exact ha.stream.block_keeps hk (fun k e e' => (ha.aps k e).2.2.2.1 e')
  · exact ha.starts.block_keeps hk (fun k e e' => (ha.apa k e).2.2.2.1 e')
  · exact ha.note.keeps' hk (fun hn k e e' => (ha.notej hn k e).2.2 e')
theorem RB.look {w0 w : World} {A : JAd} {d : Dev} {m : RM} {c : Nat} (h : RB w0 w A d m c) (k : Int) : (Instr.lookup 91 (.map (some A.mg)) (.int .i64 k) false).run Try.prog w = .ok (.int .i64 (m.gens k)) w := by
  obtain ⟨l, a1, a2⟩ := h.at_.gens
  have hr := run_lookup_im (P := Try.prog) (E := 3) Try.underlying91 Try.underlying3 a1 (.int .i64 0) (by kernel_rfl) k false
  rw [hr, enc_get]
  have := a2 k
  cases hx : aget l k with
  | none => rw [hx] at this; simp at this ⊢; exact this
  | some x => rw [hx] at this; simp at this ⊢; exact this
end Go.Proofs.Ytbaphjnglkocpaa
