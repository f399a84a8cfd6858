import Derived.Test.YtbaphjnglkocpaaJournC
import Derived.Test.YtbaphjnglkocpaaSlotW
/-
  The journal: what it is; how it lies in memory.
-/
namespace Go.Proofs.Ytbaphjnglkocpaa
open Go.RowKit
def intsV (l : List Int) : List Value := l.map (Value.int .i64)
theorem intsV_len (l : List Int) : (intsV l).length = l.length := List.length_map _
theorem intsV_at {l : List Int} {i : Nat} {x : Int} (h : l[i]? = some x) : (intsV l)[i]? = some (.int .i64 x) := by unfold intsV; rw [List.getElem?_map, h]; rfl
/-- a record as it stands in the stream -/
def recB (r : List UInt8) : List UInt8 := UInt8.ofNat (r.length / 256) :: UInt8.ofNat r.length :: r
theorem recB_len (r : List UInt8) : (recB r).length = r.length + 2 := rfl
def recsB (l : List (List UInt8)) : List UInt8 := l.flatMap recB
theorem recsB_app (a b : List (List UInt8)) : recsB (a ++ b) = recsB a ++ recsB b := by unfold recsB; rw [List.flatMap_append]
theorem recsB_one (r : List UInt8) : recsB [r] = recB r := by unfold recsB; simp
def startsOf : Int → List (List UInt8) → List Int
  | s, [] => [s]
  | s, r :: l => s :: startsOf (s + 2 + r.length) l
theorem startsOf_len (s : Int) (l : List (List UInt8)) : (startsOf s l).length = l.length + 1 := by
  induction l generalizing s with
  | nil => rfl
  | cons r l ih => rw [startsOf, List.length_cons, ih]; rfl
theorem startsOf_at (s : Int) (l : List (List UInt8)) (k : Nat) (hk : k ≤ l.length) : (startsOf s l)[k]? = some (s + (recsB (l.take k)).length) := by
  induction l generalizing s k with
  | nil =>
    obtain rfl : k = 0 := by simpa using hk
    simp [startsOf, recsB]
  | cons r l ih =>
    cases k with
    | zero => simp [startsOf, recsB]
    | succ k =>
      rw [startsOf, List.getElem?_cons_succ, ih _ _ (by simpa using hk)]
      congr 1
      rw [List.take_succ_cons, show recsB (r :: l.take k) = recB r ++ recsB (l.take k) from rfl, List.length_append, recB_len]
      omega
theorem startsOf_app (s : Int) (l : List (List UInt8)) (r : List UInt8) : startsOf s (l ++ [r]) = startsOf s l ++ [s + (recsB l).length + 2 + r.length] := by
  induction l generalizing s with
  | nil => simp [startsOf, recsB]
  | cons x l ih =>
    rw [List.cons_append, startsOf, ih, startsOf, List.cons_append]
    congr 3
    rw [show recsB (x :: l) = recB x ++ recsB l from rfl, List.length_append, recB_len]
    congr 1
    omega
structure JM where
  at_ : Int
  n : Int
  gen : Int
  gens : Int → Int
  base : Int
  pre : List UInt8
  recs : List (List UInt8)
  first : Int
  flushed : Nat
  booked : Int
  note : List UInt8
  dead : Bool
  num : Int
  sdead : Bool
def JM.stream (m : JM) : List UInt8 := m.pre ++ recsB m.recs
def JM.start (m : JM) : Int := m.base * 470 + m.pre.length
def JM.starts (m : JM) : List Int := startsOf m.start m.recs
def JM.next (m : JM) : Int := m.first + m.recs.length
def JM.fin (m : JM) : Int := m.base * 470 + m.stream.length
def JM.free (m : JM) : Int := m.n * 470 - m.stream.length
/-- within bounds; c: how many calls there were, at most -/
structure JM.Ok (m : JM) (d : Dev) (c : Nat) : Prop where
  n1 : 2 ≤ m.n
  n2 : m.n ≤ 2048
  a1 : 0 ≤ m.at_
  a2 : m.at_ + 2 + m.n ≤ d.size
  b1 : 0 ≤ m.base
  b2 : m.fin ≤ 5000 * (c : Int)
  p1 : m.pre.length < 470
  rs : ∀ r ∈ m.recs, 1 ≤ r.length ∧ r.length ≤ 4096
  room : (m.stream.length : Int) ≤ m.n * 470
  f1 : 1 ≤ m.first
  f2 : m.next ≤ (c : Int) + 1
  fl : m.flushed ≤ m.recs.length
  k1 : 0 ≤ m.booked
  k2 : m.booked ≤ m.n * 470
  nt : m.note.length ≤ 400
  nm1 : 1 ≤ m.num
  nm2 : m.num ≤ (c : Int) + 1
  g1 : 1 ≤ m.gen
  g2 : m.gen ≤ (c : Int) + 1
  gs : ∀ k, 0 ≤ m.gens k ∧ m.gens k ≤ (c : Int) + 1
structure JAd where
  p : Nat
  mn : Nat
  ms : Nat
  mc : Nat
  s : Nat
  j : Nat
  mg : Nat
  vs : Value
  va : Value
  vn : Value
def JAd.Foot (A : JAd) (k : Nat) : Prop := DFoot A.p A.mn A.ms A.mc k ∨ k = A.s ∨ k = A.j ∨ k = A.mg ∨ A.vs.ownBlock = some k ∨ A.va.ownBlock = some k
/-- the journal in memory, but for its device -/
structure JAt (w : World) (B : Nat) (A : JAd) (m : JM) : Prop where
  slot : SlotW w A.s A.p m.at_ m.num m.sdead
  self : w.heap[A.j]? = some (.cells #[.pointer (some ⟨A.p, 0, none⟩), .int .i64 m.at_, .int .i64 m.n, .pointer (some ⟨A.s, 0, none⟩), .int .i64 m.gen, .map (some A.mg), A.vs, .int .i64 m.base, A.va, .int .i64 m.first, .int .i64 m.flushed, .int .i64 m.booked, A.vn, .bool m.dead] 93 (0, 0))
  gens : ∃ l : List (Int × Int), IMap w A.mg (enc (fun n => .int .i64 n) l) ∧ ∀ k, (aget l k).getD 0 = m.gens k
  stream : SubRow w B A.vs (bytesV m.stream)
  starts : SubRow w B A.va (intsV m.starts)
  note : Bytes w A.vn m.note
  los : B ≤ A.s
  loj : B ≤ A.j
  log : B ≤ A.mg
  apg : ¬ DFoot A.p A.mn A.ms A.mc A.mg
  aps : ∀ k, A.vs.ownBlock = some k → ¬ DFoot A.p A.mn A.ms A.mc k ∧ k ≠ A.s ∧ k ≠ A.j ∧ k ≠ A.mg ∧ A.va.ownBlock ≠ some k ∧ (A.vn.ownBlock = some k → m.note = [])
  apa : ∀ k, A.va.ownBlock = some k → ¬ DFoot A.p A.mn A.ms A.mc k ∧ k ≠ A.s ∧ k ≠ A.j ∧ k ≠ A.mg ∧ (A.vn.ownBlock = some k → m.note = [])
structure JB (w0 w : World) (A : JAd) (d : Dev) (m : JM) (c : Nat) : Prop where
  db : DB w0 w A.p A.mn A.ms A.mc d c
  at_ : JAt w w0.heap.size A m
  ok : m.Ok d c
theorem Bytes.empty {w w' : World} {v : Value} (h : Bytes w v []) : Bytes w' v [] := by
  obtain ⟨q, c, e, h1, h2, _⟩ := h
  exact ⟨q, c, e, h1, h2, fun j b hb => by simp at hb⟩
theorem Bytes.keeps' {S : Nat → Prop} {w w' : World} {v : Value} {l : List UInt8} (h : Bytes w v l) (hk : Keeps S w w') (hs : l ≠ [] → ∀ k, v.ownBlock = some k → ¬ S k) : Bytes w' v l := by
  by_cases e : l = []
  · subst e; exact h.empty
  · exact h.keeps hk (hs e)
/-- the cells of a journal, for a walk -/
structure JCells (w : World) (A : JAd) (m : JM) : Prop where
  c0 : w.cell? ⟨A.j, 0, none⟩ = some (.pointer (some ⟨A.p, 0, none⟩))
  c1 : w.cell? ⟨A.j, 1, none⟩ = some (.int .i64 m.at_)
  c2 : w.cell? ⟨A.j, 2, none⟩ = some (.int .i64 m.n)
  c3 : w.cell? ⟨A.j, 3, none⟩ = some (.pointer (some ⟨A.s, 0, none⟩))
  c4 : w.cell? ⟨A.j, 4, none⟩ = some (.int .i64 m.gen)
  c5 : w.cell? ⟨A.j, 5, none⟩ = some (.map (some A.mg))
  c6 : w.cell? ⟨A.j, 6, none⟩ = some A.vs
  c7 : w.cell? ⟨A.j, 7, none⟩ = some (.int .i64 m.base)
  c8 : w.cell? ⟨A.j, 8, none⟩ = some A.va
  c9 : w.cell? ⟨A.j, 9, none⟩ = some (.int .i64 m.first)
  c10 : w.cell? ⟨A.j, 10, none⟩ = some (.int .i64 m.flushed)
  c11 : w.cell? ⟨A.j, 11, none⟩ = some (.int .i64 m.booked)
  c12 : w.cell? ⟨A.j, 12, none⟩ = some A.vn
  c13 : w.cell? ⟨A.j, 13, none⟩ = some (.bool m.dead)
section
variable {w w' : World} {B : Nat} {A : JAd} {m : JM}
theorem JAt.cells (h : JAt w B A m) : JCells w A m :=
  ⟨cell_in h.self rfl, cell_in h.self rfl, cell_in h.self rfl, cell_in h.self rfl, cell_in h.self rfl, cell_in h.self rfl, cell_in h.self rfl, cell_in h.self rfl, cell_in h.self rfl, cell_in h.self rfl, cell_in h.self rfl, cell_in h.self rfl, cell_in h.self rfl, cell_in h.self rfl⟩
theorem JAt.free (h : JAt w B A m) (o : Nat) : w.frozen? ⟨A.j, o, none⟩ = false := free_in h.self
theorem JAt.ltj (h : JAt w B A m) : A.j < w.heap.size := lt_of h.self
theorem JAt.js (h : JAt w B A m) : A.j ≠ A.s := by
  obtain ⟨q, l, c, h1⟩ := h.slot
  intro e
  have := h.self
  rw [e, h1] at this; simp at this
theorem JAt.jg (h : JAt w B A m) : A.j ≠ A.mg := by
  obtain ⟨l, ⟨_, _, a1, _⟩, _⟩ := h.gens
  intro e
  have := h.self
  rw [e, a1] at this; cases this
theorem JAt.sg (h : JAt w B A m) : A.s ≠ A.mg := by
  obtain ⟨l, ⟨_, _, a1, _⟩, _⟩ := h.gens
  obtain ⟨q, k, c, h1⟩ := h.slot
  intro e
  rw [e, a1] at h1; cases h1
theorem JAt.jd {mn' ms' mc' : Nat} {d : Dev} (h : JAt w B A m) (hd : DevAt w A.p mn' ms' mc' d) : ¬ DFoot A.p mn' ms' mc' A.j := cells_not_dev h.self hd (by simp)
theorem JAt.sd {d : Dev} (h : JAt w B A m) (hd : DevAt w A.p A.mn A.ms A.mc d) : ¬ DFoot A.p A.mn A.ms A.mc A.s := h.slot.not_dev hd
/-- no byte of any row lies in the journal's own cells -/
theorem JAt.notej (h : JAt w B A m) (hn : m.note ≠ []) (k : Nat) (hk : A.vn.ownBlock = some k) : k ≠ A.j ∧ k ≠ A.s ∧ k ≠ A.mg := by
  obtain ⟨q, cap, e, h1, _, h3⟩ := h.note
  obtain ⟨b, l, hl⟩ := List.exists_cons_of_ne_nil hn
  obtain ⟨a, rfl, hc⟩ := h3 0 b (by rw [hl]; rfl)
  rw [show a.add 0 = a from by simp [Addr.add]] at hc
  rw [e] at hk
  have hk' : a.block = k := by
    obtain ⟨b1, o1, s1⟩ := a
    have := spot_none hc
    simp only [] at this
    subst this
    simpa [Value.ownBlock] using hk
  subst hk'
  obtain ⟨l2, ⟨_, _, a2, _⟩, _⟩ := h.gens
  have hvs : ∃ q l c, A.vs = .slice q l c := by obtain ⟨q, c, e, _⟩ := h.stream.form; exact ⟨_, _, _, e⟩
  have hva : ∃ q l c, A.va = .slice q l c := by obtain ⟨q, c, e, _⟩ := h.starts.form; exact ⟨_, _, _, e⟩
  obtain ⟨q1, l1, c1, e1⟩ := hvs
  obtain ⟨q2, l3, c2, e2⟩ := hva
  refine ⟨fun e' => ?_, h.slot.no_byte hc, fun e' => ?_⟩
  · have hs := h.self
    rw [e1, e2, e] at hs
    exact cells_byte hc (e' ▸ hs) (by simp)
  · unfold World.cell? at hc; rw [e', a2] at hc; simp at hc
/-- what touches none of its blocks leaves it alone -/
theorem JAt.keeps {S : Nat → Prop} (h : JAt w B A m) (hk : Keeps S w w') (h1 : ¬ S A.s) (h2 : ¬ S A.j) (h3 : ¬ S A.mg) (h4 : ∀ k, A.vs.ownBlock = some k → ¬ S k) (h5 : ∀ k, A.va.ownBlock = some k → ¬ S k) (h6 : m.note ≠ [] → ∀ k, A.vn.ownBlock = some k → ¬ S k) : JAt w' B A m := by
  obtain ⟨l, a1, a2⟩ := h.gens
  exact ⟨h.slot.keeps hk h1, hk.at h.self h2, ⟨l, a1.keeps hk h3, a2⟩, h.stream.block_keeps hk h4, h.starts.block_keeps hk h5, h.note.keeps' hk h6, h.los, h.loj, h.log, h.apg, h.aps, h.apa⟩
theorem JAt.below (h : JAt w B A m) (hb : Below w.heap.size w w') : JAt w' B A m :=
  h.keeps (S := fun _ => False) (Keeps.of_below hb) (fun e => e) (fun e => e) (fun e => e) (fun _ _ e => e) (fun _ _ e => e) (fun _ _ _ e => e)
/-- the device's own steps leave it alone -/
theorem JAt.dev {d : Dev} (h : JAt w B A m) (hd : DevAt w A.p A.mn A.ms A.mc d) (hk : Keeps (DFoot A.p A.mn A.ms A.mc) w w') : JAt w' B A m := by
  obtain ⟨l, a1, a2⟩ := h.gens
  exact ⟨h.slot.dev hd hk, hk.at h.self (h.jd hd), ⟨l, a1.keeps hk h.apg, a2⟩, h.stream.block_keeps hk (fun k e => (h.aps k e).1), h.starts.block_keeps hk (fun k e => (h.apa k e).1), hd.bytes h.note hk, h.los, h.loj, h.log, h.apg, h.aps, h.apa⟩
end
theorem JB.below {w0 w w' : World} {A : JAd} {d : Dev} {m : JM} {c : Nat} (h : JB w0 w A d m c) (hb : Below w.heap.size w w') : JB w0 w' A d m c := ⟨h.db.below hb, h.at_.below hb, h.ok⟩
theorem JB.drewN {w0 w : World} {A : JAd} {d : Dev} {m : JM} {c : Nat} (h : JB w0 w A d m c) (n : Nat) : JB w0 (w.drewN n) A d m c := h.below (below_drewN (Below.refl _ _) n)
theorem JM.Ok.more {m : JM} {d : Dev} {c c' : Nat} (h : m.Ok d c) (hc : c ≤ c') : m.Ok d c' :=
  { h with b2 := by have := h.b2; omega, f2 := by have := h.f2; omega, nm2 := by have := h.nm2; omega, g2 := by have := h.g2; omega, gs := fun k => ⟨(h.gs k).1, by have := (h.gs k).2; omega⟩ }
theorem JB.more {w0 w : World} {A : JAd} {d : Dev} {m : JM} {c c' : Nat} (h : JB w0 w A d m c) (hc : c ≤ c') : JB w0 w A d m c' := ⟨h.db.more hc, h.at_, h.ok.more hc⟩
theorem JB.low {w0 w : World} {A : JAd} {d : Dev} {m : JM} {c : Nat} (h : JB w0 w A d m c) (k : Nat) (hk : A.Foot k) : w0.heap.size ≤ k := by
  rcases hk with hk | rfl | rfl | rfl | hk | hk
  · exact h.db.low k hk
  · exact h.at_.los
  · exact h.at_.loj
  · exact h.at_.log
  · exact (h.at_.stream.lt k hk).1
  · exact (h.at_.starts.lt k hk).1
end Go.Proofs.Ytbaphjnglkocpaa
