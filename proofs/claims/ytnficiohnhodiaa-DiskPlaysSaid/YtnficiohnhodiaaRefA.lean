import Derived.Test.YtnficiohnhodiaaOwnB
import Derived.Test.YtnficiohnhodiaaGrow
/-
  The document's device (layer 1) in memory: the same device as the program's, kept in lists.
-/
namespace Go.Proofs.Ytnficiohnhodiaa
open Go.RowKit
/-- a list of rows of bytes: row i reads f i; none of its blocks is of S -/
def RowsAt (w : World) (B : Nat) (v : Value) (S : Nat → Prop) (f : Int → List UInt8) (size : Nat) : Prop :=
  ∃ rows : List Value, rows.length = size ∧ SubRow w B v rows ∧ ∀ (i : Nat) (x : Value), rows[i]? = some x → (∃ q c, x = .slice q (f i).length c) ∧ Bytes w x (f i) ∧ ∀ k, x.ownBlock = some k → ¬ S k
theorem RowsAt.keeps {T : Nat → Prop} {w w' : World} {B : Nat} {v : Value} {S : Nat → Prop} {f : Int → List UInt8} {size : Nat} (h : RowsAt w B v S f size) (hk : Keeps T w w') (h1 : ∀ k, v.ownBlock = some k → ¬ T k) (h2 : ∀ k, T k → S k) : RowsAt w' B v S f size := by
  obtain ⟨rows, hl, hs, hr⟩ := h
  exact ⟨rows, hl, hs.block_keeps hk h1, fun i x hx => ⟨(hr i x hx).1, (hr i x hx).2.1.keeps hk (fun k e e' => (hr i x hx).2.2 k e (h2 k e')), (hr i x hx).2.2⟩⟩
theorem RowsAt.below {w w' : World} {B : Nat} {v : Value} {S : Nat → Prop} {f : Int → List UInt8} {size : Nat} (h : RowsAt w B v S f size) (hb : Below w.heap.size w w') : RowsAt w' B v S f size :=
  h.keeps (T := fun _ => False) (Keeps.of_below hb) (fun _ _ e => e) (fun _ e => e.elim)
theorem RowsAt.congr {w : World} {B : Nat} {v : Value} {S : Nat → Prop} {f f' : Int → List UInt8} {size : Nat} (h : RowsAt w B v S f size) (e : ∀ i : Nat, i < size → f' i = f i) : RowsAt w B v S f' size := by
  obtain ⟨rows, hl, hs, hr⟩ := h
  exact ⟨rows, hl, hs, fun i x hx => by rw [e i (by have := (List.getElem?_eq_some_iff.1 hx).1; omega)]; exact hr i x hx⟩
theorem RowsAt.form {w : World} {B : Nat} {v : Value} {S : Nat → Prop} {f : Int → List UInt8} {size : Nat} (h : RowsAt w B v S f size) : ∃ q c, v = .slice q size c ∧ size ≤ c ∧ c ≤ maxLen := by
  obtain ⟨rows, hl, hs, hr⟩ := h
  obtain ⟨q, c, e, h1, h2⟩ := hs.form
  exact ⟨q, c, by rw [e, hl], by omega, h2⟩
/-- one row -/
theorem RowsAt.at {w : World} {B : Nat} {v : Value} {S : Nat → Prop} {f : Int → List UInt8} {size : Nat} (h : RowsAt w B v S f size) {i : Nat} (hi : i < size) : ∃ g o c q c2, v = .slice (some ⟨g, o, none⟩) size c ∧ w.cell? ⟨g, o + i, none⟩ = some (.slice q (f i).length c2) ∧ w.frozen? ⟨g, o + i, none⟩ = false ∧ Bytes w (.slice q (f i).length c2) (f i) ∧ (∀ k, (Value.slice q (f i).length c2).ownBlock = some k → ¬ S k) ∧ v.ownBlock = some g := by
  obtain ⟨rows, hl, hs, hr⟩ := h
  obtain ⟨x, hx⟩ : ∃ x, rows[i]? = some x := ⟨_, List.getElem?_eq_getElem (by omega)⟩
  obtain ⟨⟨q, c2, e⟩, h2, h3⟩ := hr i x hx
  subst e
  rcases hs with ⟨_, e0⟩ | ⟨g, o, c, e, k1, k2, k3, k4, k5, k6⟩
  · rw [e0] at hl; simp at hl; omega
  · subst e
    exact ⟨g, o, c, q, c2, by rw [hl], k6 i _ hx, (k5 i (by omega)).2, h2, h3, rfl⟩
/-- a row is put in its place -/
theorem RowsAt.set {w : World} {B g o n c : Nat} {S : Nat → Prop} {f : Int → List UInt8} {size : Nat} (h : RowsAt w B (.slice (some ⟨g, o, none⟩) n c) S f size) (hg : S g) {i : Nat} (hi : i < size) {q : Option Addr} {c2 : Nat} {l : List UInt8} (hx : Bytes w (.slice q l.length c2) l) (hS : ∀ k, (Value.slice q l.length c2).ownBlock = some k → ¬ S k) :
    RowsAt (w.setCell ⟨g, o + i, none⟩ (.slice q l.length c2)) B (.slice (some ⟨g, o, none⟩) n c) S (fun j => if j = (i : Int) then l else f j) size := by
  obtain ⟨rows, hl, hs, hr⟩ := h
  have hK : Keeps (· = g) w (w.setCell ⟨g, o + i, none⟩ (.slice q l.length c2)) := Keeps.cellAt (S := (· = g)) rfl _
  refine ⟨rows.set i (.slice q l.length c2), by rw [List.length_set]; exact hl, hs.set i (by omega) _, fun j x hj => ?_⟩
  rw [List.getElem?_set] at hj
  by_cases e : i = j
  · subst e
    rw [if_pos rfl, if_pos (by omega)] at hj
    cases hj
    simp only [if_true]
    exact ⟨⟨_, _, rfl⟩, hx.keeps hK (fun k hk e => hS k hk (by have h1 : k = g := e; rw [h1]; exact hg)), hS⟩
  · rw [if_neg e] at hj
    have e2 : ¬ (j : Int) = (i : Int) := by omega
    simp only [e2, if_false]
    obtain ⟨h1, h2, h3⟩ := hr j x hj
    exact ⟨h1, h2.keeps hK (fun k hk e => h3 k hk (by have h1 : k = g := e; rw [h1]; exact hg)), h3⟩
/-- the marks: which sectors were written -/
def boolsV (f : Int → Bool) (size : Nat) : List Value := (List.range size).map fun (i : Nat) => .bool (f i)
theorem boolsV_len (f : Int → Bool) (size : Nat) : (boolsV f size).length = size := by unfold boolsV; simp
theorem boolsV_at (f : Int → Bool) {size i : Nat} (h : i < size) : (boolsV f size)[i]? = some (.bool (f i)) := by unfold boolsV; simp [h]
theorem boolsV_set (f : Int → Bool) {size i : Nat} (b : Bool) : (boolsV f size).set i (.bool b) = boolsV (fun j => if j = (i : Int) then b else f j) size := by
  apply List.ext_getElem?
  intro j
  rw [List.getElem?_set]
  by_cases hj : j < size
  · rw [boolsV_at _ hj, boolsV_at _ hj]
    by_cases e : i = j
    · subst e; rw [if_pos rfl, if_pos (by rw [boolsV_len]; exact hj)]; simp
    · have e2 : ¬ (j : Int) = (i : Int) := by omega
      rw [if_neg e]; simp [e2]
  · rw [List.getElem?_eq_none (l := boolsV (fun j => if j = (i : Int) then b else f j) size) (by rw [boolsV_len]; omega)]
    split
    · rename_i e; rw [if_neg (by rw [boolsV_len]; omega)]
    · rw [List.getElem?_eq_none (by rw [boolsV_len]; omega)]
theorem boolsV_congr {f f' : Int → Bool} {size : Nat} (h : ∀ i : Nat, i < size → f i = f' i) : boolsV f size = boolsV f' size := by
  apply List.ext_getElem?
  intro j
  by_cases hj : j < size
  · rw [boolsV_at _ hj, boolsV_at _ hj, h j hj]
  · rw [List.getElem?_eq_none (by rw [boolsV_len]; omega), List.getElem?_eq_none (by rw [boolsV_len]; omega)]
structure RAd where
  b : Nat
  vn : Value
  vs : Value
  vc : Value
def RAd.S (A : RAd) (k : Nat) : Prop := k = A.b ∨ A.vn.ownBlock = some k ∨ A.vs.ownBlock = some k ∨ A.vc.ownBlock = some k
structure RefAt (w : World) (B : Nat) (A : RAd) (d : Dev) (L : Int) : Prop where
  self : w.heap[A.b]? = some (.cells #[A.vn, A.vs, A.vc, .int .i64 d.steps, .int .i64 d.syncs, .bool d.armed, .int .i64 L, .bool d.down] 59 (0, 0))
  now : RowsAt w B A.vn A.S d.now d.size.toNat
  synced : RowsAt w B A.vs A.S d.synced d.size.toNat
  chg : SubRow w B A.vc (boolsV d.chg d.size.toNat)
  low : B ≤ A.b
  ap1 : ∀ k, A.vn.ownBlock = some k → k ≠ A.b ∧ A.vs.ownBlock ≠ some k ∧ A.vc.ownBlock ≠ some k
  ap2 : ∀ k, A.vs.ownBlock = some k → k ≠ A.b ∧ A.vc.ownBlock ≠ some k
  ap3 : ∀ k, A.vc.ownBlock = some k → k ≠ A.b
  left : d.armed = true → L = d.left
  l0 : -1000000000 ≤ L
section
variable {w w' : World} {B : Nat} {A : RAd} {d : Dev} {L : Int}
theorem RefAt.below (h : RefAt w B A d L) (hb : Below w.heap.size w w') : RefAt w' B A d L :=
  ⟨(Keeps.of_below (S := fun _ => False) hb).at h.self (fun e => e), h.now.below hb, h.synced.below hb, h.chg.below hb, h.low, h.ap1, h.ap2, h.ap3, h.left, h.l0⟩
structure RefCells (w : World) (A : RAd) (d : Dev) (L : Int) : Prop where
  c0 : w.cell? ⟨A.b, 0, none⟩ = some A.vn
  c1 : w.cell? ⟨A.b, 1, none⟩ = some A.vs
  c2 : w.cell? ⟨A.b, 2, none⟩ = some A.vc
  c3 : w.cell? ⟨A.b, 3, none⟩ = some (.int .i64 d.steps)
  c4 : w.cell? ⟨A.b, 4, none⟩ = some (.int .i64 d.syncs)
  c5 : w.cell? ⟨A.b, 5, none⟩ = some (.bool d.armed)
  c6 : w.cell? ⟨A.b, 6, none⟩ = some (.int .i64 L)
  c7 : w.cell? ⟨A.b, 7, none⟩ = some (.bool d.down)
theorem RefAt.cells (h : RefAt w B A d L) : RefCells w A d L := ⟨cell_in h.self rfl, cell_in h.self rfl, cell_in h.self rfl, cell_in h.self rfl, cell_in h.self rfl, cell_in h.self rfl, cell_in h.self rfl, cell_in h.self rfl⟩
theorem RefAt.free (h : RefAt w B A d L) (o : Nat) : w.frozen? ⟨A.b, o, none⟩ = false := free_in h.self
/-- its own cells are written -/
theorem RefAt.upd {d' : Dev} {L' : Int} (h : RefAt w B A d L) (hk : Keeps (· = A.b) w w')
    (hs : w'.heap[A.b]? = some (.cells #[A.vn, A.vs, A.vc, .int .i64 d'.steps, .int .i64 d'.syncs, .bool d'.armed, .int .i64 L', .bool d'.down] 59 (0, 0)))
    (e1 : d'.now = d.now) (e2 : d'.synced = d.synced) (e3 : d'.chg = d.chg) (e4 : d'.size = d.size) (hl : d'.armed = true → L' = d'.left) (h0 : -1000000000 ≤ L') : RefAt w' B A d' L' := by
  refine ⟨hs, ?_, ?_, ?_, h.low, h.ap1, h.ap2, h.ap3, hl, h0⟩
  · rw [e1, e4]; exact h.now.keeps hk (fun k e e' => (h.ap1 k e).1 e') (fun k e => .inl e)
  · rw [e2, e4]; exact h.synced.keeps hk (fun k e e' => (h.ap2 k e).1 e') (fun k e => .inl e)
  · rw [e3, e4]; exact h.chg.block_keeps hk (fun k e e' => h.ap3 k e e')
theorem rin_any (h : RefAt w B A d L) (hz : 1 ≤ d.size) (at_ : Int) : Calls Try.prog 79 #[.pointer (some ⟨A.b, 0, none⟩), .int .i64 at_] w fun e w' => e = .returned (.bool (decide (0 ≤ at_) && decide (at_ < d.size))) ∧ w = w' := by
  obtain ⟨q, c, e, h1, h2⟩ := h.now.form
  have c0 := h.cells.c0
  rw [e] at c0
  have hs : ((d.size.toNat : Nat) : Int) = d.size := Int.toNat_of_nonneg (by omega)
  have Hs := Lib.hid hs
  generalize d.size.toNat = N at c0 Hs
  have Hs2 : Hid (d.size = (N : Int)) := Lib.hid Hs.out.symm
  clear h e h1 h2 hs Hs
  by_cases h0 : 0 ≤ at_
  · have e0 : decide (0 ≤ at_) = true := by simp; omega
    go_enter Try.func79, Try.ntmps79
    go_wp2
    go_ret
    rw [Hs2.out]
    simp [h0]
  · have e0 : decide (0 ≤ at_) = false := by simp; omega
    go_enter Try.func79, Try.ntmps79
    go_wp2
    go_ret
    simp
end
end Go.Proofs.Ytnficiohnhodiaa
