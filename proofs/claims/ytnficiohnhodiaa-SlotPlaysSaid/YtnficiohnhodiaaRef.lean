import Derived.Test.YtnficiohnhodiaaOwnB
import Derived.Test.YtnficiohnhodiaaGrow
/-
  The document's device (layer 1) in memory: the same device as the program's, kept in lists.
-/
namespace Go.Proofs.Ytnficiohnhodiaa
open Go.RowKit
/-- a list of rows of bytes: row i reads f i; none of its blocks is of S -/
def RowsAt (w : World) (B : Nat) (v : Value) (S : Nat → Prop) (f : Int → List UInt8) (size : Nat) : Prop :=
  ∃ rows : List Value, rows.length = size ∧ SubRow w B v rows ∧ ∀ (i : Nat) (x : Value), rows[i]? = some x → (∃ q c, x = .slice q (f i).length c) ∧ Bytes w x (f i) ∧ ∀ k, x.ownBlock = some k → ¬ S k
theorem RowsAt.keeps {T : Nat → Prop} {w w' : World} {B : Nat} {v : Value} {S : Nat → Prop} {f : Int → List UInt8} {size : Nat} (h : RowsAt w B v S f size) (hk : Keeps T w w') (h1 : ∀ k, v.ownBlock = some k → ¬ T k) (h2 : ∀ k, T k → S k) : RowsAt w' B v S f size := by
  obtain ⟨rows, hl, hs, hr⟩ := h
  exact ⟨rows, hl, hs.block_keeps hk h1, fun i x hx => ⟨(hr i x hx).1, (hr i x hx).2.1.keeps hk (fun k e e' => (hr i x hx).2.2 k e (h2 k e')), (hr i x hx).2.2⟩⟩
theorem RowsAt.below {w w' : World} {B : Nat} {v : Value} {S : Nat → Prop} {f : Int → List UInt8} {size : Nat} (h : RowsAt w B v S f size) (hb : Below w.heap.size w w') : RowsAt w' B v S f size :=
  h.keeps (T := fun _ => False) (Keeps.of_below hb) (fun _ _ e => e) (fun _ e => e.elim)
theorem RowsAt.congr {w : World} {B : Nat} {v : Value} {S : Nat → Prop} {f f' : Int → List UInt8} {size : Nat} (h : RowsAt w B v S f size) (e : ∀ i : Nat, i < size → f' i = f i) : RowsAt w B v S f' size := by
  obtain ⟨rows, hl, hs, hr⟩ := h
  exact ⟨rows, hl, hs, fun i x hx => by rw [e i (by have := (List.getElem?_eq_some_iff.1 hx).1; omega)]; exact hr i x hx⟩
theorem RowsAt.form {w : World} {B : Nat} {v : Value} {S : Nat → Prop} {f : Int → List UInt8} {size : Nat} (h : RowsAt w B v S f size) : ∃ q c, v = .slice q size c ∧ size ≤ c ∧ c ≤ maxLen := by
  obtain ⟨rows, hl, hs, hr⟩ := h
  obtain ⟨q, c, e, h1, h2⟩ := hs.form
  exact ⟨q, c, by rw [e, hl], by omega, h2⟩
/-- one row -/
theorem RowsAt.at {w : World} {B : Nat} {v : Value} {S : Nat → Prop} {f : Int → List UInt8} {size : Nat} (h : RowsAt w B v S f size) {i : Nat} (hi : i < size) : ∃ g o c q c2, v = .slice (some ⟨g, o, none⟩) size c ∧ w.cell? ⟨g, o + i, none⟩ = some (.slice q (f i).length c2) ∧ w.frozen? ⟨g, o + i, none⟩ = false ∧ Bytes w (.slice q (f i).length c2) (f i) ∧ (∀ k, (Value.slice q (f i).length c2).ownBlock = some k → ¬ S k) ∧ v.ownBlock = some g := by
  obtain ⟨rows, hl, hs, hr⟩ := h
  obtain ⟨x, hx⟩ : ∃ x, rows[i]? = some x := ⟨_, List.getElem?_eq_getElem (by omega)⟩
  obtain ⟨⟨q, c2, e⟩, h2, h3⟩ := hr i x hx
  subst e
  rcases hs with ⟨_, e0⟩ | ⟨g, o, c, e, k1, k2, k3, k4, k5, k6⟩
  · rw [e0] at hl; simp at hl; omega
  · subst e
    exact ⟨g, o, c, q, c2, by rw [hl], k6 i _ hx, (k5 i (by omega)).2, h2, h3, rfl⟩
/-- a row is put in its place -/
theorem RowsAt.set {w : World} {B g o n c : Nat} {S : Nat → Prop} {f : Int → List UInt8} {size : Nat} (h : RowsAt w B (.slice (some ⟨g, o, none⟩) n c) S f size) (hg : S g) {i : Nat} (hi : i < size) {q : Option Addr} {c2 : Nat} {l : List UInt8} (hx : Bytes w (.slice q l.length c2) l) (hS : ∀ k, (Value.slice q l.length c2).ownBlock = some k → ¬ S k) :
    RowsAt (w.setCell ⟨g, o + i, none⟩ (.slice q l.length c2)) B (.slice (some ⟨g, o, none⟩) n c) S (fun j => if j = (i : Int) then l else f j) size := by
  obtain ⟨rows, hl, hs, hr⟩ := h
  have hK : Keeps (· = g) w (w.setCell ⟨g, o + i, none⟩ (.slice q l.length c2)) := Keeps.cellAt (S := (· = g)) rfl _
  refine ⟨rows.set i (.slice q l.length c2), by rw [List.length_set]; exact hl, hs.set i (by omega) _, fun j x hj => ?_⟩
  rw [List.getElem?_set] at hj
  by_cases e : i = j
  · subst e
    rw [if_pos rfl, if_pos (by omega)] at hj
    cases hj
    simp only [if_true]
    exact ⟨⟨_, _, rfl⟩, hx.keeps hK (fun k hk e => hS k hk (by have h1 : k = g := e; rw [h1]; exact hg)), hS⟩
  · rw [if_neg e] at hj
    have e2 : ¬ (j : Int) = (i : Int) := by omega
    simp only [e2, if_false]
    obtain ⟨h1, h2, h3⟩ := hr j x hj
    exact ⟨h1, h2.keeps hK (fun k hk e => h3 k hk (by have h1 : k = g := e; rw [h1]; exact hg)), h3⟩
/-- the marks: which sectors were written -/
def boolsV (f : Int → Bool) (size : Nat) : List Value := (List.range size).map fun (i : Nat) => .bool (f i)
theorem boolsV_len (f : Int → Bool) (size : Nat) : (boolsV f size).length = size := by unfold boolsV; simp
theorem boolsV_at (f : Int → Bool) {size i : Nat} (h : i < size) : (boolsV f size)[i]? = some (.bool (f i)) := by unfold boolsV; simp [h]
theorem boolsV_set (f : Int → Bool) {size i : Nat} (b : Bool) : (boolsV f size).set i (.bool b) = boolsV (fun j => if j = (i : Int) then b else f j) size := by
  apply List.ext_getElem?
  intro j
  rw [List.getElem?_set]
  by_cases hj : j < size
  · rw [boolsV_at _ hj, boolsV_at _ hj]
    by_cases e : i = j
    · subst e; rw [if_pos rfl, if_pos (by rw [boolsV_len]; exact hj)]; simp
    · have e2 : ¬ (j : Int) = (i : Int) := by omega
      rw [if_neg e]; simp [e2]
  · rw [List.getElem?_eq_none (l := boolsV (fun j => if j = (i : Int) then b else f j) size) (by rw [boolsV_len]; omega)]
    split
    · rename_i e; rw [if_neg (by rw [boolsV_len]; omega)]
    · rw [List.getElem?_eq_none (by rw [boolsV_len]; omega)]
theorem boolsV_congr {f f' : Int → Bool} {size : Nat} (h : ∀ i : Nat, i < size → f i = f' i) : boolsV f size = boolsV f' size := by
  apply List.ext_getElem?
  intro j
  by_cases hj : j < size
  · rw [boolsV_at _ hj, boolsV_at _ hj, h j hj]
  · rw [List.getElem?_eq_none (by rw [boolsV_len]; omega), List.getElem?_eq_none (by rw [boolsV_len]; omega)]
structure RAd where
  b : Nat
  vn : Value
  vs : Value
  vc : Value
def RAd.S (A : RAd) (k : Nat) : Prop := k = A.b ∨ A.vn.ownBlock = some k ∨ A.vs.ownBlock = some k ∨ A.vc.ownBlock = some k
structure RefAt (w : World) (B : Nat) (A : RAd) (d : Dev) (L : Int) : Prop where
  self : w.heap[A.b]? = some (.cells #[A.vn, A.vs, A.vc, .int .i64 d.steps, .int .i64 d.syncs, .bool d.armed, .int .i64 L, .bool d.down] 59 (0, 0))
  now : RowsAt w B A.vn A.S d.now d.size.toNat
  synced : RowsAt w B A.vs A.S d.synced d.size.toNat
  chg : SubRow w B A.vc (boolsV d.chg d.size.toNat)
  low : B ≤ A.b
  ap1 : ∀ k, A.vn.ownBlock = some k → k ≠ A.b ∧ A.vs.ownBlock ≠ some k ∧ A.vc.ownBlock ≠ some k
  ap2 : ∀ k, A.vs.ownBlock = some k → k ≠ A.b ∧ A.vc.ownBlock ≠ some k
  ap3 : ∀ k, A.vc.ownBlock = some k → k ≠ A.b
  left : d.armed = true → L = d.left
  l0 : -1000000000 ≤ L
section
variable {w w' : World} {B : Nat} {A : RAd} {d : Dev} {L : Int}
theorem RefAt.below (h : RefAt w B A d L) (hb : Below w.heap.size w w') : RefAt w' B A d L :=
  ⟨(Keeps.of_below (S := fun _ => False) hb).at h.self (fun e => e), h.now.below hb, h.synced.below hb, h.chg.below hb, h.low, h.ap1, h.ap2, h.ap3, h.left, h.l0⟩
structure RefCells (w : World) (A : RAd) (d : Dev) (L : Int) : Prop where
  c0 : w.cell? ⟨A.b, 0, none⟩ = some A.vn
  c1 : w.cell? ⟨A.b, 1, none⟩ = some A.vs
  c2 : w.cell? ⟨A.b, 2, none⟩ = some A.vc
  c3 : w.cell? ⟨A.b, 3, none⟩ = some (.int .i64 d.steps)
  c4 : w.cell? ⟨A.b, 4, none⟩ = some (.int .i64 d.syncs)
  c5 : w.cell? ⟨A.b, 5, none⟩ = some (.bool d.armed)
  c6 : w.cell? ⟨A.b, 6, none⟩ = some (.int .i64 L)
  c7 : w.cell? ⟨A.b, 7, none⟩ = some (.bool d.down)
theorem RefAt.cells (h : RefAt w B A d L) : RefCells w A d L := ⟨cell_in h.self rfl, cell_in h.self rfl, cell_in h.self rfl, cell_in h.self rfl, cell_in h.self rfl, cell_in h.self rfl, cell_in h.self rfl, cell_in h.self rfl⟩
theorem RefAt.free (h : RefAt w B A d L) (o : Nat) : w.frozen? ⟨A.b, o, none⟩ = false := free_in h.self
/-- its own cells are written -/
theorem RefAt.upd {d' : Dev} {L' : Int} (h : RefAt w B A d L) (hk : Keeps (· = A.b) w w')
    (hs : w'.heap[A.b]? = some (.cells #[A.vn, A.vs, A.vc, .int .i64 d'.steps, .int .i64 d'.syncs, .bool d'.armed, .int .i64 L', .bool d'.down] 59 (0, 0)))
    (e1 : d'.now = d.now) (e2 : d'.synced = d.synced) (e3 : d'.chg = d.chg) (e4 : d'.size = d.size) (hl : d'.armed = true → L' = d'.left) (h0 : -1000000000 ≤ L') : RefAt w' B A d' L' := by
  refine ⟨hs, ?_, ?_, ?_, h.low, h.ap1, h.ap2, h.ap3, hl, h0⟩
  · rw [e1, e4]; exact h.now.keeps hk (fun k e e' => (h.ap1 k e).1 e') (fun k e => .inl e)
  · rw [e2, e4]; exact h.synced.keeps hk (fun k e e' => (h.ap2 k e).1 e') (fun k e => .inl e)
  · rw [e3, e4]; exact h.chg.block_keeps hk (fun k e e' => h.ap3 k e e')
theorem rin_any (h : RefAt w B A d L) (hz : 1 ≤ d.size) (at_ : Int) : Calls Try.prog 79 #[.pointer (some ⟨A.b, 0, none⟩), .int .i64 at_] w fun e w' => e = .returned (.bool (decide (0 ≤ at_) && decide (at_ < d.size))) ∧ w = w' := by
  obtain ⟨q, c, e, h1, h2⟩ := h.now.form
  have c0 := h.cells.c0
  rw [e] at c0
  have hs : ((d.size.toNat : Nat) : Int) = d.size := Int.toNat_of_nonneg (by omega)
  have Hs := Lib.hid hs
  generalize d.size.toNat = N at c0 Hs
  have Hs2 : Hid (d.size = (N : Int)) := Lib.hid Hs.out.symm
  clear h e h1 h2 hs Hs
  by_cases h0 : 0 ≤ at_
  · have e0 : decide (0 ≤ at_) = true := by simp; omega
    go_enter Try.func79, Try.ntmps79
    go_wp2
    go_ret
    rw [Hs2.out]
    simp [h0]
  · have e0 : decide (0 ≤ at_) = false := by simp; omega
    go_enter Try.func79, Try.ntmps79
    go_wp2
    go_ret
    simp
end
end Go.Proofs.Ytnficiohnhodiaa


/-
  The document's device: step, Read, settle, Sync.
-/
namespace Go.Proofs.Ytnficiohnhodiaa
open Go.RowKit
theorem Bytes.nilR {w : World} : Bytes w (.slice none 0 0) [] := ⟨none, 0, rfl, Nat.le_refl _, Nat.zero_le _, fun j b hb => by simp at hb⟩
section
variable {w : World} {B : Nat} {A : RAd} {d : Dev} {L : Int} {n : Nat}
theorem Dev.same_down {d : Dev} (h : d.down = true) : ({ d with down := true } : Dev) = d := by obtain ⟨a, b, c, e, f, g, h1, h2, h3⟩ := d; cases h; rfl
def stepL (d : Dev) (L : Int) : Int := if d.step.1 = 0 then L - 1 else L
theorem RefAt.cell {d' : Dev} {L' : Int} (h : RefAt w B A d L) (o : Nat) (v : Value)
    (hs : (#[A.vn, A.vs, A.vc, .int .i64 d.steps, .int .i64 d.syncs, .bool d.armed, .int .i64 L, .bool d.down] : Array Value).setIfInBounds o v = #[A.vn, A.vs, A.vc, .int .i64 d'.steps, .int .i64 d'.syncs, .bool d'.armed, .int .i64 L', .bool d'.down])
    (e1 : d'.now = d.now) (e2 : d'.synced = d.synced) (e3 : d'.chg = d.chg) (e4 : d'.size = d.size) (hl : d'.armed = true → L' = d'.left) (h0 : -1000000000 ≤ L') : RefAt (w.setCell ⟨A.b, o, none⟩ v) B A d' L' :=
  h.upd (Keeps.cellAt (S := (· = A.b)) rfl v) (by rw [heap_setCell _ _ _ _ _ _ _ h.self, hs]) e1 e2 e3 e4 hl h0
set_option maxRecDepth 100000 in
theorem rstep_any (h : RefAt w B A d L) (ho : d.Ok n) (hn : n ≤ 1000000) (hL : L ≤ 9223372036854775807) (hL0 : -100000000 ≤ L) : Calls Try.prog 80 #[.pointer (some ⟨A.b, 0, none⟩)] w fun e w' => e = .returned (.int .i64 d.step.1) ∧ RefAt w' B A d.step.2 (stepL d L) ∧ Keeps (· = A.b) w w' := by
  have H := Lib.hid h
  have c3 := h.cells.c3
  have c5 := h.cells.c5
  have c6 := h.cells.c6
  have c7 := h.cells.c7
  have f3 := h.free 3
  have f6 := h.free 6
  have f7 := h.free 7
  have hlf := h.left
  have hs0 := ho.s0
  have hs1 := ho.s1
  have hl0 := ho.l0
  have hst : d.steps ≤ 1000000 := by omega
  clear h
  by_cases hd : d.down = true
  · have es : d.step = (3, { d with down := true }) := by unfold Dev.step; rw [if_pos (.inl hd)]
    have hsl : stepL d L = L := by unfold stepL; rw [es]; rfl
    rw [hd] at c7
    have Hd := Lib.hid hd
    by_cases ha : d.armed = true ∧ d.left = 0
    · have hL1 : L = 0 := by rw [hlf ha.1]; exact ha.2
      rw [ha.1] at c5
      rw [hL1] at c6
      have H2 := Lib.hid (H.out.cell (d' := { d with down := true }) 7 (.bool true) rfl rfl rfl rfl rfl hlf H.out.l0)
      have He := Lib.hid (And.intro es hsl)
      clear hd ha hL1 es hsl hlf
      go_enter Try.func80, Try.ntmps80
      go_wp2
      go_ret
      rw [He.out.1, He.out.2]
      exact ⟨rfl, H2.out, Keeps.cellAt (S := (· = A.b)) rfl _⟩
    · have H2 : Hid (RefAt w B A { d with down := true } L) := Lib.hid (by
        have e1 := Dev.same_down hd
        rw [e1]; exact H.out)
      have He := Lib.hid (And.intro es hsl)
      have har : d.armed = false ∨ (d.armed = true ∧ 1 ≤ L) := by
        cases hx : d.armed
        · exact .inl rfl
        · right; refine ⟨rfl, ?_⟩
          have h1 := hlf hx
          have h2 : d.left ≠ 0 := fun e => ha ⟨hx, e⟩
          omega
      rcases har with har | ⟨har, hL1⟩
      · rw [har] at c5
        clear hd ha es hsl hlf
        go_enter Try.func80, Try.ntmps80
        go_wp2
        go_ret
        rw [He.out.1, He.out.2]
        exact ⟨rfl, H2.out, Keeps.refl _ _⟩
      · rw [har] at c5
        have e0 : decide (L < 1) = false := by simp; omega
        clear hd ha es hsl hlf
        go_enter Try.func80, Try.ntmps80
        go_wp2
        go_ret
        rw [He.out.1, He.out.2]
        exact ⟨rfl, H2.out, Keeps.refl _ _⟩
  · have hdf : d.down = false := by simpa using hd
    rw [hdf] at c7
    by_cases ha : d.armed = true ∧ d.left = 0
    · have es : d.step = (3, { d with down := true }) := by unfold Dev.step; rw [if_pos (.inr ha)]
      have hsl : stepL d L = L := by unfold stepL; rw [es]; rfl
      have hL1 : L = 0 := by rw [hlf ha.1]; exact ha.2
      rw [ha.1] at c5
      rw [hL1] at c6
      have H2 := Lib.hid (H.out.cell (d' := { d with down := true }) 7 (.bool true) rfl rfl rfl rfl rfl hlf H.out.l0)
      have He := Lib.hid (And.intro es hsl)
      clear hd ha hL1 es hsl hlf hdf
      go_enter Try.func80, Try.ntmps80
      go_wp2
      go_ret
      rw [He.out.1, He.out.2]
      exact ⟨rfl, H2.out, Keeps.cellAt (S := (· = A.b)) rfl _⟩
    · have es : d.step = (0, { d with left := if d.armed then d.left - 1 else d.left, steps := d.steps + 1 }) := by unfold Dev.step; rw [if_neg (by rintro (e | e); exact hd e; exact ha e)]
      have hsl : stepL d L = L - 1 := by unfold stepL; rw [es]; rfl
      have H2 : Hid (RefAt ((w.setCell ⟨A.b, 6, none⟩ (.int .i64 (L - 1))).setCell ⟨A.b, 3, none⟩ (.int .i64 (d.steps + 1))) B A { d with left := if d.armed then d.left - 1 else d.left, steps := d.steps + 1 } (L - 1)) := Lib.hid (by
        have h1 := H.out.cell (d' := { d with left := if d.armed then d.left - 1 else d.left }) (L' := L - 1) 6 (.int .i64 (L - 1)) rfl rfl rfl rfl rfl (fun e => by show L - 1 = if d.armed then d.left - 1 else d.left; have e' : d.armed = true := e; rw [if_pos e', hlf e']) (by omega)
        exact h1.cell (d' := { d with left := if d.armed then d.left - 1 else d.left, steps := d.steps + 1 }) (L' := L - 1) 3 (.int .i64 (d.steps + 1)) rfl rfl rfl rfl rfl h1.left h1.l0)
      have HK : Hid (Keeps (· = A.b) w ((w.setCell ⟨A.b, 6, none⟩ (.int .i64 (L - 1))).setCell ⟨A.b, 3, none⟩ (.int .i64 (d.steps + 1)))) := Lib.hid ((Keeps.cellAt (S := (· = A.b)) rfl _).trans (Keeps.cellAt (S := (· = A.b)) rfl _))
      have He := Lib.hid (And.intro es hsl)
      have har : d.armed = false ∨ (d.armed = true ∧ 1 ≤ L) := by
        cases hx : d.armed
        · exact .inl rfl
        · right; refine ⟨rfl, ?_⟩
          have h1 := hlf hx
          have h2 : d.left ≠ 0 := fun e => ha ⟨hx, e⟩
          omega
      rcases har with har | ⟨har, hL1⟩
      · rw [har] at c5
        clear hd ha es hsl hlf hdf
        go_enter Try.func80, Try.ntmps80
        go_wp2
        go_ret
        rw [He.out.1, He.out.2]
        exact ⟨rfl, H2.out, HK.out⟩
      · rw [har] at c5
        have e0 : decide (L < 1) = false := by simp; omega
        clear hd ha es hsl hlf hdf
        go_enter Try.func80, Try.ntmps80
        go_wp2
        go_ret
        rw [He.out.1, He.out.2]
        exact ⟨rfl, H2.out, HK.out⟩
/-- what a Read answers -/
def rdR (d : Dev) (at_ : Int) : List UInt8 × Int := if at_ < 0 ∨ d.size ≤ at_ then ([], 1) else if d.down then ([], 3) else (d.now at_, 0)
theorem rread_any (h : RefAt w B A d L) (hz : 1 ≤ d.size) (hz2 : d.size ≤ 4096) (at_ : Int) (l : List UInt8) (x : Int) (hX : rdR d at_ = (l, x)) : Calls Try.prog 54 #[.pointer (some ⟨A.b, 0, none⟩), .int .i64 at_] w fun e w' =>
    (∃ q c, e = .returned (.tuple #[.slice q l.length c, .int .i64 x]) ∧ Bytes w' (.slice q l.length c) l) ∧ w = w' := by
  have hin := rin_any h hz at_
  have c7 := h.cells.c7
  have c0 := h.cells.c0
  unfold rdR at hX
  by_cases hr : at_ < 0 ∨ d.size ≤ at_
  · have e0 : (decide (0 ≤ at_) && decide (at_ < d.size)) = false := by simp; omega
    rw [e0] at hin
    rw [if_pos hr] at hX
    cases hX
    clear h hr e0
    go_enter Try.func54, Try.ntmps54
    go_wp2_with (go_at_call 79; (with_reducible refine hin.mono ?_); rintro _ _ ⟨rfl, rfl⟩)
    go_ret2
    exact ⟨⟨none, 0, rfl, Bytes.nilR⟩, rfl⟩
  · have e0 : (decide (0 ≤ at_) && decide (at_ < d.size)) = true := by simp; omega
    rw [e0] at hin
    rw [if_neg hr] at hX
    cases hd : d.down
    · rw [hd] at c7 hX
      rw [if_neg (by simp)] at hX
      cases hX
      obtain ⟨k, hk⟩ : ∃ k : Nat, at_ = (k : Int) := ⟨at_.toNat, by omega⟩
      subst hk
      obtain ⟨g, o, c, q, c2, ev, hc, _, hb, _, _⟩ := h.now.at (i := k) (by omega)
      rw [ev] at c0
      have hkl : (k : Int) < ((d.size.toNat : Nat) : Int) := by omega
      have hkl2 : k < d.size.toNat := by omega
      have Hb := Lib.hid hb
      generalize d.size.toNat = N at c0 hkl hkl2
      generalize d.now (k : Int) = l at hc Hb ⊢
      clear h hr e0 hd ev hb
      go_enter Try.func54, Try.ntmps54
      go_wp2_with (go_at_call 79; (with_reducible refine hin.mono ?_); rintro _ _ ⟨rfl, rfl⟩)
      go_ret2
      exact ⟨⟨q, c2, rfl, Hb.out⟩, rfl⟩
    · rw [hd] at c7 hX
      rw [if_pos rfl] at hX
      cases hX
      clear h hr e0 hd
      go_enter Try.func54, Try.ntmps54
      go_wp2_with (go_at_call 79; (with_reducible refine hin.mono ?_); rintro _ _ ⟨rfl, rfl⟩)
      go_ret2
      exact ⟨⟨none, 0, rfl, Bytes.nilR⟩, rfl⟩
end
end Go.Proofs.Ytnficiohnhodiaa


/-
  The document's device: settle, Sync, Unsynced.
-/
namespace Go.Proofs.Ytnficiohnhodiaa
open Go.RowKit
theorem own_slice {g o n c k : Nat} (e : (Value.slice (some ⟨g, o, none⟩) n c).ownBlock = some k) : k = g := by cases e; rfl
/-- rows that lie in no block of F lie in none of them afterwards, where new rows (in the blocks N) lie in none of them -/
def Avoids (A : RAd) (w w' : World) (B : Nat) (d d' : Dev) (N : Nat → Prop) : Prop :=
  ∀ F : Nat → Prop, (∀ k, A.S k → F k) → (∀ k, F k → ¬ N k) → RowsAt w B A.vn F d.now d.size.toNat → RowsAt w B A.vs F d.synced d.size.toNat → RowsAt w' B A.vn F d'.now d'.size.toNat ∧ RowsAt w' B A.vs F d'.synced d'.size.toNat
theorem Avoids.trans {A : RAd} {w w' w'' : World} {B : Nat} {d d' d'' : Dev} {N : Nat → Prop} (h : Avoids A w w' B d d' N) (k : Avoids A w' w'' B d' d'' N) : Avoids A w w'' B d d'' N := fun F hF hN h1 h2 => by
  obtain ⟨a, b⟩ := h F hF hN h1 h2
  exact k F hF hN a b
theorem Avoids.less {A : RAd} {w w' : World} {B : Nat} {d d' : Dev} {N N' : Nat → Prop} (h : Avoids A w w' B d d' N) (hN : ∀ k, N k → N' k) : Avoids A w w' B d d' N' := fun F hF hN' h1 h2 => h F hF (fun k e e' => hN' k e (hN k e')) h1 h2
theorem Avoids.below {A : RAd} {w w' w'' : World} {B : Nat} {d d' : Dev} {N : Nat → Prop} (h : Avoids A w w' B d d' N) (hb : Below w'.heap.size w' w'') : Avoids A w w'' B d d' N := fun F hF hN h1 h2 => by
  obtain ⟨a, b⟩ := h F hF hN h1 h2
  exact ⟨a.below hb, b.below hb⟩
theorem Avoids.congr {A : RAd} {w w' : World} {B : Nat} {d d' d'' : Dev} {N : Nat → Prop} (h : Avoids A w w' B d d' N) (e : d''.size = d'.size) (e1 : ∀ i : Nat, i < d'.size.toNat → d''.now i = d'.now i ∧ d''.synced i = d'.synced i) : Avoids A w w' B d d'' N := fun F hF hN h1 h2 => by
  obtain ⟨a, b⟩ := h F hF hN h1 h2
  rw [e]
  exact ⟨a.congr (fun i hi => (e1 i hi).1), b.congr (fun i hi => (e1 i hi).2)⟩
section
variable {w : World} {B : Nat} {A : RAd} {d : Dev} {L : Int} {n : Nat}
/-- the synced sector i is as it is now -/
theorem RefAt.syncAt (h : RefAt w B A d L) {i : Nat} (hi : i < d.size.toNat) : ∃ gs os cs gc oc cc g o c q c2, A.vs = .slice (some ⟨gs, os, none⟩) d.size.toNat cs ∧ A.vc = .slice (some ⟨gc, oc, none⟩) d.size.toNat cc ∧ A.vn = .slice (some ⟨g, o, none⟩) d.size.toNat c ∧
    w.cell? ⟨g, o + i, none⟩ = some (.slice q (d.now i).length c2) ∧ (∃ x, w.cell? ⟨gs, os + i, none⟩ = some x) ∧ w.frozen? ⟨gs, os + i, none⟩ = false ∧ (∃ x, w.cell? ⟨gc, oc + i, none⟩ = some x) ∧ w.frozen? ⟨gc, oc + i, none⟩ = false ∧
    RefAt ((w.setCell ⟨gs, os + i, none⟩ (.slice q (d.now i).length c2)).setCell ⟨gc, oc + i, none⟩ (.bool false)) B A { d with synced := fun j => if j = (i : Int) then d.now i else d.synced j, chg := fun j => if j = (i : Int) then false else d.chg j } L ∧
    Keeps A.S w ((w.setCell ⟨gs, os + i, none⟩ (.slice q (d.now i).length c2)).setCell ⟨gc, oc + i, none⟩ (.bool false)) ∧
    ((w.setCell ⟨gs, os + i, none⟩ (.slice q (d.now i).length c2)).cell? ⟨A.b, 2, none⟩ = some A.vc) ∧ (∃ x, (w.setCell ⟨gs, os + i, none⟩ (.slice q (d.now i).length c2)).cell? ⟨gc, oc + i, none⟩ = some x) ∧ (w.setCell ⟨gs, os + i, none⟩ (.slice q (d.now i).length c2)).frozen? ⟨gc, oc + i, none⟩ = false ∧
    Avoids A w ((w.setCell ⟨gs, os + i, none⟩ (.slice q (d.now i).length c2)).setCell ⟨gc, oc + i, none⟩ (.bool false)) B d { d with synced := fun j => if j = (i : Int) then d.now i else d.synced j, chg := fun j => if j = (i : Int) then false else d.chg j } (fun _ => False) := by
  obtain ⟨g, o, c, q, c2, ev, hc, hf, hb, hS, _⟩ := h.now.at hi
  obtain ⟨gs, os, cs, qs, c2s, evs, hcs, hfs, hbs, hSs, _⟩ := h.synced.at hi
  obtain ⟨gc, oc, cc, evc, hcc⟩ : ∃ gc oc cc, A.vc = .slice (some ⟨gc, oc, none⟩) d.size.toNat cc ∧ w.cell? ⟨gc, oc + i, none⟩ = some (.bool (d.chg i)) := by
    rcases h.chg with ⟨_, e⟩ | ⟨gc, oc, cc, e, _, _, _, _, _, h6⟩
    · have := congrArg List.length e; rw [boolsV_len] at this; simp only [List.length_nil] at this; omega
    · rw [boolsV_len] at e; exact ⟨gc, oc, cc, e, h6 i _ (boolsV_at _ hi)⟩
  have hfc : w.frozen? ⟨gc, oc + i, none⟩ = false := by
    have h1 := h.chg; rw [evc] at h1; exact (h1.cellAt (boolsV_at _ hi)).2
  have a1 := h.ap1 g (by rw [ev]; rfl)
  have a2 := h.ap2 gs (by rw [evs]; rfl)
  have a3 := h.ap3 gc (by rw [evc]; rfl)
  have hgs : g ≠ gs := fun e => a1.2.1 (by rw [evs, e]; rfl)
  have hgc : g ≠ gc := fun e => a1.2.2 (by rw [evc, e]; rfl)
  have hsc : gs ≠ gc := fun e => a2.2 (by rw [evc, e]; rfl)
  have hK1 : Keeps (· = gs) w (w.setCell ⟨gs, os + i, none⟩ (.slice q (d.now i).length c2)) := Keeps.cellAt (S := (· = gs)) rfl _
  have hK2 : Keeps (· = gc) (w.setCell ⟨gs, os + i, none⟩ (.slice q (d.now i).length c2)) ((w.setCell ⟨gs, os + i, none⟩ (.slice q (d.now i).length c2)).setCell ⟨gc, oc + i, none⟩ (.bool false)) := Keeps.cellAt (S := (· = gc)) rfl _
  have sgs : A.S gs := .inr (.inr (.inl (by rw [evs]; rfl)))
  have sgc : A.S gc := .inr (.inr (.inr (by rw [evc]; rfl)))
  refine ⟨gs, os, cs, gc, oc, cc, g, o, c, q, c2, evs, evc, ev, hc, ⟨_, hcs⟩, hfs, ⟨_, hcc⟩, hfc, ⟨?_, ?_, ?_, ?_, h.low, h.ap1, h.ap2, h.ap3, h.left, h.l0⟩, ?_, ?_, ?_, ?_, ?_⟩
  · exact hK2.at (hK1.at h.self (fun e => a2.1 e.symm)) (fun e => a3 e.symm)
  · have h1 := h.now
    rw [ev] at h1 ⊢
    exact (h1.keeps hK1 (fun k e e' => hgs ((own_slice e).symm.trans e')) (fun k e => by have e' : k = gs := e; rw [e']; exact sgs)).keeps hK2 (fun k e e' => hgc ((own_slice e).symm.trans e')) (fun k e => by have e' : k = gc := e; rw [e']; exact sgc)
  · have h1 := h.synced
    rw [evs] at h1 ⊢
    exact (h1.set sgs hi hb hS).keeps hK2 (fun k e e' => hsc ((own_slice e).symm.trans e')) (fun k e => by have e' : k = gc := e; rw [e']; exact sgc)
  · have h1 := h.chg
    rw [evc] at h1 ⊢
    rw [← boolsV_set]
    exact (h1.block_keeps hK1 (fun k e e' => hsc (e'.symm.trans (own_slice e)))).set i (by rw [boolsV_len]; exact hi) _
  · exact (hK1.mono (fun k _ e => by have e' : k = gs := e; rw [e']; exact sgs)).trans (hK2.mono (fun k _ e => by have e' : k = gc := e; rw [e']; exact sgc))
  · exact hK1.cell h.cells.c2 (fun e => a2.1 e.symm)
  · exact ⟨_, hK1.cell hcc (fun e => hsc e.symm)⟩
  · rw [World.frozen?_setCell]; exact hfc
  · intro F hF hN h1 h2
    have fs := hF gs sgs
    have fc := hF gc sgc
    have hSF : ∀ k, (Value.slice q (d.now i).length c2).ownBlock = some k → ¬ F k := by
      obtain ⟨g', o', c', q', c2', ev', hc', _, _, hS', _⟩ := h1.at hi
      rw [ev] at ev'
      injection ev' with ea _ _
      injection ea with ea
      injection ea with ea eb _
      subst ea; subst eb
      rw [hc] at hc'
      injection hc' with hc'
      injection hc' with e1 _ e3
      subst e1; subst e3
      exact hS'
    refine ⟨?_, ?_⟩
    · rw [ev] at h1 ⊢
      exact (h1.keeps hK1 (fun k e e' => hgs ((own_slice e).symm.trans e')) (fun k e => by have e' : k = gs := e; rw [e']; exact fs)).keeps hK2 (fun k e e' => hgc ((own_slice e).symm.trans e')) (fun k e => by have e' : k = gc := e; rw [e']; exact fc)
    · rw [evs] at h2 ⊢
      exact (h2.set fs hi hb hSF).keeps hK2 (fun k e e' => hsc ((own_slice e).symm.trans e')) (fun k e => by have e' : k = gc := e; rw [e']; exact fc)
/-- equal where it counts -/
theorem RefAt.congr {d' : Dev} (h : RefAt w B A d L) (e0 : d'.steps = d.steps ∧ d'.syncs = d.syncs ∧ d'.armed = d.armed ∧ d'.down = d.down ∧ d'.size = d.size ∧ d'.left = d.left) (e1 : ∀ i : Nat, i < d.size.toNat → d'.now i = d.now i ∧ d'.synced i = d.synced i ∧ d'.chg i = d.chg i) : RefAt w B A d' L := by
  obtain ⟨a1, a2, a3, a4, a5, a6⟩ := e0
  refine ⟨?_, ?_, ?_, ?_, h.low, h.ap1, h.ap2, h.ap3, by rw [a3, a6]; exact h.left, h.l0⟩
  · rw [a1, a2, a3, a4]; exact h.self
  · rw [a5]; exact h.now.congr (fun i hi => (e1 i hi).1)
  · rw [a5]; exact h.synced.congr (fun i hi => (e1 i hi).2.1)
  · rw [a5, boolsV_congr (fun i hi => (e1 i hi).2.2)]; exact h.chg
def Dev.sofar (d : Dev) (i : Nat) : Dev := { d with synced := fun j => if j < (i : Int) then d.now j else d.synced j, chg := fun j => if j < (i : Int) then false else d.chg j }
set_option maxRecDepth 100000 in
set_option maxHeartbeats 1000000 in
theorem rsettle_more (h : RefAt w B A d L) (hz : 1 ≤ d.size) (hz2 : d.size ≤ 4096) (hsame : ∀ k, d.chg k = false → d.now k = d.synced k) : Calls Try.prog 81 #[.pointer (some ⟨A.b, 0, none⟩)] w fun e w' => e = .returned (.tuple #[]) ∧ RefAt w' B A d.settle L ∧ Keeps A.S w w' ∧ Avoids A w w' B d d.settle (fun _ => False) := by
  have H := Lib.hid h
  have Ho := Lib.hid hsame
  obtain ⟨N, hN⟩ : ∃ N : Nat, d.size.toNat = N := ⟨_, rfl⟩
  have HN := Lib.hid hN
  have hN2 : N ≤ 4096 := by omega
  clear h hsame hN
  go_enter Try.func81, Try.ntmps81
  go_wp2
  go_loopw [2] (fun t wr => ∃ i : Nat, t = .int .i64 i ∧ i ≤ N ∧ RefAt wr B A (d.sofar i) L ∧ Keeps A.S w wr ∧ Avoids A w wr B d (d.sofar i) (fun _ => False)) (fun t _ => N - (intOf t).toNat)
  case atStart =>
    refine ⟨0, rfl, Nat.zero_le _, H.out.congr ⟨rfl, rfl, rfl, rfl, rfl, rfl⟩ fun i hi => ⟨rfl, ?_, ?_⟩, Keeps.refl _ _, fun F _ _ h1 h2 => ⟨h1, h2.congr fun i _ => ?_⟩⟩
    · show (if (i : Int) < ((0 : Nat) : Int) then d.now i else d.synced i) = d.synced i; rw [if_neg (by omega)]
    · show (if (i : Int) < ((0 : Nat) : Int) then false else d.chg i) = d.chg i; rw [if_neg (by omega)]
    · show (if (i : Int) < ((0 : Nat) : Int) then d.now i else d.synced i) = d.synced i; rw [if_neg (by omega)]
  case round =>
    clear H
    obtain ⟨i, rfl, hi, hR, hK, hA⟩ := hrel
    have HR := Lib.hid hR
    have HA := Lib.hid hA
    clear hA
    have HK := Lib.hid hK
    have c0 : wr.cell? ⟨A.b, 0, none⟩ = some A.vn := hR.cells.c0
    obtain ⟨q0, cc0, ev, _, _⟩ := hR.now.form
    have ev' : A.vn = .slice q0 N cc0 := by rw [ev]; show Value.slice q0 d.size.toNat cc0 = _; rw [HN.out]
    rw [ev'] at c0
    clear hR hK ev ev'
    by_cases hlt : i < N
    · have e1 : decide ((i : Int) < (N : Int)) = true := by simp; omega
      go_upto_region 3 with fail
      clear c0 e1
      have HR2 := Lib.hid (HR.out.below (Below.refl wr.heap.size wr).drew)
      have HK2 : Hid (Keeps A.S w wr.drew) := Lib.hid (HK.out.drew)
      have HA2 := Lib.hid (HA.out.below (Below.refl wr.heap.size wr).drew)
      clear HR HK HA
      refine wp_region_still_tail 12 (by kernel_rfl) (by kernel_rfl) ?_
      simp only [List.take_succ_cons, List.take_zero, List.drop_succ_cons, List.drop_zero]
      change wpStill _ _ wr.drew (fun a' => wpList _ _ _ _ a' wr.drew) _ _
      generalize wr.drew = wr at HR2 HK2 HA2 ⊢
      obtain ⟨gs, os, cs, gc, oc, cc, g, o, c, q, c2, es, ec, en, h1, ⟨xs, h2⟩, h3, ⟨xc, h4⟩, h5, h6, h7, h8, ⟨xd, h9⟩, h10, h11⟩ := HR2.out.syncAt (i := i) (by show i < d.size.toNat; rw [HN.out]; exact hlt)
      have c0 := HR2.out.cells.c0
      have c1 := HR2.out.cells.c1
      rw [es] at c1
      rw [en] at c0
      rw [ec] at h8
      rw [show (d.sofar i).size.toNat = N from HN.out] at c0 c1 h8
      have h1' : wr.cell? ⟨g, o + i, none⟩ = some (.slice q (d.now i).length c2) := h1
      have en2 : (d.sofar i).now = d.now := rfl
      rw [en2] at h8 h9 h10
      have H6 : Hid (RefAt ((wr.setCell ⟨gs, os + i, none⟩ (.slice q (d.now i).length c2)).setCell ⟨gc, oc + i, none⟩ (.bool false)) B A (d.sofar (i + 1)) L) := Lib.hid (h6.congr ⟨rfl, rfl, rfl, rfl, rfl, rfl⟩ fun j hj => ⟨rfl, by
        show (if (j : Int) < ((i + 1 : Nat) : Int) then d.now j else d.synced j) = if (j : Int) = (i : Int) then d.now i else if (j : Int) < (i : Int) then d.now j else d.synced j
        by_cases e : j = i
        · subst e; rw [if_pos (by omega), if_pos rfl]
        · by_cases e2 : j < i
          · rw [if_pos (by omega), if_neg (by omega), if_pos (by omega)]
          · rw [if_neg (by omega), if_neg (by omega), if_neg (by omega)], by
        show (if (j : Int) < ((i + 1 : Nat) : Int) then false else d.chg j) = if (j : Int) = (i : Int) then false else if (j : Int) < (i : Int) then false else d.chg j
        by_cases e : j = i
        · subst e; rw [if_pos (by omega), if_pos rfl]
        · by_cases e2 : j < i
          · rw [if_pos (by omega), if_neg (by omega), if_pos (by omega)]
          · rw [if_neg (by omega), if_neg (by omega), if_neg (by omega)]⟩)
      have H7 : Hid (Keeps A.S w ((wr.setCell ⟨gs, os + i, none⟩ (.slice q (d.now i).length c2)).setCell ⟨gc, oc + i, none⟩ (.bool false))) := Lib.hid (HK2.out.trans h7)
      have H8 : Hid (Avoids A w ((wr.setCell ⟨gs, os + i, none⟩ (.slice q (d.now i).length c2)).setCell ⟨gc, oc + i, none⟩ (.bool false)) B d (d.sofar (i + 1)) (fun _ => False)) := Lib.hid ((HA2.out.trans h11).congr rfl fun j hj => ⟨rfl, by
        show (if (j : Int) < ((i + 1 : Nat) : Int) then d.now j else d.synced j) = if (j : Int) = (i : Int) then d.now i else if (j : Int) < (i : Int) then d.now j else d.synced j
        by_cases e : j = i
        · subst e; rw [if_pos (by omega), if_pos rfl]
        · by_cases e2 : j < i
          · rw [if_pos (by omega), if_neg (by omega), if_pos (by omega)]
          · rw [if_neg (by omega), if_neg (by omega), if_neg (by omega)]⟩)
      clear h6 h7 h11 h1 es ec en en2 HR2 HK2 HA2
      generalize (d.now (i : Int)).length = nl at h1' h8 h9 h10 H6 H7 H8
      repeat still_step
      refine wpStill_nil ?_
      go_wp2
      go_roundw
      case rel => exact ⟨i + 1, by go_num, by omega, H6.out, H7.out, H8.out⟩
      case measure => simp [intOf]; omega
    · obtain rfl : i = N := by omega
      have e1 : decide ((i : Int) < (i : Int)) = false := by simp
      go_wp2
      go_end0
      refine ⟨rfl, HR.out.congr ⟨rfl, rfl, rfl, rfl, rfl, rfl⟩ fun j hj => ⟨rfl, ?_, ?_⟩, HK.out, HA.out.congr rfl fun j hj => ⟨rfl, ?_⟩⟩
      · have hj2 : j < i := by rw [← HN.out]; exact hj
        show (if d.chg j then d.now j else d.synced j) = if (j : Int) < (i : Int) then d.now j else d.synced j
        have hj3 : (j : Int) < (i : Int) := by omega
        simp only [hj3, if_true]
        split
        · rfl
        · rename_i e; exact (Ho.out j (by simpa using e)).symm
      · have hj2 : j < i := by rw [← HN.out]; exact hj
        show false = if (j : Int) < (i : Int) then false else d.chg j
        have hj3 : (j : Int) < (i : Int) := by omega
        simp only [hj3, if_true]
      · have hj2 : j < i := by rw [← HN.out]; exact hj
        show (if d.chg j then d.now j else d.synced j) = if (j : Int) < (i : Int) then d.now j else d.synced j
        have hj3 : (j : Int) < (i : Int) := by omega
        simp only [hj3, if_true]
        split
        · rfl
        · rename_i e; exact (Ho.out j (by simpa using e)).symm
theorem rsettle_any (h : RefAt w B A d L) (hz : 1 ≤ d.size) (hz2 : d.size ≤ 4096) (hsame : ∀ k, d.chg k = false → d.now k = d.synced k) : Calls Try.prog 81 #[.pointer (some ⟨A.b, 0, none⟩)] w fun e w' => e = .returned (.tuple #[]) ∧ RefAt w' B A d.settle L ∧ Keeps A.S w w' :=
  (rsettle_more h hz hz2 hsame).mono fun _ _ ⟨a, b, c, _⟩ => ⟨a, b, c⟩
end
end Go.Proofs.Ytnficiohnhodiaa


/-
  The document's device: Sync, Write.
-/
namespace Go.Proofs.Ytnficiohnhodiaa
open Go.RowKit
section
variable {w : World} {B : Nat} {A : RAd} {d : Dev} {L : Int} {n : Nat}
theorem step_code (d : Dev) : d.step.1 = 0 ∨ d.step.1 = 3 := by unfold Dev.step; split <;> simp
theorem step_avoids {w w' : World} (h : RefAt w B A d L) (hk : Keeps (· = A.b) w w') : Avoids A w w' B d d.step.2 (fun k => w.heap.size ≤ k) := by
  intro F hF _ h1 h2
  obtain ⟨e1, e2, _⟩ := step_maps d
  rw [e1, e2, step_size]
  have fb : ∀ k, k = A.b → F k := fun k e => hF k (.inl e)
  exact ⟨h1.keeps hk (fun k e e' => (h.ap1 k e).1 e') fb, h2.keeps hk (fun k e e' => (h.ap2 k e).1 e') fb⟩
set_option maxRecDepth 100000 in
theorem rsync_more (h : RefAt w B A d L) (ho : d.Ok n) (hn : n ≤ 1000000) (hL : L ≤ 9223372036854775807) (hL0 : -100000000 ≤ L) : Calls Try.prog 55 #[.pointer (some ⟨A.b, 0, none⟩)] w fun e w' => e = .returned (.int .i64 d.sync.1) ∧ RefAt w' B A d.sync.2 (stepL d L) ∧ Keeps A.S w w' ∧ Avoids A w w' B d d.sync.2 (fun k => w.heap.size ≤ k) := by
  have hav := fun w' (k : Keeps (· = A.b) w w') => step_avoids h k
  have hst := rstep_any h ho hn hL hL0
  have hok := ho.step
  clear h
  by_cases hz : d.step.1 = 0
  · have e : d.sync = (0, { d.step.2 with syncs := d.step.2.syncs + 1 }.settle) := by unfold Dev.sync; rw [if_pos hz]
    rw [e]
    rw [hz] at hst
    have b0 := hok.y0
    have b1 := hok.y1
    have b2 := hok.s1
    have z1 := hok.z1
    have z2 := hok.z2
    have Hs : Hid (∀ k, d.step.2.chg k = false → d.step.2.now k = d.step.2.synced k) := Lib.hid hok.same
    clear e hz hok ho
    generalize stepL d L = L1 at hst ⊢
    generalize d.step.2 = d1 at hst hav b0 b1 b2 z1 z2 Hs ⊢
    go_enter Try.func55, Try.ntmps55
    go_wp2_with (first
      | (go_at_call 80; (with_reducible refine hst.mono ?_); rintro _ w1 ⟨rfl, h1, k1⟩; clear hst; have c4 := h1.cells.c4; have f4 := h1.free 4; have H1 := Lib.hid h1; have K1 := Lib.hid k1; have HA1 := Lib.hid (hav _ k1); clear h1 k1 hav)
      | (go_at_call 81; (have H2 : RefAt (w1.setCell ⟨A.b, 4, none⟩ (.int .i64 (d1.syncs + 1))) B A { d1 with syncs := d1.syncs + 1 } L1 := H1.out.cell (d' := { d1 with syncs := d1.syncs + 1 }) 4 (.int .i64 (d1.syncs + 1)) rfl rfl rfl rfl rfl H1.out.left H1.out.l0); (with_reducible refine (rsettle_more H2 z1 z2 Hs.out).mono ?_); rintro _ w2 ⟨rfl, h2, k2, a2⟩; have H3 := Lib.hid h2; have K2 := Lib.hid k2; have HA2 := Lib.hid a2; clear h2 k2 H2 a2))
    go_ret
    refine ⟨rfl, H3.out, (K1.out.mono (fun k _ e => Or.inl e)).trans ((Keeps.cellAt (S := A.S) (.inl rfl) _).trans K2.out), fun F hF hN r1 r2 => ?_⟩
    obtain ⟨s1, s2⟩ := HA1.out F hF hN r1 r2
    have kc : Keeps (· = A.b) w1 (w1.setCell ⟨A.b, 4, none⟩ (.int .i64 (d1.syncs + 1))) := Keeps.cellAt (S := (· = A.b)) rfl _
    have fb : ∀ k, k = A.b → F k := fun k e => hF k (.inl e)
    exact HA2.out F hF (fun _ _ e => e) (s1.keeps kc (fun k e e' => (H1.out.ap1 k e).1 e') fb) (s2.keeps kc (fun k e e' => (H1.out.ap2 k e).1 e') fb)
  · have e : d.sync = d.step := by unfold Dev.sync; rw [if_neg hz]
    have e3 : d.step.1 = 3 := by rcases step_code d with h | h; exact absurd h hz; exact h
    rw [e]
    rw [e3] at hst ⊢
    clear e hz hok ho e3
    generalize stepL d L = L1 at hst ⊢
    generalize d.step.2 = d1 at hst hav ⊢
    go_enter Try.func55, Try.ntmps55
    go_wp2_with (go_at_call 80; (with_reducible refine hst.mono ?_); rintro _ w1 ⟨rfl, h1, k1⟩; clear hst; have H1 := Lib.hid h1; have K1 := Lib.hid k1; have HA1 := Lib.hid (hav _ k1); clear h1 k1 hav)
    go_ret
    exact ⟨rfl, H1.out, K1.out.mono (fun k _ e => Or.inl e), HA1.out⟩
theorem rsync_any (h : RefAt w B A d L) (ho : d.Ok n) (hn : n ≤ 1000000) (hL : L ≤ 9223372036854775807) (hL0 : -100000000 ≤ L) : Calls Try.prog 55 #[.pointer (some ⟨A.b, 0, none⟩)] w fun e w' => e = .returned (.int .i64 d.sync.1) ∧ RefAt w' B A d.sync.2 (stepL d L) ∧ Keeps A.S w w' :=
  (rsync_more h ho hn hL hL0).mono fun _ _ ⟨a, b, c, _⟩ => ⟨a, b, c⟩
/-- a row is put in its place, and marked -/
theorem RefAt.putAt (h : RefAt w B A d L) {i : Nat} (hi : i < d.size.toNat) {q : Option Addr} {c2 : Nat} {l : List UInt8} (hx : Bytes w (.slice q l.length c2) l) (hS : ∀ k, (Value.slice q l.length c2).ownBlock = some k → ¬ A.S k) :
    ∃ g o c gc oc cc, A.vn = .slice (some ⟨g, o, none⟩) d.size.toNat c ∧ A.vc = .slice (some ⟨gc, oc, none⟩) d.size.toNat cc ∧ (∃ x, w.cell? ⟨g, o + i, none⟩ = some x) ∧ w.frozen? ⟨g, o + i, none⟩ = false ∧
    (w.setCell ⟨g, o + i, none⟩ (.slice q l.length c2)).cell? ⟨A.b, 2, none⟩ = some A.vc ∧ (∃ x, (w.setCell ⟨g, o + i, none⟩ (.slice q l.length c2)).cell? ⟨gc, oc + i, none⟩ = some x) ∧ (w.setCell ⟨g, o + i, none⟩ (.slice q l.length c2)).frozen? ⟨gc, oc + i, none⟩ = false ∧
    RefAt ((w.setCell ⟨g, o + i, none⟩ (.slice q l.length c2)).setCell ⟨gc, oc + i, none⟩ (.bool true)) B A (d.put i l) L ∧ Keeps A.S w ((w.setCell ⟨g, o + i, none⟩ (.slice q l.length c2)).setCell ⟨gc, oc + i, none⟩ (.bool true)) ∧
    Avoids A w ((w.setCell ⟨g, o + i, none⟩ (.slice q l.length c2)).setCell ⟨gc, oc + i, none⟩ (.bool true)) B d (d.put i l) (fun k => (Value.slice q l.length c2).ownBlock = some k) := by
  obtain ⟨g, o, c, q0, c0, ev, hc, hf, _, _, _⟩ := h.now.at hi
  obtain ⟨gc, oc, cc, evc, hcc⟩ : ∃ gc oc cc, A.vc = .slice (some ⟨gc, oc, none⟩) d.size.toNat cc ∧ w.cell? ⟨gc, oc + i, none⟩ = some (.bool (d.chg i)) := by
    rcases h.chg with ⟨_, e⟩ | ⟨gc, oc, cc, e, _, _, _, _, _, h6⟩
    · have := congrArg List.length e; rw [boolsV_len] at this; simp only [List.length_nil] at this; omega
    · rw [boolsV_len] at e; exact ⟨gc, oc, cc, e, h6 i _ (boolsV_at _ hi)⟩
  have hfc : w.frozen? ⟨gc, oc + i, none⟩ = false := by
    have h1 := h.chg; rw [evc] at h1; exact (h1.cellAt (boolsV_at _ hi)).2
  have a1 := h.ap1 g (by rw [ev]; rfl)
  have a3 := h.ap3 gc (by rw [evc]; rfl)
  have hgc : g ≠ gc := fun e => a1.2.2 (by rw [evc, e]; rfl)
  have hK1 : Keeps (· = g) w (w.setCell ⟨g, o + i, none⟩ (.slice q l.length c2)) := Keeps.cellAt (S := (· = g)) rfl _
  have hK2 : Keeps (· = gc) (w.setCell ⟨g, o + i, none⟩ (.slice q l.length c2)) ((w.setCell ⟨g, o + i, none⟩ (.slice q l.length c2)).setCell ⟨gc, oc + i, none⟩ (.bool true)) := Keeps.cellAt (S := (· = gc)) rfl _
  have sg : A.S g := .inr (.inl (by rw [ev]; rfl))
  have sgc : A.S gc := .inr (.inr (.inr (by rw [evc]; rfl)))
  refine ⟨g, o, c, gc, oc, cc, ev, evc, ⟨_, hc⟩, hf, ?_, ?_, ?_, ⟨?_, ?_, ?_, ?_, h.low, h.ap1, h.ap2, h.ap3, h.left, h.l0⟩, ?_, ?_⟩
  · exact hK1.cell h.cells.c2 (fun e => a1.1 e.symm)
  · exact ⟨_, hK1.cell hcc (fun e => hgc e.symm)⟩
  · rw [World.frozen?_setCell]; exact hfc
  · exact hK2.at (hK1.at h.self (fun e => a1.1 e.symm)) (fun e => a3 e.symm)
  · have h1 := h.now
    rw [ev] at h1 ⊢
    exact (h1.set sg hi hx hS).keeps hK2 (fun k e e' => hgc ((own_slice e).symm.trans e')) (fun k e => by have e' : k = gc := e; rw [e']; exact sgc)
  · have h1 := h.synced
    exact (h1.keeps hK1 (fun k e e' => a1.2.1 (by have e2 : k = g := e'; rw [← e2]; exact e)) (fun k e => by have e' : k = g := e; rw [e']; exact sg)).keeps hK2 (fun k e e' => (h.ap2 k e).2 (by have e2 : k = gc := e'; rw [evc, e2]; rfl)) (fun k e => by have e' : k = gc := e; rw [e']; exact sgc)
  · have h1 := h.chg
    rw [evc] at h1 ⊢
    show SubRow _ _ _ (boolsV (fun j => if j = (i : Int) then true else d.chg j) d.size.toNat)
    rw [← boolsV_set]
    exact (h1.block_keeps hK1 (fun k e e' => hgc (e'.symm.trans (own_slice e)))).set i (by rw [boolsV_len]; exact hi) _
  · exact (hK1.mono (fun k _ e => by have e' : k = g := e; rw [e']; exact sg)).trans (hK2.mono (fun k _ e => by have e' : k = gc := e; rw [e']; exact sgc))
  · intro F hF hN h1 h2
    have fg := hF g sg
    have fgc := hF gc sgc
    refine ⟨?_, ?_⟩
    · rw [ev] at h1 ⊢
      exact (h1.set fg hi hx (fun k e e' => hN k e' e)).keeps hK2 (fun k e e' => hgc ((own_slice e).symm.trans e')) (fun k e => by have e' : k = gc := e; rw [e']; exact fgc)
    · exact (h2.keeps hK1 (fun k e e' => a1.2.1 (by have e2 : k = g := e'; rw [← e2]; exact e)) (fun k e => by have e' : k = g := e; rw [e']; exact fg)).keeps hK2 (fun k e e' => (h.ap2 k e).2 (by have e2 : k = gc := e'; rw [evc, e2]; rfl)) (fun k e => by have e' : k = gc := e; rw [e']; exact fgc)
/-- its blocks are there -/
theorem RefAt.lt (h : RefAt w B A d L) (k : Nat) (hk : A.S k) : k < w.heap.size := by
  rcases hk with rfl | e | e | e
  · exact (Array.getElem?_eq_some_iff.1 h.self).1
  · obtain ⟨rows, _, hs, _⟩ := h.now; exact (hs.lt k e).2
  · obtain ⟨rows, _, hs, _⟩ := h.synced; exact (hs.lt k e).2
  · exact (h.chg.lt k e).2
end
end Go.Proofs.Ytnficiohnhodiaa


/-
  The document's device: Write.
-/
namespace Go.Proofs.Ytnficiohnhodiaa
open Go.RowKit
def writeL (d : Dev) (at_ : Int) (l : List UInt8) (L : Int) : Int := if (d.write at_ l).1 = 0 then L - 1 else L
theorem rowForm {w : World} {B : Nat} {v : Value} {l : List UInt8} (h : SubRow w B v (bytesV l)) (hl : 1 ≤ l.length) : ∃ g o c, v = .slice (some ⟨g, o, none⟩) l.length c ∧ B ≤ g ∧ g < w.heap.size := by
  rcases h with ⟨_, e⟩ | ⟨g, o, c, e, h1, h2, _⟩
  · have := congrArg List.length e; rw [bytesV_len] at this; simp only [List.length_nil] at this; omega
  · rw [bytesV_len] at e; exact ⟨g, o, c, e, h1, h2⟩
/-- 'append([]T{}, row...)': a new block -/
theorem run_append_fresh {P : Program} (w : World) (t ty e : TypeId) (i : TypeInfo) (z : Value) (bytes : Nat) (ht : P.underlying t = some (.slice e)) (hi : P.info? e = some i) (hz : i.zero = some z)
    (hsize : i.size = 1) (hby : i.bytes = bytes) (hzs : z.cells.size = 1) (B b : Nat) (x : Value) (news : List Value) (hs : Src P 1 t x news.length news w) (h0 : 1 ≤ news.length)
    (hmx : news.length ≤ maxLen) (hb : news.length * bytes ≤ 140737488355328) (hB : B ≤ w.heap.size) :
    ∃ v' w', (Builtin.append_ #[t, t] ty #[.slice (some ⟨b, 0, none⟩) 0 0, x]).run P w = .ok v' w' ∧ SubRow w' B v' news ∧ Keeps (fun _ => False) w w' := by
  have hm := hmx
  unfold maxLen at hm
  have hr := run_append_grow_src (P := P) w t t ty e i z ht hi hz (some ⟨b, 0, none⟩) 0 0 [] (by rw [hsize]; exact run_firstCells_some w.drew 1 0 ⟨b, 0, none⟩ 0 0 [] (by simp) (fun j u hu => by simp at hu)) x news.length news (by rw [hsize]; exact hs) (by simp; omega) (by simp; omega) (by rw [hby]; exact growslice_fits (by simp; omega) (by simpa using hb))
  simp only [List.nil_append, Nat.zero_add] at hr
  refine ⟨_, _, hr, .inr ⟨w.heap.size, 0, _, rfl, hB, by simp, ?_, ?_, ?_, ?_⟩, ((Keeps.refl _ w).drew).alloc _⟩
  · exact grownCap_ge w _ _ _
  · exact grownCap_le_maxLen w _ _ _ hmx
  · intro j hj
    have hge := grownCap_ge w news.length 0 e
    have hh := heap_alloc_new w.drew (.cells (news.toArray ++ Builtin.zeroCells z.cells (grownCap w news.length 0 e - news.length)) e)
    have hsz : (news.toArray ++ Builtin.zeroCells z.cells (grownCap w news.length 0 e - news.length)).size = grownCap w news.length 0 e := by
      rw [Array.size_append, size_zeroCells, hzs]; simp; omega
    have hc2 := cell_in (o := j) (u := (news.toArray ++ Builtin.zeroCells z.cells (grownCap w news.length 0 e - news.length))[j]'(by rw [hsz]; exact hj)) hh (Array.getElem?_eq_getElem _)
    rw [Nat.zero_add]
    refine ⟨by rw [show w.drew.heap.size = w.heap.size from rfl] at hc2; rw [hc2]; rfl, free_in (o := j) hh⟩
  · intro j u hu
    have hh := heap_alloc_new w.drew (.cells (news.toArray ++ Builtin.zeroCells z.cells (grownCap w news.length 0 e - news.length)) e)
    rw [Nat.zero_add]
    refine cell_in (o := j) (u := u) hh ?_
    rw [Array.getElem?_append_left (by have := (List.getElem?_eq_some_iff.1 hu).1; simpa using this)]
    simpa using hu
theorem gives_append {P : Program} {call : Bool} {a : Act} {w w' : World} {o : Oper} {s x : Operand} {t : TypeId} {v y r : Value} {post : Value → World → Prop} (ho : o.op = .call { callee := .builtin .append, args := #[s, x], argTypes := #[t, t] })
    (hs : a.eval s = v) (hx : a.eval x = y) (hr : (Builtin.append_ #[t, t] o.type #[v, y]).run P w = .ok r w') (h : post r w') : gives P call o a w post := by
  unfold gives execOp
  simp only [ho, resolve, invoke, builtin, Sem.run_bind, Sem.run_pure, Result.andThen_ok, List.map_toArray, List.map_cons, List.map_nil, hs, hx, hr]
  exact h
theorem append_bytes_sub {w : World} {B b : Nat} {v : Value} {l : List UInt8} {ty : TypeId} (hv : Bytes w v l) (h0 : 1 ≤ l.length) (hl : l.length ≤ 1000000000) (hB : B ≤ w.heap.size) :
    ∃ v' w', (Builtin.append_ #[52, 52] ty #[.slice (some ⟨b, 0, none⟩) 0 0, v]).run Try.prog w = .ok v' w' ∧ SubRow w' B v' (bytesV l) ∧ Keeps (fun _ => False) w w' := by
  obtain ⟨i0, hi, hz0, hz1, hz2⟩ := info_parts info8
  exact run_append_fresh (P := Try.prog) w 52 ty 5 i0 (.int .u8 0) 1 Try.underlying52 hi hz0 (by omega) (by omega) rfl B b v (bytesV l) hv.src (by rw [bytesV_len]; omega) (by unfold maxLen; rw [bytesV_len]; omega) (by rw [bytesV_len]; omega) hB
section
variable {w : World} {B : Nat} {A : RAd} {d : Dev} {L : Int} {n : Nat}
theorem Bytes.keeps_ne {S : Nat → Prop} {w w' : World} {v : Value} {l : List UInt8} (h : Bytes w v l) (hk : Keeps S w w') (hs : l ≠ [] → ∀ k, v.ownBlock = some k → ¬ S k) : Bytes w' v l := by
  cases l with
  | nil => obtain ⟨q, cap, rfl, h1, h2, _⟩ := h; exact ⟨q, cap, rfl, h1, h2, fun j b hb => by simp at hb⟩
  | cons b l => exact h.keeps hk (hs (by simp))
set_option maxRecDepth 100000 in
set_option maxHeartbeats 1000000 in
theorem rwrite_more (h : RefAt w B A d L) (ho : d.Ok n) (hn : n ≤ 1000000) (hL : L ≤ 9223372036854775807) (hL0 : -100000000 ≤ L) (at_ : Int) {v : Value} {l : List UInt8} (hv : Bytes w v l) (hvS : l ≠ [] → ∀ k, v.ownBlock = some k → ¬ A.S k) (hl : l.length ≤ 1000000000) :
    Calls Try.prog 51 #[.pointer (some ⟨A.b, 0, none⟩), .int .i64 at_, v] w fun e w' => e = .returned (.int .i64 (d.write at_ l).1) ∧ RefAt w' B A (d.write at_ l).2 (writeL d at_ l L) ∧ Keeps A.S w w' ∧ Avoids A w w' B d (d.write at_ l).2 (fun k => w.heap.size ≤ k) := by
  have hin := rin_any h ho.z1 at_
  have H := Lib.hid h
  have Hv := Lib.hid hv
  by_cases hr : at_ < 0 ∨ d.size ≤ at_
  · have e0 : (decide (0 ≤ at_) && decide (at_ < d.size)) = false := by simp; omega
    have e : d.write at_ l = (1, d) := by unfold Dev.write; rw [if_pos hr]
    have e2 : writeL d at_ l L = L := by unfold writeL; rw [e]; rfl
    rw [e0] at hin
    rw [e, e2]
    clear h hv hvS hr e0 e e2
    go_enter Try.func51, Try.ntmps51
    go_wp2_with (go_at_call 79; (with_reducible refine hin.mono ?_); rintro _ _ ⟨rfl, rfl⟩)
    go_ret
    exact ⟨rfl, H.out, Keeps.refl _ _, fun _ _ _ h1 h2 => ⟨h1, h2⟩⟩
  · have e0 : (decide (0 ≤ at_) && decide (at_ < d.size)) = true := by simp; omega
    rw [e0] at hin
    obtain ⟨q, c, ev, k1, k2, k3⟩ := hv
    subst ev
    by_cases hl2 : l.length ≠ 512
    · have e : d.write at_ l = (2, d) := by unfold Dev.write; rw [if_neg hr, if_pos hl2]
      have e2 : writeL d at_ l L = L := by unfold writeL; rw [e]; rfl
      have e3 : ((l.length : Int) != 512) = true := by simp; omega
      rw [e, e2]
      generalize l.length = m at e3 hin Hv
      clear h hvS hr e0 e e2 k1 k2 k3 hl2
      go_enter Try.func51, Try.ntmps51
      go_wp2_with (go_at_call 79; (with_reducible refine hin.mono ?_); rintro _ _ ⟨rfl, rfl⟩)
      go_ret
      exact ⟨rfl, H.out, Keeps.refl _ _, fun _ _ _ h1 h2 => ⟨h1, h2⟩⟩
    · have hl3 : l.length = 512 := by omega
      have hst := rstep_any h ho hn hL hL0
      rw [hl3] at Hv
      by_cases hz : d.step.1 = 0
      · have e : d.write at_ l = (0, d.step.2.put at_ l) := by unfold Dev.write; rw [if_neg hr, if_neg hl2, if_pos hz]
        have e2 : writeL d at_ l L = stepL d L := by unfold writeL stepL; rw [e, if_pos hz]; rfl
        rw [e, e2]
        rw [hz] at hst
        have es := step_size d
        obtain ⟨k, hk⟩ : ∃ k : Nat, at_ = (k : Int) := ⟨at_.toNat, by omega⟩
        subst hk
        have Hkl : Hid (k < d.step.2.size.toNat) := Lib.hid (by rw [es]; omega)
        have Hlt := Lib.hid h.lt
        have HvS : Hid (∀ k, (Value.slice q 512 c).ownBlock = some k → ¬ A.S k) := Lib.hid (fun k hk => hvS (by rintro rfl; simp at hl3) k (by cases q <;> exact hk))
        have Hl3 := Lib.hid hl3
        rw [hl3]
        have hav := fun w' (k : Keeps (· = A.b) w w') => step_avoids h k
        clear h hvS hr e0 e e2 k1 k2 k3 hl2 hz ho hl3 es
        generalize stepL d L = L1 at hst ⊢
        generalize d.step.2 = d1 at hst Hkl hav ⊢
        go_enter Try.func51, Try.ntmps51
        go_upto_region 7 with (first
          | (go_at_call 79; (with_reducible refine hin.mono ?_); rintro _ _ ⟨rfl, rfl⟩)
          | (go_at_call 80; (with_reducible refine hst.mono ?_); rintro _ w1 ⟨rfl, h1, k1⟩; clear hst; have H1 := Lib.hid h1; have K1 := Lib.hid k1; have HA1 := Lib.hid (hav _ k1); clear h1 k1 hav))
        have HV1 : Hid (Bytes w1 (.slice q 512 c) l) := Lib.hid (Hv.out.keeps K1.out (fun k hk e => HvS.out k hk (.inl e)))
        refine wp_region_text [] (fun _ => False) (fun w' => Keeps (fun _ => False) w1 w' ∧ w'.cell? ⟨A.b, 0, none⟩ = some A.vn) 8 (by kernel_rfl) (fun _ _ h k => ⟨h.1.trans k, k.cell h.2 (fun e => e)⟩) (by kernel_rfl) ⟨(Keeps.refl _ _).drew, H1.out.cells.c0⟩ ?_
        simp only [List.take_succ_cons, List.take_zero, List.drop_succ_cons, List.drop_zero]
        repeat (first | (refine text_pure (v := ?_) (by rfl) (fun w' => ?_) ?_; rotate_left; (focus ( go_simp; first | done | with_reducible rfl)); simp only [Act.put, List.setIfInBounds_toArray, List.set_cons_zero, List.set_cons_succ]) | (refine text_skip (by rfl) ?_; simp only [Act.put, List.setIfInBounds_toArray, List.set_cons_zero, List.set_cons_succ]))
        (refine text_read (v := ?_) (by rfl) (by kernel_rfl) (fun w' hB hm => ?_) ?_; rotate_left; (focus (have hc := hB.2; (try clear hm); (try clear hB); go_simp; first | done | with_reducible rfl)); simp only [Act.put, List.setIfInBounds_toArray, List.set_cons_zero, List.set_cons_succ])
        repeat (first | (refine text_pure (v := ?_) (by rfl) (fun w' => ?_) ?_; rotate_left; (focus ( go_simp; first | done | with_reducible rfl)); simp only [Act.put, List.setIfInBounds_toArray, List.set_cons_zero, List.set_cons_succ]) | (refine text_skip (by rfl) ?_; simp only [Act.put, List.setIfInBounds_toArray, List.set_cons_zero, List.set_cons_succ]))
        refine text_new (fun b : Nat => .slice (some ⟨b, 0, none⟩) 0 0) (fun b w' => SubRow w' w1.heap.size (.slice (some ⟨b, 0, none⟩) 0 0) []) (by rfl) (by kernel_rfl) (by kernel_rfl) (fun x y h => by injection h with h; injection h with h; injection h) (fun x => keepStable fun _ _ h k => h.block_keeps k (fun _ _ e => e)) (fun w' hB hm K hK => ?_) (fun b => ?_)
        · unfold gives
          go_simp
          refine hK _ _ ((Keeps.refl _ _).alloc _) (.inr ⟨w'.heap.size, 0, 0, rfl, hB.1.size, by simp, Nat.le_refl _, Nat.zero_le _, fun j hj => absurd hj (Nat.not_lt_zero _), fun j u hu => by simp at hu⟩)
        simp only [Act.put, List.setIfInBounds_toArray, List.set_cons_zero, List.set_cons_succ]
        repeat (first | (refine text_pure (v := ?_) (by rfl) (fun w' => ?_) ?_; rotate_left; (focus ( go_simp; first | done | with_reducible rfl)); simp only [Act.put, List.setIfInBounds_toArray, List.set_cons_zero, List.set_cons_succ]) | (refine text_skip (by rfl) ?_; simp only [Act.put, List.setIfInBounds_toArray, List.set_cons_zero, List.set_cons_succ]))
        refine text_new (fun b : Nat × Nat × Nat => .slice (some ⟨b.1, b.2.1, none⟩) 512 b.2.2) (fun b w' => SubRow w' w1.heap.size (.slice (some ⟨b.1, b.2.1, none⟩) 512 b.2.2) (bytesV l)) (by rfl) (by kernel_rfl) (by kernel_rfl) (fun x y h => by obtain ⟨x1, x2, x3⟩ := x; obtain ⟨y1, y2, y3⟩ := y; injection h with h _ h3; injection h with h; injection h with h1 h2 _; subst h1; subst h2; subst h3; rfl) (fun x => keepStable fun _ _ h k => h.block_keeps k (fun _ _ e => e)) (fun w' hB hm K hK => ?_) (fun b2 => ?_)
        · have hb1 := HV1.out.keeps hB.1 (fun _ _ e => e)
          obtain ⟨v2, w2, hr, hs2, hk2⟩ := append_bytes_sub (ty := 52) (b := b) hb1 (by rw [Hl3.out]; omega) (by rw [Hl3.out]; omega) hB.1.size
          obtain ⟨g2, o2, c2, e2, _, _⟩ := rowForm hs2 (by rw [Hl3.out]; omega)
          rw [Hl3.out] at e2
          subst e2
          exact gives_append (v := .slice (some ⟨b, 0, none⟩) 0 0) (y := .slice q 512 c) rfl rfl rfl hr (hK (g2, o2, c2) _ hk2 hs2)
        simp only [Act.put, List.setIfInBounds_toArray, List.set_cons_zero, List.set_cons_succ]
        refine text_nil fun w2 hB hF => ?_
        obtain ⟨g2, o2, c2⟩ := b2
        have HK2 := Lib.hid hB.1
        have c0 := hB.2
        have hs2 : SubRow w2 w1.heap.size (.slice (some ⟨g2, o2, none⟩) 512 c2) (bytesV l) := hF.1
        have hb2 : Bytes w2 (.slice (some ⟨g2, o2, none⟩) l.length c2) l := by rw [Hl3.out]; exact Bytes.of_sub hs2
        have hg2 : w1.heap.size ≤ g2 := (hs2.lt g2 rfl).1
        have H2 := H1.out.below (HK2.out.below (Nat.le_refl _) (fun _ _ e => e))
        obtain ⟨g, o, c3, gc, oc, cc, e1, e2, ⟨x1, h1⟩, h2, h3, ⟨x2, h4⟩, h5, h6, h7, h8⟩ := H2.putAt (i := k) Hkl.out hb2 (fun k' e hk => by cases e; exact absurd (H1.out.lt _ hk) (Nat.not_lt.2 hg2))
        rw [Hl3.out] at h3 h4 h5 h6 h7 h8
        have c0 := hB.2
        have hkl := Hkl.out
        rw [e1] at c0 ⊢
        rw [e2] at h3
        have H6 := Lib.hid h6
        have H7 := Lib.hid h7
        have H8 := Lib.hid h8
        have HG2 := Lib.hid hg2
        generalize d1.size.toNat = N at c0 h3 hkl ⊢
        have hkl2 : (k : Int) < (N : Int) := by omega
        clear hF hB hs2 hb2 hg2 H2 e1 e2 h6 h7 h8
        go_wp2
        refine Calm.normal ?_
        go_wp2
        go_ret
        refine ⟨rfl, H6.out, (K1.out.mono (fun k _ e => Or.inl e)).trans ((HK2.out.mono (fun _ _ e => e.elim)).trans H7.out), ?_⟩
        intro F hF hN r1 r2
        obtain ⟨s1, s2⟩ := HA1.out F hF hN r1 r2
        exact H8.out F hF (fun k hk e => hN k hk (by have e1 : (some g2 : Option Nat) = some k := e; injection e1 with e1; have := K1.out.size; have := HG2.out; omega)) (RowsAt.keeps (T := fun _ => False) s1 HK2.out (fun _ _ e => e) (fun _ e => e.elim)) (RowsAt.keeps (T := fun _ => False) s2 HK2.out (fun _ _ e => e) (fun _ e => e.elim))
      · have e : d.write at_ l = d.step := by unfold Dev.write; rw [if_neg hr, if_neg hl2, if_neg hz]
        have e2 : writeL d at_ l L = stepL d L := by unfold writeL stepL; rw [e]
        have e3 : d.step.1 = 3 := by rcases step_code d with h | h; exact absurd h hz; exact h
        rw [e, e2]
        rw [e3] at hst ⊢
        rw [hl3]
        have hav := fun w' (k : Keeps (· = A.b) w w') => step_avoids h k
        clear h hvS hr e0 e e2 e3 k1 k2 k3 hl2 hz ho hl3
        generalize stepL d L = L1 at hst ⊢
        generalize d.step.2 = d1 at hst hav ⊢
        go_enter Try.func51, Try.ntmps51
        go_wp2_with (first
          | (go_at_call 79; (with_reducible refine hin.mono ?_); rintro _ _ ⟨rfl, rfl⟩)
          | (go_at_call 80; (with_reducible refine hst.mono ?_); rintro _ w1 ⟨rfl, h1, k1⟩; clear hst; have H1 := Lib.hid h1; have K1 := Lib.hid k1; have HA1 := Lib.hid (hav _ k1); clear h1 k1 hav))
        go_ret
        exact ⟨rfl, H1.out, K1.out.mono (fun k _ e => Or.inl e), HA1.out⟩
theorem rwrite_any (h : RefAt w B A d L) (ho : d.Ok n) (hn : n ≤ 1000000) (hL : L ≤ 9223372036854775807) (hL0 : -100000000 ≤ L) (at_ : Int) {v : Value} {l : List UInt8} (hv : Bytes w v l) (hvS : ∀ k, v.ownBlock = some k → ¬ A.S k) (hl : l.length ≤ 1000000000) :
    Calls Try.prog 51 #[.pointer (some ⟨A.b, 0, none⟩), .int .i64 at_, v] w fun e w' => e = .returned (.int .i64 (d.write at_ l).1) ∧ RefAt w' B A (d.write at_ l).2 (writeL d at_ l L) ∧ Keeps A.S w w' :=
  (rwrite_more h ho hn hL hL0 at_ hv (fun _ => hvS) hl).mono fun _ _ ⟨a, b, c, _⟩ => ⟨a, b, c⟩
end
end Go.Proofs.Ytnficiohnhodiaa


/-
  The document's device: Unsynced.
-/
namespace Go.Proofs.Ytnficiohnhodiaa
open Go.RowKit
theorem infoInt : (Try.prog.info? 3).map (fun i => (i.zero, i.size, i.bytes)) = some (some (.int .i64 0), 1, 8) := by kernel_rfl
theorem src_cell {P : Program} {w : World} {t e : TypeId} (ht : P.underlying t = some (.slice e)) (x : Value) (hx : x.oneCell' = true) (T : TypeId) : Src P 1 t (.slice (some ⟨w.heap.size, 0, none⟩) 1 1) [x].length [x] (w.alloc (.cells #[x] T)) := by
  refine Src.ofSlice _ ht ⟨w.heap.size, 0, none⟩ 1 1 _ (by simp) (fun j u hu => ?_) (fun u hu => by simp at hu; subst hu; exact hx)
  cases j with
  | zero => simp at hu; subst hu; exact cell_in (heap_alloc_new w _) rfl
  | succ j => simp at hu
theorem Ints.of_sub {w : World} {B : Nat} {v : Value} {L : List Int} (h : SubRow w B v (L.map (Value.int .i64))) : Ints w v L := by
  rcases h with ⟨rfl, e⟩ | ⟨g, off, cap, rfl, _, _, h3, h4, _, h6⟩
  · have : L = [] := by simpa using e
    subst this
    exact ⟨none, 0, rfl, Nat.le_refl _, Nat.zero_le _, fun j x hx => by simp at hx⟩
  · rw [List.length_map] at h3
    exact ⟨_, cap, by rw [List.length_map], h3, h4, fun j x hx => ⟨g, off, rfl, h6 j _ (by rw [List.getElem?_map, hx]; rfl)⟩⟩
def Dev.unsTo (d : Dev) (i : Nat) : List Int := ((List.range i).filter fun (i : Nat) => d.chg i).map fun (i : Nat) => (i : Int)
theorem unsTo_succ (d : Dev) (i : Nat) : d.unsTo (i + 1) = if d.chg i then d.unsTo i ++ [(i : Int)] else d.unsTo i := by
  unfold Dev.unsTo
  rw [List.range_succ, List.filter_append]
  cases h : d.chg i <;> simp [h]
theorem unsTo_len (d : Dev) (i : Nat) : (d.unsTo i).length ≤ i := by
  unfold Dev.unsTo
  rw [List.length_map]
  exact Nat.le_trans (List.length_filter_le _ _) (by simp)
section
variable {w : World} {B : Nat} {A : RAd} {d : Dev} {L : Int} {n : Nat}
theorem RefAt.mark (h : RefAt w B A d L) {i : Nat} (hi : i < d.size.toNat) : ∃ gc oc cc, A.vc = .slice (some ⟨gc, oc, none⟩) d.size.toNat cc ∧ w.cell? ⟨gc, oc + i, none⟩ = some (.bool (d.chg i)) := by
  rcases h.chg with ⟨_, e⟩ | ⟨gc, oc, cc, e, _, _, _, _, _, h6⟩
  · have := congrArg List.length e; rw [boolsV_len] at this; simp only [List.length_nil] at this; omega
  · rw [boolsV_len] at e; exact ⟨gc, oc, cc, e, h6 i _ (boolsV_at _ hi)⟩
set_option maxRecDepth 100000 in
set_option maxHeartbeats 1000000 in
theorem runsynced_any (h : RefAt w B A d L) (hz : 1 ≤ d.size) (hz2 : d.size ≤ 4096) : Calls Try.prog 30 #[.pointer (some ⟨A.b, 0, none⟩)] w fun e w' => ∃ v, e = .returned v ∧ SubRow w' w.heap.size v (d.unsynced.map (Value.int .i64)) ∧ Below w.heap.size w w' := by
  have H := Lib.hid h
  obtain ⟨N, hN⟩ : ∃ N : Nat, d.size.toNat = N := ⟨_, rfl⟩
  have HN := Lib.hid hN
  have hN2 : N ≤ 4096 := by omega
  obtain ⟨i0, hi, hz0, hz1, hz2'⟩ := info_parts infoInt
  clear h hN
  go_enter Try.func30, Try.ntmps30
  go_wp2
  go_loopw [3, 4] (fun v t wr => ∃ i : Nat, t = .int .i64 i ∧ i ≤ N ∧ SubRow wr w.heap.size v ((d.unsTo i).map (Value.int .i64)) ∧ Below w.heap.size w wr) (fun _ t _ => N - (intOf t).toNat)
  case atStart => exact ⟨0, rfl, Nat.zero_le _, .inl ⟨rfl, rfl⟩, Below.refl _ _⟩
  case round =>
    obtain ⟨i, rfl, hiN, hO, hb⟩ := hrel
    have HR := Lib.hid (H.out.below hb)
    have c0 := HR.out.cells.c0
    obtain ⟨q0, cc0, ev, _, _⟩ := HR.out.now.form
    rw [ev, HN.out] at c0
    clear ev
    by_cases hlt : i < N
    · have e1 : decide ((i : Int) < (N : Int)) = true := by simp; omega
      obtain ⟨gc, oc, cc, evc, hcc⟩ := HR.out.mark (i := i) (by rw [HN.out]; exact hlt)
      have c2 := HR.out.cells.c2
      rw [evc, HN.out] at c2
      have hun := unsTo_succ d i
      have Hul : Hid (((d.unsTo i).map (Value.int .i64)).length ≤ 4096) := Lib.hid (by rw [List.length_map]; have := unsTo_len d i; omega)
      have hbs := hb.size
      clear evc
      cases hch : d.chg i
      · rw [hch] at hcc hun
        rw [if_neg (by simp)] at hun
        have Hun := Lib.hid hun
        clear hch hun Hul
        go_wp2
        go_roundw
        case rel => exact ⟨i + 1, by go_num, by omega, by rw [Hun.out]; exact hO, hb⟩
        case measure => simp [intOf]; omega
      · rw [hch] at hcc hun
        rw [if_pos rfl] at hun
        have Hun := Lib.hid hun
        clear hch hun
        go_wp2_with (at_builtin; refine wpList_append_sub _ rfl _ _ 41 rfl 3 i0 (.int .i64 0) 8 Try.underlying41 hi hz0 hz1 hz2' rfl w.heap.size _ ((d.unsTo i).map (Value.int .i64)) rfl (hO.below ((Below.refl _ _).alloc (Nat.le_refl _) _)) _ rfl [.int .i64 i] (src_cell Try.underlying41 _ rfl _) (by have := Hul.out; simp only [List.length_cons, List.length_nil]; unfold maxLen; omega) (by have := Hul.out; simp only [List.length_cons, List.length_nil]; omega) (by simp; omega) ?_; intro v' w7 h7 hk7 hn7)
        have hlt7 := hO.lt
        have hb7 : Below w.heap.size w w7 := (hb.alloc hbs _).trans (hk7.below (by simp; omega) (fun j hj e => by have := (hlt7 j e).1; omega))
        have h7' : SubRow w7 w.heap.size v' ((d.unsTo (i + 1)).map (Value.int .i64)) := by rw [Hun.out, List.map_append]; exact h7
        clear hk7 hn7 hlt7 hO hb h7
        go_wp2
        go_roundw
        case rel => exact ⟨i + 1, by go_num, by omega, h7', hb7⟩
        case measure => simp [intOf]; omega
    · obtain rfl : i = N := by omega
      have e1 : decide ((i : Int) < (i : Int)) = false := by simp
      go_wp2
      go_ret
      have e2 : d.unsTo i = d.unsynced := by unfold Dev.unsTo Dev.unsynced; rw [HN.out]
      rw [e2] at hO
      exact ⟨_, rfl, hO, hb⟩
end
end Go.Proofs.Ytnficiohnhodiaa
