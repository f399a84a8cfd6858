import Derived.Test.YtnficiohnhodiaaLockZ
import Derived.Test.YtnficiohnhodiaaLow
import Derived.Deep.AppendLies
/-
  The document's table of locks: how it lies in memory; Along, Holds.
-/
namespace Go.Proofs.Ytnficiohnhodiaa
open Go.RowKit
structure Lk where
  txn : Int
  page : Int
  mode : Int
def Lk.vals (x : Lk) : List Value := [.int .i64 x.txn, .int .i64 x.page, .int .i64 x.mode]
def lkV (l : List Lk) : List Value := l.flatMap Lk.vals
theorem lkV_nil : lkV [] = [] := rfl
theorem lkV_cons (x : Lk) (l : List Lk) : lkV (x :: l) = .int .i64 x.txn :: .int .i64 x.page :: .int .i64 x.mode :: lkV l := rfl
theorem lkV_append (l r : List Lk) : lkV (l ++ r) = lkV l ++ lkV r := by unfold lkV; rw [List.flatMap_append]
theorem lkV_len (l : List Lk) : (lkV l).length = l.length * 3 := by
  induction l with
  | nil => rfl
  | cons x l ih => rw [lkV_cons]; simp only [List.length_cons]; omega
theorem lkV_at {l : List Lk} {i : Nat} {x : Lk} (h : l[i]? = some x) : (lkV l)[i * 3]? = some (.int .i64 x.txn) ∧ (lkV l)[i * 3 + 1]? = some (.int .i64 x.page) ∧ (lkV l)[i * 3 + 2]? = some (.int .i64 x.mode) := by
  induction l generalizing i with
  | nil => simp at h
  | cons y l ih =>
    rw [lkV_cons]
    cases i with
    | zero => simp at h; subst h; exact ⟨rfl, rfl, rfl⟩
    | succ i =>
      obtain ⟨h1, h2, h3⟩ := ih (i := i) (by simpa using h)
      rw [show (i + 1) * 3 = i * 3 + 3 from by omega]
      exact ⟨by simpa using h1, by simpa using h2, by simpa using h3⟩
theorem lkV_one (l : List Lk) : ∀ u ∈ lkV l, u.oneCell' = true := by
  intro u hu
  obtain ⟨x, _, hx⟩ := List.mem_flatMap.1 hu
  unfold Lk.vals at hx
  simp at hx
  rcases hx with rfl | rfl | rfl <;> rfl
/-- a slice of locks in a block of its own -/
def RowK (w : World) (B : Nat) (v : Value) (l : List Lk) : Prop := w.ownsRow B 82 3 v l.length (lkV l)
theorem RowK.nil (w : World) (B : Nat) : RowK w B (.slice none 0 0) [] := World.ownsRow_nil _ _ _ _
theorem RowK.keeps {S : Nat → Prop} {w w' : World} {B : Nat} {v : Value} {l : List Lk} (h : RowK w B v l) (hk : Keeps S w w') (hs : ∀ k, v.ownBlock = some k → ¬ S k) : RowK w' B v l := by
  obtain ⟨h0, h1⟩ := h
  refine ⟨h0, ?_⟩
  rcases h1 with h1 | ⟨g, cap, cur, rfl, hb, hg, h2⟩
  · exact .inl h1
  · exact .inr ⟨g, cap, cur, rfl, hb, hk.at hg (hs g rfl), h2⟩
theorem RowK.form {w : World} {B : Nat} {v : Value} {l : List Lk} (h : RowK w B v l) : ∃ q c, v = .slice q l.length c ∧ l.length ≤ c ∧ c ≤ maxLen := by
  rcases h.2 with ⟨rfl, h0⟩ | ⟨g, cap, cur, rfl, _, _, h1, h2, _⟩
  · exact ⟨none, 0, by rw [h0], by omega, Nat.zero_le _⟩
  · exact ⟨_, cap, rfl, h1, h2⟩
theorem RowK.lt {w : World} {B : Nat} {v : Value} {l : List Lk} (h : RowK w B v l) : ∀ k, v.ownBlock = some k → B ≤ k ∧ k < w.heap.size := World.ownsRow.lt h
theorem RowK.at {w : World} {B : Nat} {v : Value} {l : List Lk} (h : RowK w B v l) {i : Nat} {x : Lk} (hx : l[i]? = some x) :
    ∃ g c, v = .slice (some ⟨g, 0, none⟩) l.length c ∧ B ≤ g ∧ w.cell? ⟨g, i * 3, none⟩ = some (.int .i64 x.txn) ∧ w.cell? ⟨g, i * 3 + 1, none⟩ = some (.int .i64 x.page) ∧ w.cell? ⟨g, i * 3 + 2, none⟩ = some (.int .i64 x.mode) := by
  have hi := (List.getElem?_eq_some_iff.1 hx).1
  obtain ⟨g, c, rfl, hb, _⟩ := World.ownsRow.form h (by omega)
  obtain ⟨h1, h2, h3⟩ := lkV_at hx
  refine ⟨g, c, rfl, hb, ?_, ?_, ?_⟩
  · rw [World.ownsRow.cellAt h _ (by omega)]; exact h1
  · rw [World.ownsRow.cellAt h _ (by omega)]; exact h2
  · rw [World.ownsRow.cellAt h _ (by omega)]; exact h3
/-- the document's table, in the block b -/
structure TabAt (w : World) (B b : Nat) (vl vw : Value) (ls ws : List Lk) : Prop where
  self : w.heap[b]? = some (.cells #[vl, vw] 29 (0, 0))
  locks : RowK w B vl ls
  waits : RowK w B vw ws
  low : B ≤ b
  ap1 : vl.ownBlock ≠ some b
  ap2 : vw.ownBlock ≠ some b
  ap3 : ∀ k, vl.ownBlock = some k → vw.ownBlock ≠ some k
def TFoot (b : Nat) (vl vw : Value) (k : Nat) : Prop := k = b ∨ vl.ownBlock = some k ∨ vw.ownBlock = some k
section
variable {w w' : World} {B b : Nat} {vl vw : Value} {ls ws : List Lk}
theorem TabAt.keeps {S : Nat → Prop} (h : TabAt w B b vl vw ls ws) (hk : Keeps S w w') (hs : ∀ k, TFoot b vl vw k → ¬ S k) : TabAt w' B b vl vw ls ws :=
  ⟨hk.at h.self (hs _ (.inl rfl)), h.locks.keeps hk (fun k e => hs k (.inr (.inl e))), h.waits.keeps hk (fun k e => hs k (.inr (.inr e))), h.low, h.ap1, h.ap2, h.ap3⟩
theorem TabAt.below (h : TabAt w B b vl vw ls ws) (hb : Below w.heap.size w w') : TabAt w' B b vl vw ls ws := h.keeps (S := fun _ => False) (Keeps.of_below hb) (fun _ _ e => e)
theorem TabAt.lt (h : TabAt w B b vl vw ls ws) : ∀ k, TFoot b vl vw k → B ≤ k ∧ k < w.heap.size := by
  rintro k (rfl | e | e)
  · exact ⟨h.low, lt_of h.self⟩
  · exact h.locks.lt k e
  · exact h.waits.lt k e
theorem TabAt.c0 (h : TabAt w B b vl vw ls ws) : w.cell? ⟨b, 0, none⟩ = some vl := cell_in h.self rfl
theorem TabAt.c1 (h : TabAt w B b vl vw ls ws) : w.cell? ⟨b, 1, none⟩ = some vw := cell_in h.self rfl
def alongR (x y : Int) : Bool := (x == 1 && y == 1) || (x == 2 && y == 2)
set_option maxRecDepth 100000 in
theorem ralong_any (x y : Int) (w : World) : Calls Try.prog 71 #[.int .i64 x, .int .i64 y] w fun e w' => e = .returned (.bool (alongR x y)) ∧ w = w' := by
  unfold alongR
  by_cases h1 : x = 1
  · subst h1
    by_cases h2 : y = 1
    · subst h2
      go_enter Try.func71, Try.ntmps71
      go_wp2
      go_ret
      exact ⟨rfl, rfl⟩
    · have f2 : (y == 1) = false := by simpa using h2
      have e : ((1 : Int) == 1 && y == 1 || (1 : Int) == 2 && y == 2) = false := by rw [f2]; rfl
      rw [e]
      go_enter Try.func71, Try.ntmps71
      go_wp2
      go_ret
      exact ⟨rfl, rfl⟩
  · have f1 : (x == 1) = false := by simpa using h1
    by_cases h2 : x = 2
    · subst h2
      go_enter Try.func71, Try.ntmps71
      go_wp2
      go_ret
      exact ⟨by simp, rfl⟩
    · have f2 : (x == 2) = false := by simpa using h2
      go_enter Try.func71, Try.ntmps71
      go_wp2
      go_ret
      exact ⟨by simp [f1, f2], rfl⟩
def holdsR (ls : List Lk) (txn page : Int) : Int := ((ls.find? fun x => x.txn == txn && x.page == page).map (·.mode)).getD 0
theorem find_skip {α : Type} {p : α → Bool} {l : List α} {k : Nat} {x : α} (h : ∀ i y, i < k → l[i]? = some y → p y = false) (hx : l[k]? = some x) (hp : p x = true) : l.find? p = some x := by
  induction l generalizing k with
  | nil => simp at hx
  | cons y l ih =>
    cases k with
    | zero => simp at hx; subst hx; rw [List.find?_cons_of_pos hp]
    | succ k =>
      have h0 := h 0 y (by omega) rfl
      rw [List.find?_cons_of_neg (by simp [h0])]
      refine ih (k := k) (fun i z hi hz => h (i + 1) z (Nat.succ_lt_succ hi) (by simpa using hz)) (by simpa using hx)
theorem find_none' {α : Type} {p : α → Bool} {l : List α} (h : ∀ (i : Nat) y, l[i]? = some y → p y = false) : l.find? p = none := by
  rw [List.find?_eq_none]
  intro x hx
  obtain ⟨i, hi, e⟩ := List.getElem_of_mem hx
  have := h i x (by rw [List.getElem?_eq_getElem hi, e])
  simp [this]
set_option maxRecDepth 100000 in
set_option maxHeartbeats 1000000 in
theorem rholds_any (h : TabAt w B b vl vw ls ws) (txn page : Int) : Calls Try.prog 15 #[.pointer (some ⟨b, 0, none⟩), .int .i64 txn, .int .i64 page] w fun e w' => e = .returned (.int .i64 (holdsR ls txn page)) ∧ w = w' := by
  have H := Lib.hid h
  obtain ⟨q, c, rfl, hc, hm⟩ := h.locks.form
  have c0 := h.c0
  unfold maxLen at hm
  clear h
  go_enter Try.func15, Try.ntmps15
  go_wp2
  go_loop [7] (fun i => ∃ k : Nat, i = .int .i64 k ∧ k ≤ ls.length ∧ Hid (∀ i y, i < k → ls[i]? = some y → (y.txn == txn && y.page == page) = false)) (fun i => ls.length - (intOf i).toNat)
  case atStart => exact ⟨0, rfl, by omega, Lib.hid (fun i y hi => absurd hi (Nat.not_lt_zero _))⟩
  case round =>
    obtain ⟨k, rfl, hk, Hall⟩ := hrel
    by_cases hlt : k < ls.length
    · obtain ⟨x, hx⟩ : ∃ x, ls[k]? = some x := ⟨_, List.getElem?_eq_getElem hlt⟩
      obtain ⟨g, c', ev, _, d0, d1, d2⟩ := H.out.locks.at hx
      injection ev with e1 _ e3
      subst e1 e3
      have Hx := Lib.hid hx
      clear hx
      have hki : (k : Int) < (ls.length : Int) := by omega
      by_cases e1 : x.txn = txn
      · by_cases e2 : x.page = page
        · have hf := find_skip Hall.out Hx.out (by simp [e1, e2])
          have hh : holdsR ls txn page = x.mode := by unfold holdsR; rw [hf]; rfl
          have Hh := Lib.hid hh
          clear hf hh
          go_wp2
          go_ret
          exact ⟨by rw [Hh.out]; rfl, rfl⟩
        · have hn : Hid (∀ i y, i < k + 1 → ls[i]? = some y → (y.txn == txn && y.page == page) = false) := Lib.hid (fun i y hi hy => by
            by_cases e : i = k
            · subst e; have e3 := Hx.out.symm.trans hy; injection e3 with e3; subst e3; simp [e2]
            · exact Hall.out i y (by omega) hy)
          go_wp2
          go_round
          case rel => exact ⟨k + 1, by go_num, by omega, hn⟩
          case measure => simp [intOf]; omega
      · have hn : Hid (∀ i y, i < k + 1 → ls[i]? = some y → (y.txn == txn && y.page == page) = false) := Lib.hid (fun i y hi hy => by
          by_cases e : i = k
          · subst e; have e3 := Hx.out.symm.trans hy; injection e3 with e3; subst e3; simp [e1]
          · exact Hall.out i y (by omega) hy)
        go_wp2
        go_round
        case rel => exact ⟨k + 1, by go_num, by omega, hn⟩
        case measure => simp [intOf]; omega
    · obtain rfl : k = ls.length := by omega
      have hf := find_none' (fun i y hy => Hall.out i y (List.getElem?_eq_some_iff.1 hy).1 hy)
      have hh : holdsR ls txn page = 0 := by unfold holdsR; rw [hf]; rfl
      have Hh := Lib.hid hh
      clear hf hh
      go_wp2
      go_ret
      exact ⟨by rw [Hh.out]; rfl, rfl⟩
end
end Go.Proofs.Ytnficiohnhodiaa
