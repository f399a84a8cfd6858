import Derived.Test.YtbaphjnglkocpaaW
import Derived.Deep.AppendSrc
import Derived.Deep.Upon
import Derived.Deep.MidRow
/-
  Rows of one-cell elements that may begin inside their block: what 's = s[1:]' makes of a row of the call's own, and appends to such rows.
-/
namespace Go.Proofs.Ytbaphjnglkocpaa
open Go.RowKit
/-- a row in a block from B on; its elements are xs; whoever holds it may write all its capacity -/
def SubRow (w : World) (B : Nat) (v : Value) (xs : List Value) : Prop :=
  (v = .slice none 0 0 ∧ xs = []) ∨
  ∃ g off cap, v = .slice (some ⟨g, off, none⟩) xs.length cap ∧ B ≤ g ∧ g < w.heap.size ∧ xs.length ≤ cap ∧ cap ≤ maxLen ∧
    (∀ j, j < cap → (w.cell? ⟨g, off + j, none⟩).isSome = true ∧ w.frozen? ⟨g, off + j, none⟩ = false) ∧ ∀ j u, xs[j]? = some u → w.cell? ⟨g, off + j, none⟩ = some u
theorem SubRow.block_keeps {S : Nat → Prop} {w w' : World} {B : Nat} {v : Value} {xs : List Value} (h : SubRow w B v xs) (hk : Keeps S w w') (hs : ∀ k, v.ownBlock = some k → ¬ S k) : SubRow w' B v xs := by
  rcases h with h | ⟨g, off, cap, rfl, h1, h2, h3, h4, h5, h6⟩
  · exact .inl h
  · have hb := hk.block g h2 (hs g rfl)
    refine .inr ⟨g, off, cap, rfl, h1, Nat.lt_of_lt_of_le h2 hk.size, h3, h4, fun j hj => ?_, fun j u hu => ?_⟩
    · rw [World.cell?_of_block (a := ⟨g, off + j, none⟩) hb, World.frozen?_of_block (a := ⟨g, off + j, none⟩) hb]; exact h5 j hj
    · rw [World.cell?_of_block (a := ⟨g, off + j, none⟩) hb]; exact h6 j u hu
theorem SubRow.keeps {S : Nat → Prop} {w w' : World} {B : Nat} {v : Value} {xs : List Value} (h : SubRow w B v xs) (hk : Keeps S w w') (hs : ∀ k, S k → k < B) : SubRow w' B v xs := by
  refine h.block_keeps hk fun k hk' hS => ?_
  rcases h with ⟨rfl, _⟩ | ⟨g, off, cap, rfl, h1, _⟩
  · cases hk'
  · cases hk'; have := hs _ hS; simp at this; omega
theorem SubRow.below {w w' : World} {B : Nat} {v : Value} {xs : List Value} (h : SubRow w B v xs) (hb : Below w.heap.size w w') : SubRow w' B v xs := h.keeps (S := fun _ => False) (Keeps.of_below hb) (fun _ hf => hf.elim)
theorem SubRow.drewN {w : World} {B : Nat} {v : Value} {xs : List Value} (h : SubRow w B v xs) (n : Nat) : SubRow (w.drewN n) B v xs := h.keeps (S := fun _ => False) ((Keeps.refl _ _).drewN n) (fun _ hf => hf.elim)
theorem SubRow.weaken {w : World} {B B' : Nat} {v : Value} {xs : List Value} (h : SubRow w B v xs) (hb : B' ≤ B) : SubRow w B' v xs := by
  rcases h with h | ⟨g, off, cap, h0, h1, h2⟩
  · exact .inl h
  · exact .inr ⟨g, off, cap, h0, Nat.le_trans hb h1, h2⟩
theorem SubRow.of_owns {w : World} {B : Nat} {e : TypeId} {v : Value} {n : Nat} {xs : List Value} (h : w.ownsRow B e 1 v n xs) : SubRow w B v xs := by
  have hl : xs.length = n := by have := h.1; omega
  rcases h.2 with ⟨rfl, h0⟩ | ⟨g, cap, cur, rfl, h1, h2, h3, h4, h5, h6⟩
  · exact .inl ⟨rfl, List.eq_nil_of_length_eq_zero (by omega)⟩
  · refine .inr ⟨g, 0, cap, by rw [hl], h1, lt_of h2, by omega, h4, fun j hj => ?_, fun j u hu => ?_⟩
    · rw [cell_in (u := cur[j]'(by omega)) h2 (by rw [Nat.zero_add]; exact Array.getElem?_eq_getElem _)]
      exact ⟨rfl, free_in h2⟩
    · have hj := (List.getElem?_eq_some_iff.1 hu).1
      rw [Nat.zero_add, h.cellAt j (by omega)]; exact hu
theorem SubRow.lt {w : World} {B : Nat} {v : Value} {xs : List Value} (h : SubRow w B v xs) : ∀ k, v.ownBlock = some k → B ≤ k ∧ k < w.heap.size := by
  intro k hk
  rcases h with ⟨rfl, _⟩ | ⟨g, off, cap, rfl, h1, h2, _⟩
  · cases hk
  · cases hk; exact ⟨h1, h2⟩
/-- its shape, for the walk -/
theorem SubRow.form {w : World} {B : Nat} {v : Value} {xs : List Value} (h : SubRow w B v xs) : ∃ q cap, v = .slice q xs.length cap ∧ xs.length ≤ cap ∧ cap ≤ maxLen := by
  rcases h with ⟨rfl, rfl⟩ | ⟨g, off, cap, rfl, _, _, h3, h4, _⟩
  · exact ⟨none, 0, rfl, Nat.le_refl _, Nat.zero_le _⟩
  · exact ⟨_, cap, rfl, h3, h4⟩
theorem SubRow.at0 {w : World} {B : Nat} {v x : Value} {xs : List Value} (h : SubRow w B v (x :: xs)) : ∃ g off cap, v = .slice (some ⟨g, off, none⟩) (xs.length + 1) cap ∧ xs.length + 1 ≤ cap ∧ cap ≤ maxLen ∧ B ≤ g ∧ w.cell? ⟨g, off, none⟩ = some x := by
  rcases h with ⟨_, h0⟩ | ⟨g, off, cap, rfl, h1, h2, h3, h4, h5, h6⟩
  · cases h0
  · exact ⟨g, off, cap, rfl, h3, h4, h1, h6 0 x rfl⟩
/-- 's[1:]' -/
theorem SubRow.tail {w : World} {B g off cap : Nat} {x : Value} {xs : List Value} (h : SubRow w B (.slice (some ⟨g, off, none⟩) (xs.length + 1) cap) (x :: xs)) :
    SubRow w B (.slice (some (if cap = 1 then ⟨g, off, none⟩ else ⟨g, off + 1, none⟩)) xs.length (cap - 1)) xs := by
  rcases h with ⟨h0, _⟩ | ⟨g', off', cap', e, h1, h2, h3, h4, h5, h6⟩
  · cases h0
  · cases e
    rw [List.length_cons] at h3
    split
    · rename_i hc; subst hc
      have : xs.length = 0 := by omega
      exact .inr ⟨g, off, 0, rfl, h1, h2, by omega, by omega, fun j hj => by omega, fun j u hu => by rw [List.eq_nil_of_length_eq_zero this] at hu; simp at hu⟩
    · refine .inr ⟨g, off + 1, cap - 1, rfl, h1, h2, by omega, by omega, fun j hj => ?_, fun j u hu => ?_⟩
      · have := h5 (j + 1) (by omega); rwa [show off + (j + 1) = off + 1 + j from by omega] at this
      · have := h6 (j + 1) u (by simpa using hu); rwa [show off + (j + 1) = off + 1 + j from by omega] at this
theorem Keeps.setCells {w : World} (g o : Nat) (vs : List Value) : Keeps (· = g) w (w.setCells g o vs) := by
  have hk := World.keptBut_setCells g (may := fun p => p.block = g) vs o w (fun _ _ => rfl)
  refine ⟨hk.1, ?_, hk.2.1, ?_, fun k hk1 hk2 => World.heap_setCells_other w g o vs hk1 hk2⟩
  · clear hk
    induction vs generalizing w o with
    | nil => rfl
    | cons v r ih => rw [World.setCells, ih]; rfl
  · clear hk
    induction vs generalizing w o with
    | nil => exact Nat.le_refl _
    | cons v r ih => rw [World.setCells]; exact Nat.le_trans ((Keeps.refl (fun _ => True) w).setCell (.inl trivial) v).size (ih _)
section
variable {P : Program}
/-- 'append(s, news...)', or 'append(s, x)', of a row of the call's own -/
theorem run_append_sub (w : World) (t ty e : TypeId) (i : TypeInfo) (z : Value) (bytes : Nat) (ht : P.underlying t = some (.slice e)) (hi : P.info? e = some i) (hz : i.zero = some z)
    (hsize : i.size = 1) (hby : i.bytes = bytes) (hzs : z.cells.size = 1) (B : Nat) (v : Value) (xs : List Value) (h : SubRow w B v xs) (x : Value) (news : List Value) (hs : Src P 1 t x news.length news w)
    (hm : xs.length + news.length ≤ maxLen) (hb : (xs.length + news.length) * bytes ≤ 140737488355328) (hB : B ≤ w.heap.size) :
    ∃ v' w', (Builtin.append_ #[t, t] ty #[v, x]).run P w = .ok v' w' ∧ SubRow w' B v' (xs ++ news) ∧ Keeps (fun k => v.ownBlock = .some k) w w' ∧ (v'.ownBlock = v.ownBlock ∨ v'.ownBlock = .some w.heap.size) := by
  have hmx := hm
  unfold maxLen at hm
  have grow : ∀ (base : Option Addr) (cap : Nat), cap < xs.length + news.length → (Builtin.firstCells 1 xs.length (.slice base xs.length cap)).run P w.drew = .ok xs.toArray w.drew →
      ∃ v' w', (Builtin.append_ #[t, t] ty #[.slice base xs.length cap, x]).run P w = .ok v' w' ∧ SubRow w' B v' (xs ++ news) ∧ Keeps (fun k => (Value.slice base xs.length cap).ownBlock = .some k) w w' ∧ (v'.ownBlock = (Value.slice base xs.length cap).ownBlock ∨ v'.ownBlock = .some w.heap.size) := by
    intro base cap hc hold
    have hr := run_append_grow_src (P := P) w t t ty e i z ht hi hz base xs.length cap xs (by rw [hsize]; exact hold) x news.length news (by rw [hsize]; exact hs) hc (by omega) (by rw [hby]; exact growslice_fits hc hb)
    refine ⟨_, _, hr, .inr ⟨w.heap.size, 0, _, by rw [List.length_append], hB, by simp, ?_, ?_, ?_, ?_⟩, ?_, .inr rfl⟩
    · rw [List.length_append]; exact grownCap_ge w _ _ _
    · exact grownCap_le_maxLen w _ _ _ hmx
    · intro j hj
      have hge := grownCap_ge w (xs.length + news.length) cap e
      have hh := heap_alloc_new w.drew (.cells ((xs ++ news).toArray ++ Builtin.zeroCells z.cells (grownCap w (xs.length + news.length) cap e - (xs.length + news.length))) e)
      have hsz : ((xs ++ news).toArray ++ Builtin.zeroCells z.cells (grownCap w (xs.length + news.length) cap e - (xs.length + news.length))).size = grownCap w (xs.length + news.length) cap e := by
        rw [Array.size_append, size_zeroCells, hzs]; simp; omega
      have hc2 := cell_in (o := j) (u := ((xs ++ news).toArray ++ Builtin.zeroCells z.cells (grownCap w (xs.length + news.length) cap e - (xs.length + news.length)))[j]'(by rw [hsz]; exact hj)) hh (Array.getElem?_eq_getElem _)
      rw [Nat.zero_add]
      refine ⟨by rw [show w.drew.heap.size = w.heap.size from rfl] at hc2; rw [hc2]; rfl, free_in (o := j) hh⟩
    · intro j u hu
      have hh := heap_alloc_new w.drew (.cells ((xs ++ news).toArray ++ Builtin.zeroCells z.cells (grownCap w (xs.length + news.length) cap e - (xs.length + news.length))) e)
      rw [Nat.zero_add]
      refine cell_in (o := j) (u := u) hh ?_
      rw [Array.getElem?_append_left (by have := (List.getElem?_eq_some_iff.1 hu).1; simpa using this)]
      simpa using hu
    · exact ((Keeps.refl _ w).drew).alloc _
  rcases h with ⟨rfl, rfl⟩ | ⟨g, off, cap, rfl, h1, h2, h3, h4, h5, h6⟩
  · by_cases hn : news = []
    · subst hn
      refine ⟨.slice none 0 0, w, ?_, .inl ⟨rfl, rfl⟩, Keeps.refl _ _, .inl rfl⟩
      have h1 := hs.len; have h2 := hs.cells
      simp only [List.length_nil] at h1 h2
      simp [Builtin.append_, run_underlying ht, sizeOf, typeInfo, hi, hsize, h1, h2]
    · exact grow none 0 (by have := List.length_pos_iff.2 hn; omega) (run_firstCells_none _ _ _ _ _)
  · by_cases hroom : xs.length + news.length ≤ cap
    · have hr := run_append_room_src (P := P) w t t ty e i ht hi g off xs.length cap x news.length news (by rw [hsize]; exact hs) hroom
        (fun j hj => by rw [hsize, Nat.mul_one, Nat.add_assoc]; exact (h5 _ (by omega)).1) (fun j hj => by rw [hsize, Nat.mul_one, Nat.add_assoc]; exact (h5 _ (by omega)).2)
      rw [hsize, Nat.mul_one] at hr
      have hK := Keeps.setCells (w := w) g (off + xs.length) news
      refine ⟨_, _, hr, .inr ⟨g, off, cap, by rw [List.length_append], h1, Nat.lt_of_lt_of_le h2 hK.size, by rw [List.length_append]; exact hroom, h4, fun j hj => ?_, fun j u hu => ?_⟩, hK.mono (fun k _ e => by subst e; rfl), .inl rfl⟩
      · exact ⟨World.isSome_setCells _ _ _ _ _ (h5 j hj).1, by rw [World.frozen?_setCells]; exact (h5 j hj).2⟩
      · by_cases hj : j < xs.length
        · rw [List.getElem?_append_left hj] at hu
          rw [World.cell?_setCells_out _ _ _ _ _ (fun _ _ => .inl (by simp; omega))]
          exact h6 j u hu
        · have hj2 := (List.getElem?_eq_some_iff.1 hu).1
          rw [List.length_append] at hj2
          rw [List.getElem?_append_right (by omega)] at hu
          have hin := World.cell?_setCells_in g news (off + xs.length) w (fun i hi => by rw [Nat.add_assoc]; exact (h5 _ (by omega)).1) (j - xs.length) (by omega)
          rw [show off + xs.length + (j - xs.length) = off + j from by omega] at hin
          rw [hin, ← hu, List.getElem?_eq_getElem (by omega)]
    · exact grow _ cap (by omega) (run_firstCells_some w.drew 1 xs.length ⟨g, off, none⟩ xs.length cap xs (by omega) (fun j u hu => by
        have := h6 j u hu
        unfold Addr.add; split
        · rename_i h0; subst h0; simpa using this
        · simpa using this))
theorem wpList_append_sub (w : World) {ops : Array Oper} {rest : List Oper} {o : Oper} {a : Act} {Q : Exit → Act → World → Prop} (hgd : o.guard = none) (s x : Operand) (t : TypeId)
    (ho : o.op = .call { callee := .builtin .append, args := #[s, x], argTypes := #[t, t] }) (e : TypeId) (i : TypeInfo) (z : Value) (bytes : Nat) (ht : P.underlying t = some (.slice e)) (hi : P.info? e = some i) (hz : i.zero = some z)
    (hsize : i.size = 1) (hby : i.bytes = bytes) (hzs : z.cells.size = 1) (B : Nat) (v : Value) (xs : List Value) (hv : a.eval s = v) (h : SubRow w B v xs) (x' : Value) (hx : a.eval x = x') (news : List Value) (hs : Src P 1 t x' news.length news w)
    (hm : xs.length + news.length ≤ maxLen) (hb : (xs.length + news.length) * bytes ≤ 140737488355328) (hB : B ≤ w.heap.size)
    (hK : ∀ v' w', SubRow w' B v' (xs ++ news) → Keeps (fun k => v.ownBlock = some k) w w' → (v'.ownBlock = v.ownBlock ∨ v'.ownBlock = some w.heap.size) → wpList P ops Q rest (a.put o.dst v') w') : wpList P ops Q (o :: rest) a w := by
  obtain ⟨v', w', hr, h1, h2, h3⟩ := run_append_sub (P := P) w t o.type e i z bytes ht hi hz hsize hby hzs B v xs h x' news hs hm hb hB
  refine wpList_plain hgd fun _ hKK => ?_
  unfold Oper.wp execOp
  simp only [ho, resolve, invoke, builtin, Sem.run_bind, Sem.run_pure, Result.andThen_ok, List.map_toArray, List.map_cons, List.map_nil, hv, hx, hr]
  exact hKK _ _ (hK v' w' h1 h2 h3)
end
/-- a source: a row of one-cell elements -/
theorem SubRow.src {P : Program} {w : World} {B : Nat} {v : Value} {xs : List Value} {t e : TypeId} (ht : P.underlying t = some (.slice e)) (h : SubRow w B v xs) (h1 : ∀ u ∈ xs, u.oneCell' = true) : Src P 1 t v xs.length xs w := by
  rcases h with ⟨rfl, rfl⟩ | ⟨g, off, cap, rfl, _, _, _, _, _, h6⟩
  · exact Src.ofNil (P := P) w ht 0
  · exact Src.ofSlice w ht _ _ _ _ (by omega) (fun j u hu => by
      have := h6 j u hu
      unfold Addr.add; split
      · rename_i h0; subst h0; simpa using this
      · simpa using this) h1
end Go.Proofs.Ytbaphjnglkocpaa
