import Derived.Test.YtnficiohnhodiaaDiskJa
/-
  Rows of bytes: one byte is written; a byte is appended, and the old row still reads as it read.
-/
namespace Go.Proofs.Ytnficiohnhodiaa
open Go.RowKit
def sameBase (u v : Value) : Prop := ∃ a n c n' c', u = .slice (some a) n c ∧ v = .slice (some a) n' c'
theorem sameBase.own {u v : Value} (h : sameBase u v) : u.ownBlock = v.ownBlock := by
  obtain ⟨a, n, c, n', c', rfl, rfl⟩ := h; rfl
theorem sameBase.trans {u v x : Value} (h : sameBase u v) (k : sameBase v x) : sameBase u x := by
  obtain ⟨a, n, c, n', c', rfl, rfl⟩ := h
  obtain ⟨a2, n2, c2, n3, c3, e, rfl⟩ := k
  injection e with e1 e2 e3
  injection e1 with e1
  subst e1
  exact ⟨_, _, _, _, _, rfl, rfl⟩
/-- one element is written -/
theorem SubRow.set {w : World} {B g off n cap : Nat} {xs : List Value} (h : SubRow w B (.slice (some ⟨g, off, none⟩) n cap) xs) (j : Nat) (hj : j < xs.length) (u : Value) : SubRow (w.setCell ⟨g, off + j, none⟩ u) B (.slice (some ⟨g, off, none⟩) n cap) (xs.set j u) := by
  rcases h with ⟨e, _⟩ | ⟨g', off', cap', e, h1, h2, h3, h4, h5, h6⟩
  · cases e
  injection e with e1 e2 e3
  injection e1 with e1
  injection e1 with e4 e5 _
  subst e4 e5 e2 e3
  have hk : Keeps (fun _ => True) w (w.setCell ⟨g, off + j, none⟩ u) := (Keeps.refl _ w).setCell (.inl trivial) u
  refine .inr ⟨g, off, cap, by rw [List.length_set], h1, Nat.lt_of_lt_of_le h2 hk.size, by rw [List.length_set]; exact h3, h4, fun i hi => ⟨?_, ?_⟩, fun i y hy => ?_⟩
  · have h7 := (h5 i hi).1
    by_cases e : i = j
    · subst e
      obtain ⟨y, hy⟩ := Option.isSome_iff_exists.1 h7
      rw [World.cell?_setCell_same (h := hy)]; rfl
    · rw [World.cell?_setCell_other (h := by intro e'; injection e' with _ e' _; omega)]; exact h7
  · rw [World.frozen?_setCell]; exact (h5 i hi).2
  · rw [List.getElem?_set] at hy
    by_cases e : j = i
    · subst e
      rw [if_pos rfl, if_pos hj] at hy
      cases hy
      obtain ⟨z, hz⟩ := Option.isSome_iff_exists.1 (h5 j (by omega)).1
      exact World.cell?_setCell_same _ _ _ hz
    · rw [if_neg e] at hy
      rw [World.cell?_setCell_other (h := by intro e'; injection e' with _ e' _; omega)]; exact h6 i y hy
section
variable {P : Program}
/-- an append to a row of the call's own: the old row still reads as it read -/
theorem run_append_own2 (w : World) (t ty e : TypeId) (i : TypeInfo) (z : Value) (bytes : Nat) (ht : P.underlying t = some (.slice e)) (hi : P.info? e = some i) (hz : i.zero = some z)
    (hsize : i.size = 1) (hby : i.bytes = bytes) (hzs : z.cells.size = 1) (B : Nat) (v : Value) (xs : List Value) (h : SubRow w B v xs) (x : Value) (news : List Value) (hs : Src P 1 t x news.length news w)
    (hm : xs.length + news.length ≤ maxLen) (hb : (xs.length + news.length) * bytes ≤ 140737488355328) (hB : B ≤ w.heap.size) :
    ∃ v' w', (Builtin.append_ #[t, t] ty #[v, x]).run P w = .ok v' w' ∧ SubRow w' B v' (xs ++ news) ∧ SubRow w' B v xs ∧ Keeps (fun k => v.ownBlock = .some k) w w' ∧ (sameBase v v' ∨ v'.ownBlock = .some w.heap.size ∨ news = []) := by
  have hmx := hm
  unfold maxLen at hm
  have grow : ∀ (base : Option Addr) (cap : Nat), SubRow w B (.slice base xs.length cap) xs → cap < xs.length + news.length → (Builtin.firstCells 1 xs.length (.slice base xs.length cap)).run P w.drew = .ok xs.toArray w.drew →
      ∃ v' w', (Builtin.append_ #[t, t] ty #[.slice base xs.length cap, x]).run P w = .ok v' w' ∧ SubRow w' B v' (xs ++ news) ∧ SubRow w' B (.slice base xs.length cap) xs ∧ Keeps (fun k => (Value.slice base xs.length cap).ownBlock = .some k) w w' ∧ (sameBase (.slice base xs.length cap) v' ∨ v'.ownBlock = .some w.heap.size ∨ news = []) := by
    intro base cap hsub hc hold
    have hr := run_append_grow_src (P := P) w t t ty e i z ht hi hz base xs.length cap xs (by rw [hsize]; exact hold) x news.length news (by rw [hsize]; exact hs) hc (by omega) (by rw [hby]; exact growslice_fits hc hb)
    refine ⟨_, _, hr, .inr ⟨w.heap.size, 0, _, by rw [List.length_append], hB, by simp, ?_, ?_, ?_, ?_⟩, hsub.below (((Below.refl _ w).drew).alloc (Nat.le_refl _) _), ?_, .inr (.inl rfl)⟩
    · rw [List.length_append]; exact grownCap_ge w _ _ _
    · exact grownCap_le_maxLen w _ _ _ hmx
    · intro j hj
      have hge := grownCap_ge w (xs.length + news.length) cap e
      have hh := heap_alloc_new w.drew (.cells ((xs ++ news).toArray ++ Builtin.zeroCells z.cells (grownCap w (xs.length + news.length) cap e - (xs.length + news.length))) e)
      have hsz : ((xs ++ news).toArray ++ Builtin.zeroCells z.cells (grownCap w (xs.length + news.length) cap e - (xs.length + news.length))).size = grownCap w (xs.length + news.length) cap e := by
        rw [Array.size_append, size_zeroCells, hzs]; simp; omega
      have hc2 := cell_in (o := j) (u := ((xs ++ news).toArray ++ Builtin.zeroCells z.cells (grownCap w (xs.length + news.length) cap e - (xs.length + news.length)))[j]'(by rw [hsz]; exact hj)) hh (Array.getElem?_eq_getElem _)
      rw [Nat.zero_add]
      refine ⟨by rw [show w.drew.heap.size = w.heap.size from rfl] at hc2; rw [hc2]; rfl, free_in (o := j) hh⟩
    · intro j u hu
      have hh := heap_alloc_new w.drew (.cells ((xs ++ news).toArray ++ Builtin.zeroCells z.cells (grownCap w (xs.length + news.length) cap e - (xs.length + news.length))) e)
      rw [Nat.zero_add]
      refine cell_in (o := j) (u := u) hh ?_
      rw [Array.getElem?_append_left (by have := (List.getElem?_eq_some_iff.1 hu).1; simpa using this)]
      simpa using hu
    · exact ((Keeps.refl _ w).drew).alloc _
  have h0 := h
  rcases h with ⟨rfl, rfl⟩ | ⟨g, off, cap, rfl, h1, h2, h3, h4, h5, h6⟩
  · by_cases hn : news = []
    · subst hn
      refine ⟨.slice none 0 0, w, ?_, .inl ⟨rfl, rfl⟩, h0, Keeps.refl _ _, .inr (.inr rfl)⟩
      have h1 := hs.len; have h2 := hs.cells
      simp only [List.length_nil] at h1 h2
      simp [Builtin.append_, run_underlying ht, sizeOf, typeInfo, hi, hsize, h1, h2]
    · exact grow none 0 h0 (by have := List.length_pos_iff.2 hn; omega) (run_firstCells_none _ _ _ _ _)
  · by_cases hroom : xs.length + news.length ≤ cap
    · have hr := run_append_room_src (P := P) w t t ty e i ht hi g off xs.length cap x news.length news (by rw [hsize]; exact hs) hroom
        (fun j hj => by rw [hsize, Nat.mul_one, Nat.add_assoc]; exact (h5 _ (by omega)).1) (fun j hj => by rw [hsize, Nat.mul_one, Nat.add_assoc]; exact (h5 _ (by omega)).2)
      rw [hsize, Nat.mul_one] at hr
      have hK := Keeps.setCells (w := w) g (off + xs.length) news
      have hcap : ∀ j, j < cap → ((w.setCells g (off + xs.length) news).cell? ⟨g, off + j, none⟩).isSome = true ∧ (w.setCells g (off + xs.length) news).frozen? ⟨g, off + j, none⟩ = false := fun j hj => ⟨World.isSome_setCells _ _ _ _ _ (h5 j hj).1, by rw [World.frozen?_setCells]; exact (h5 j hj).2⟩
      have hold : ∀ j u, xs[j]? = some u → (w.setCells g (off + xs.length) news).cell? ⟨g, off + j, none⟩ = some u := fun j u hu => by
        have hj := (List.getElem?_eq_some_iff.1 hu).1
        rw [World.cell?_setCells_out _ _ _ _ _ (fun _ _ => .inl (by simp; omega))]
        exact h6 j u hu
      refine ⟨_, _, hr, .inr ⟨g, off, cap, by rw [List.length_append], h1, Nat.lt_of_lt_of_le h2 hK.size, by rw [List.length_append]; exact hroom, h4, hcap, fun j u hu => ?_⟩, .inr ⟨g, off, cap, rfl, h1, Nat.lt_of_lt_of_le h2 hK.size, h3, h4, hcap, hold⟩, hK.mono (fun k _ e => by subst e; rfl), .inl ⟨_, _, _, _, _, rfl, rfl⟩⟩
      by_cases hj : j < xs.length
      · rw [List.getElem?_append_left hj] at hu
        exact hold j u hu
      · have hj2 := (List.getElem?_eq_some_iff.1 hu).1
        rw [List.length_append] at hj2
        rw [List.getElem?_append_right (by omega)] at hu
        have hin := World.cell?_setCells_in g news (off + xs.length) w (fun i hi => by rw [Nat.add_assoc]; exact (h5 _ (by omega)).1) (j - xs.length) (by omega)
        rw [show off + xs.length + (j - xs.length) = off + j from by omega] at hin
        rw [hin, ← hu, List.getElem?_eq_getElem (by omega)]
    · exact grow _ cap h0 (by omega) (run_firstCells_some w.drew 1 xs.length ⟨g, off, none⟩ xs.length cap xs (by omega) (fun j u hu => by
        have := h6 j u hu
        unfold Addr.add; split
        · rename_i h0; subst h0; simpa using this
        · simpa using this))
theorem wpList_append_own2 (w : World) {ops : Array Oper} {rest : List Oper} {o : Oper} {a : Act} {Q : Exit → Act → World → Prop} (hgd : o.guard = none) (s x : Operand) (t : TypeId)
    (ho : o.op = .call { callee := .builtin .append, args := #[s, x], argTypes := #[t, t] }) (e : TypeId) (i : TypeInfo) (z : Value) (bytes : Nat) (ht : P.underlying t = some (.slice e)) (hi : P.info? e = some i) (hz : i.zero = some z)
    (hsize : i.size = 1) (hby : i.bytes = bytes) (hzs : z.cells.size = 1) (B : Nat) (v : Value) (xs : List Value) (hv : a.eval s = v) (h : SubRow w B v xs) (x' : Value) (hx : a.eval x = x') (news : List Value) (hs : Src P 1 t x' news.length news w)
    (hm : xs.length + news.length ≤ maxLen) (hb : (xs.length + news.length) * bytes ≤ 140737488355328) (hB : B ≤ w.heap.size)
    (hK : ∀ v' w', SubRow w' B v' (xs ++ news) → SubRow w' B v xs → Keeps (fun k => v.ownBlock = some k) w w' → (sameBase v v' ∨ v'.ownBlock = some w.heap.size ∨ news = []) → wpList P ops Q rest (a.put o.dst v') w') : wpList P ops Q (o :: rest) a w := by
  obtain ⟨v', w', hr, h1, h2, h3, h4⟩ := run_append_own2 (P := P) w t o.type e i z bytes ht hi hz hsize hby hzs B v xs h x' news hs hm hb hB
  refine wpList_plain hgd fun _ hKK => ?_
  unfold Oper.wp execOp
  simp only [ho, resolve, invoke, builtin, Sem.run_bind, Sem.run_pure, Result.andThen_ok, List.map_toArray, List.map_cons, List.map_nil, hv, hx, hr]
  exact hKK _ _ (hK v' w' h1 h2 h3 h4)
end
end Go.Proofs.Ytnficiohnhodiaa
