import Derived.Test.YtnficiohnhodiaaRlkK
/-
  LockPlays: the walk.
-/
namespace Go.Proofs.Ytnficiohnhodiaa.Pre
open Go.RowKit
structure St (w0 w : World) (p mp mw : Nat) (t : LT) (b : Nat) (vl vw : Value) (ls ws : List Lk) (n : Nat) : Prop where
  both : BothL w0 w p mp mw t b vl vw ls ws
  sim : Sim t ls ws
  good : t.Good n
  wok : WaitsOk ws
  wlen : ws.length ≤ n
theorem St.start {w0 w : World} {p mp mw : Nat} (h : TB w0 w p mp mw LT.empty) (T : TypeId) (hT : T = 29) : St w0 (w.alloc (.cells #[.slice none 0 0, .slice none 0 0] T)) p mp mw LT.empty w.heap.size (.slice none 0 0) (.slice none 0 0) [] [] 0 := by
  subst hT
  have hh := heap_alloc_new w (.cells #[.slice none 0 0, .slice none 0 0] 29)
  refine ⟨⟨h.below ((Below.refl _ _).alloc (Nat.le_refl _) _), ⟨hh, RowK.nil _ _, RowK.nil _ _, h.bel.size, by simp [Value.ownBlock], by simp [Value.ownBlock], fun k e => by cases e⟩, fun k hk e => ?_⟩, Sim.empty, good_empty, fun x hx => by simp at hx, Nat.le_refl _⟩
  have hlt := h.lay.lt k hk
  rcases e with rfl | e | e
  · exact Nat.lt_irrefl _ hlt
  · cases e
  · cases e
structure BoxL (bx : Nat) (o : OpL) (w' : World) : Prop where
  c0 : w'.cell? ⟨bx, 0, none⟩ = some (.int .i64 o.kind)
  c1 : w'.cell? ⟨bx, 1, none⟩ = some (.int .i64 o.txn)
  c2 : w'.cell? ⟨bx, 2, none⟩ = some (.int .i64 o.page)
  c3 : w'.cell? ⟨bx, 3, none⟩ = some (.int .i64 o.mode)
theorem BoxL.keeps {S : Nat → Prop} {bx : Nat} {o : OpL} {w w' : World} (h : BoxL bx o w) (hk : Keeps S w w') (hs : ¬ S bx) : BoxL bx o w' := ⟨hk.cell h.1 hs, hk.cell h.2 hs, hk.cell h.3 hs, hk.cell h.4 hs⟩
section
variable {w0 w w' : World} {p mp mw b n : Nat} {t : LT} {vl vw : Value} {ls ws : List Lk}
theorem St.lt (h : St w0 w p mp mw t b vl vw ls ws n) : ∀ k, LTFoot p mp mw t k ∨ TFoot b vl vw k → k < w.heap.size := fun k e => e.elim (h.both.tb.lay.lt k) (fun e => (h.both.tab.lt k e).2)
theorem St.below (h : St w0 w p mp mw t b vl vw ls ws n) (hb : Below w.heap.size w w') : St w0 w' p mp mw t b vl vw ls ws n := ⟨h.both.below hb, h.sim, h.good, h.wok, h.wlen⟩
theorem sliceL_inj {N : Nat} : ∀ x y : Option Addr × Nat, Value.slice x.1 N x.2 = Value.slice y.1 N y.2 → x = y := fun x y h => by
  obtain ⟨x1, x2⟩ := x; obtain ⟨y1, y2⟩ := y
  injection h with h1 _ h2
  simp only at h1 h2
  rw [h1, h2]
theorem take_nonneg (t : LT) (txn page mode : Int) (m : Nat) : 0 ≤ (t.take txn page mode m).1 := by
  unfold LT.take
  simp only
  repeat' split
  all_goals first | (show (0 : Int) ≤ 2; omega) | (show (0 : Int) ≤ 0; omega) | (show (0 : Int) ≤ 18; omega) | (show (0 : Int) ≤ 17; omega) | (show (0 : Int) ≤ 15; omega)
theorem release_foot {txn : Int} (k : Nat) (h : LTFoot p mp mw (t.release txn) k) : LTFoot p mp mw t k := by
  unfold LTFoot LT.fp LT.release at h
  unfold LTFoot LT.fp
  simp only [List.mem_cons, List.mem_map, List.mem_filterMap] at h ⊢
  rcases h with h | h | h | ⟨x, ⟨y, hy, hp⟩, rfl⟩
  · exact .inl h
  · exact .inr (.inl h)
  · exact .inr (.inr (.inl h))
  · exact .inr (.inr (.inr ⟨y, hy, (proc_key hp).2.symm⟩))
/-- the two tables lie apart, by what their blocks are -/
theorem LT_off (hl : LTAt w p mp mw t) {B : Nat} (ht : TabAt w B b vl vw ls ws) : ∀ k, LTFoot p mp mw t k → ¬ TFoot b vl vw k := by
  have hrow : ∀ {v : Value} {l : List Lk} {k : Nat}, RowK w B v l → v.ownBlock = some k → ∃ cur, w.heap[k]? = some (.cells cur 82 (0, 0)) := fun {v l k} h e => by
    rcases h.2 with ⟨rfl, _⟩ | ⟨g, cap, cur, rfl, _, hg, _⟩
    · cases e
    · have : k = g := by cases e; rfl
      subst this; exact ⟨cur, hg⟩
  have hT : ∀ k, TFoot b vl vw k → ∃ cur T, w.heap[k]? = some (.cells cur T (0, 0)) ∧ T ≠ 78 := fun k e => by
    rcases e with rfl | e | e
    · exact ⟨_, _, ht.self, by decide⟩
    · obtain ⟨cur, h⟩ := hrow ht.locks e; exact ⟨cur, _, h, by decide⟩
    · obtain ⟨cur, h⟩ := hrow ht.waits e; exact ⟨cur, _, h, by decide⟩
  have hmap : ∀ {k : Nat} {l : IM}, IMap w k l → ∀ cur T, w.heap[k]? ≠ some (.cells cur T (0, 0)) := fun {k l} h cur T e => by
    obtain ⟨es, clock, h1, _⟩ := h
    rw [h1] at e; cases e
  intro k hk e
  obtain ⟨cur, T, h1, h2⟩ := hT k e
  unfold LTFoot LT.fp at hk
  simp only [List.mem_cons, List.mem_map] at hk
  rcases hk with rfl | rfl | rfl | ⟨x, hx, rfl⟩
  · have := hl.self.symm.trans h1
    injection this with this
    injection this with _ h3 _
    exact h2 h3.symm
  · exact hmap hl.pages _ _ h1
  · exact hmap hl.waits _ _ h1
  · exact hmap (hl.inner x hx) _ _ h1
theorem St.join {t' : LT} {vl' vw' : Value} {ls' ws' : List Lk} {n' : Nat} (h : St w0 w p mp mw t b vl vw ls ws n) (hk : Keeps (fun k => LTFoot p mp mw t k ∨ TFoot b vl vw k) w w') (hl : LTAt w' p mp mw t') (hf : ∀ k, LTFoot p mp mw t' k → LTFoot p mp mw t k ∨ w.heap.size ≤ k) (ht : TabAt w' w0.heap.size b vl' vw' ls' ws') (hs : Sim t' ls' ws') (hg : t'.Good n') (hw : WaitsOk ws') (hn : ws'.length ≤ n') : St w0 w' p mp mw t' b vl' vw' ls' ws' n' :=
  ⟨⟨⟨hl, fun k e => (hf k e).elim (h.both.tb.low k) (fun e => Nat.le_trans h.both.tb.bel.size e), h.both.tb.bel.trans (hk.below h.both.tb.bel.size (fun k hk' e => e.elim (fun e => by have := h.both.tb.low k e; omega) (fun e => by have := (h.both.tab.lt k e).1; omega)))⟩, ht, LT_off hl ht⟩, hs, hg, hw, hn⟩
end
end Go.Proofs.Ytnficiohnhodiaa.Pre
