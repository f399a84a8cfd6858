import Derived.Test.YtnficiohnhodiaaRlkE
import Derived.Test.YtnficiohnhodiaaGrowP
/-
  The document's table of locks: Take, where nothing is waited for.
-/
namespace Go.Proofs.Ytnficiohnhodiaa.Pre
open Go.RowKit
section
variable {w w' : World} {B b : Nat} {vl vw : Value} {ls ws : List Lk}
/-- what Take leaves in memory -/
def TakePost (w : World) (B b : Nat) (vl vw : Value) (r : Int × List Lk × List Lk) (e : Ending) (w' : World) : Prop :=
  e = .returned (.int .i64 r.1) ∧ ∃ vl' vw', TabAt w' B b vl' vw' r.2.1 r.2.2 ∧ Keeps (TFoot b vl vw) w w' ∧ ∀ k, TFoot b vl' vw' k → TFoot b vl vw k ∨ w.heap.size ≤ k
set_option maxRecDepth 100000 in
theorem rtake_form (v : Value) (txn page mode : Int) (hm : mode < 1 ∨ 3 < mode) : Calls Try.prog 12 #[v, .int .i64 txn, .int .i64 page, .int .i64 mode] w fun e w' => e = .returned (.int .i64 2) ∧ w = w' := by
  go_enter Try.func12, Try.ntmps12
  rcases hm with h | h
  · go_wp2
    go_ret
    exact ⟨rfl, rfl⟩
  · have : ¬ mode < 1 := by omega
    go_wp2
    go_ret
    exact ⟨rfl, rfl⟩
/-- behind forget: the wait's block is new, the lock is laid into the block bx -/
structure Mid (w0 w : World) (B b bx : Nat) (vl vw vw1 : Value) (ls ws1 : List Lk) (txn page md : Int) : Prop where
  tab : TabAt w B b vl vw1 ls ws1
  old : Keeps (· = b) w0 w
  new : ∀ k, vw1.ownBlock = some k → w0.heap.size ≤ k
  x0 : w.cell? ⟨bx, 0, none⟩ = some (.int .i64 txn)
  x1 : w.cell? ⟨bx, 1, none⟩ = some (.int .i64 page)
  x2 : w.cell? ⟨bx, 2, none⟩ = some (.int .i64 md)
  far : ¬ TFoot b vl vw1 bx
  fz : ∀ i, w.frozen? ⟨bx, i, none⟩ = false
theorem Mid.post {w0 w : World} {bx : Nat} {vw1 : Value} {ws1 : List Lk} {txn page md c : Int} (h : Mid w0 w B b bx vl vw vw1 ls ws1 txn page md) : TakePost w0 B b vl vw (c, ls, ws1) (.returned (.int .i64 c)) w :=
  ⟨rfl, vl, vw1, h.tab, h.old.mono (fun k _ e => .inl e), fun k hk => by
    rcases hk with e | e | e
    · exact .inl (.inl e)
    · exact .inl (.inr (.inl e))
    · exact .inr (h.new k e)⟩
theorem mid_new {w0 w1 : World} {vw1 : Value} {ws1 : List Lk} {txn page mode : Int} (h : TabAt w1 B b vl vw1 ls ws1) (hk : Keeps (· = b) w0 w1) (hn : ∀ k, vw1.ownBlock = some k → w0.heap.size ≤ k) (T : TypeId) :
    Mid w0 (w1.alloc (.cells #[.int .i64 txn, .int .i64 page, .int .i64 mode] T)) B b w1.heap.size vl vw vw1 ls ws1 txn page mode := by
  have hal : Below w1.heap.size w1 (w1.alloc (.cells #[.int .i64 txn, .int .i64 page, .int .i64 mode] T)) := (Below.refl _ _).alloc (Nat.le_refl _) _
  have hh := heap_alloc_new w1 (.cells #[.int .i64 txn, .int .i64 page, .int .i64 mode] T)
  exact ⟨h.below hal, hk.trans (Keeps.of_below hal), hn, cell_in hh rfl, cell_in hh rfl, cell_in hh rfl, fun e => Nat.lt_irrefl _ (h.lt _ e).2, fun i => free_in hh⟩
theorem Mid.store {w0 w : World} {bx : Nat} {vw1 : Value} {ws1 : List Lk} {txn page md : Int} (h : Mid w0 w B b bx vl vw vw1 ls ws1 txn page md) (hbx : w0.heap.size ≤ bx) (m : Int) : Mid w0 (w.setCell ⟨bx, 2, none⟩ (.int .i64 m)) B b bx vl vw vw1 ls ws1 txn page m := by
  have hk : Keeps (· = bx) w (w.setCell ⟨bx, 2, none⟩ (.int .i64 m)) := Keeps.cellAt' (S := (· = bx)) rfl _
  refine ⟨h.tab.keeps hk (fun k hk e => h.far (by have e2 : k = bx := e; rw [← e2]; exact hk)), h.old.trans' hk (fun k hk e => by have e2 : k = bx := e; omega), h.new, ?_, ?_, World.cell?_setCell_same _ _ _ h.x2, h.far, fun i => by rw [World.frozen?_setCell]; exact h.fz i⟩
  · rw [World.cell?_setCell_other _ _ _ _ (by simp)]; exact h.x0
  · rw [World.cell?_setCell_other _ _ _ _ (by simp)]; exact h.x1
theorem Mid.below {w0 w w2 : World} {bx : Nat} {vw1 : Value} {ws1 : List Lk} {txn page md : Int} (h : Mid w0 w B b bx vl vw vw1 ls ws1 txn page md) (hb : Below w.heap.size w w2) : Mid w0 w2 B b bx vl vw vw1 ls ws1 txn page md := by
  have hk : Keeps (fun _ => False) w w2 := Keeps.of_below hb
  have hlt : bx < w.heap.size := World.block_lt_of_cell? w ⟨bx, 0, none⟩ h.x0
  exact ⟨h.tab.below hb, h.old.trans (Keeps.of_below hb), h.new, hk.cell h.x0 (fun e => e), hk.cell h.x1 (fun e => e), hk.cell h.x2 (fun e => e), h.far, fun i => by
    have e := hb.block bx hlt
    rw [World.frozen?_of_block (w := w) (a := ⟨bx, i, none⟩) e]; exact h.fz i⟩
theorem Mid.done {w0 w w2 : World} {bx : Nat} {vw1 vl' vw' : Value} {ws1 ls' ws' : List Lk} {txn page md c : Int} (h : Mid w0 w B b bx vl vw vw1 ls ws1 txn page md) (ht : TabAt w2 B b vl' vw' ls' ws') (hk : Keeps (TFoot b vl vw1) w w2) (hf : ∀ k, TFoot b vl' vw' k → TFoot b vl vw1 k ∨ w.heap.size ≤ k) : TakePost w0 B b vl vw (c, ls', ws') (.returned (.int .i64 c)) w2 := by
  have key : ∀ k, TFoot b vl vw1 k → TFoot b vl vw k ∨ w0.heap.size ≤ k := fun k e => by
    rcases e with e | e | e
    · exact .inl (.inl e)
    · exact .inl (.inr (.inl e))
    · exact .inr (h.new k e)
  have hsz := h.old.size
  refine ⟨rfl, vl', vw', ht, (h.old.mono (fun k _ e => .inl e)).trans' hk (fun k hk' e => (key k e).elim id (fun e => by omega)), fun k e => ?_⟩
  rcases hf k e with e | e
  · exact key k e
  · exact .inr (by omega)
theorem TabAt.growLocks {w w8 : World} {g n c : Nat} {l' : List Lk} (h : TabAt w B b vl vw ls ws) (hk : Keeps (fun k => vl.ownBlock = some k) w w8) (hr : RowK w8 B (.slice (some ⟨g, 0, none⟩) n c) l') (hg : vl.ownBlock = some g ∨ w.heap.size ≤ g) :
    TabAt (w8.setCell ⟨b, 0, none⟩ (.slice (some ⟨g, 0, none⟩) n c)) B b (.slice (some ⟨g, 0, none⟩) n c) vw l' ws ∧ Keeps (TFoot b vl vw) w (w8.setCell ⟨b, 0, none⟩ (.slice (some ⟨g, 0, none⟩) n c)) ∧ ∀ k, TFoot b (.slice (some ⟨g, 0, none⟩) n c) vw k → TFoot b vl vw k ∨ w.heap.size ≤ k := by
  have hlt := h.lt
  have hgb : g ≠ b := fun e => hg.elim (fun e2 => h.ap1 (by rw [← e]; exact e2)) (fun e2 => by have := (hlt b (.inl rfl)).2; omega)
  have hown : ∀ k, (Value.slice (some ⟨g, 0, none⟩) n c).ownBlock = some k → k = g := fun k e => by cases e; rfl
  have hk1 : Keeps (· = b) w8 (w8.setCell ⟨b, 0, none⟩ (.slice (some ⟨g, 0, none⟩) n c)) := Keeps.cellAt' (S := (· = b)) rfl _
  have hs8 := hk.at h.self (fun e => h.ap1 e)
  refine ⟨⟨?_, hr.keeps hk1 (fun k e e' => hgb ((hown k e).symm.trans e')), (h.waits.keeps hk (fun k e e' => h.ap3 k e' e)).keeps hk1 (fun k e e' => h.ap2 (by have e2 : k = b := e'; rw [← e2]; exact e)), h.low, fun e => hgb (hown b e).symm, h.ap2, fun k e e' => ?_⟩, ?_, fun k e => ?_⟩
  · rw [heap_setCell _ _ _ _ _ _ _ hs8]; rfl
  · have e2 := hown k e
    subst e2
    exact hg.elim (fun e3 => h.ap3 k e3 e') (fun e3 => by have := (hlt k (.inr (.inr e'))).2; omega)
  · exact (hk.mono (fun k _ e => .inr (.inl e))).trans (hk1.mono (fun k _ e => .inl e))
  · rcases e with e | e | e
    · exact .inl (.inl e)
    · have e2 := hown k e
      subst e2
      exact hg.elim (fun e3 => .inl (.inr (.inl e3))) .inr
    · exact .inl (.inr (.inr e))
theorem TabAt.growWaits {w w8 : World} {g n c : Nat} {l' : List Lk} (h : TabAt w B b vl vw ls ws) (hk : Keeps (fun k => vw.ownBlock = some k) w w8) (hr : RowK w8 B (.slice (some ⟨g, 0, none⟩) n c) l') (hg : vw.ownBlock = some g ∨ w.heap.size ≤ g) :
    TabAt (w8.setCell ⟨b, 1, none⟩ (.slice (some ⟨g, 0, none⟩) n c)) B b vl (.slice (some ⟨g, 0, none⟩) n c) ls l' ∧ Keeps (TFoot b vl vw) w (w8.setCell ⟨b, 1, none⟩ (.slice (some ⟨g, 0, none⟩) n c)) ∧ ∀ k, TFoot b vl (.slice (some ⟨g, 0, none⟩) n c) k → TFoot b vl vw k ∨ w.heap.size ≤ k := by
  have hlt := h.lt
  have hgb : g ≠ b := fun e => hg.elim (fun e2 => h.ap2 (by rw [← e]; exact e2)) (fun e2 => by have := (hlt b (.inl rfl)).2; omega)
  have hown : ∀ k, (Value.slice (some ⟨g, 0, none⟩) n c).ownBlock = some k → k = g := fun k e => by cases e; rfl
  have hk1 : Keeps (· = b) w8 (w8.setCell ⟨b, 1, none⟩ (.slice (some ⟨g, 0, none⟩) n c)) := Keeps.cellAt' (S := (· = b)) rfl _
  have hs8 := hk.at h.self (fun e => h.ap2 e)
  refine ⟨⟨?_, (h.locks.keeps hk (fun k e e' => h.ap3 k e e')).keeps hk1 (fun k e e' => h.ap1 (by have e2 : k = b := e'; rw [← e2]; exact e)), hr.keeps hk1 (fun k e e' => hgb ((hown k e).symm.trans e')), h.low, h.ap1, fun e => hgb (hown b e).symm, fun k e e' => ?_⟩, ?_, fun k e => ?_⟩
  · rw [heap_setCell _ _ _ _ _ _ _ hs8]; rfl
  · have e2 := hown k e'
    subst e2
    exact hg.elim (fun e3 => h.ap3 k e e3) (fun e3 => by have := (hlt k (.inr (.inl e))).2; omega)
  · exact (hk.mono (fun k _ e => .inr (.inr e))).trans (hk1.mono (fun k _ e => .inl e))
  · rcases e with e | e | e
    · exact .inl (.inl e)
    · exact .inl (.inr (.inl e))
    · have e2 := hown k e
      subst e2
      exact hg.elim (fun e3 => .inl (.inr (.inr e3))) .inr
/-- a lock's mode is stored anew -/
theorem TabAt.setMode {w w8 : World} {g n c k : Nat} {x : Lk} (h : TabAt w B b (.slice (some ⟨g, 0, none⟩) n c) vw ls ws) (hk : Keeps (fun _ => False) w w8) (hn : n = ls.length) (hx : ls[k]? = some x) (m : Int) :
    TabAt (w8.setCell ⟨g, k * 3 + 2, none⟩ (.int .i64 m)) B b (.slice (some ⟨g, 0, none⟩) n c) vw (ls.set k ⟨x.txn, x.page, m⟩) ws ∧ Keeps (TFoot b (.slice (some ⟨g, 0, none⟩) n c) vw) w (w8.setCell ⟨g, k * 3 + 2, none⟩ (.int .i64 m)) := by
  have h8 := h.keeps hk (fun _ _ e => e)
  have hk1 : Keeps (· = g) w8 (w8.setCell ⟨g, k * 3 + 2, none⟩ (.int .i64 m)) := Keeps.cellAt' (S := (· = g)) rfl _
  subst hn
  have hst := (World.ownsRow.stored h8.locks (k * 3 + 2) (.int .i64 m)).1
  rw [lkV_set hx] at hst
  refine ⟨⟨hk1.at h8.self (fun e => h.ap1 (by rw [e]; rfl)), by unfold RowK; rw [List.length_set]; exact hst, h8.waits.keeps hk1 (fun k e e' => h.ap3 k (by have e2 : k = g := e'; rw [e2]; rfl) e), h.low, h.ap1, h.ap2, h.ap3⟩, (hk.mono (fun _ _ e => e.elim)).trans (hk1.mono (fun k _ e => .inr (.inl (by have e2 : k = g := e; rw [e2]; rfl))))⟩
theorem gives_appendK {P : Program} {call : Bool} {a : Act} {w w' : World} {o : Oper} {s x : Operand} {t : TypeId} {v y r : Value} {post : Value → World → Prop} (ho : o.op = .call { callee := .builtin .append, args := #[s, x], argTypes := #[t, t] })
    (hs : a.eval s = v) (hx : a.eval x = y) (hr : (Builtin.append_ #[t, t] o.type #[v, y]).run P w = .ok r w') (h : post r w') : gives P call o a w post := by
  unfold gives execOp
  simp only [ho, resolve, invoke, builtin, Sem.run_bind, Sem.run_pure, Result.andThen_ok, List.map_toArray, List.map_cons, List.map_nil, hs, hx, hr]
  exact h
/-- a lock is added to a row, in a region -/
theorem append_lk {w : World} {v : Value} {l : List Lk} {b6 : Nat} {x : Lk} {ty : TypeId} (h : RowK w B v l) (hc : w.heap[b6]? = some (.cells #[.int .i64 x.txn, .int .i64 x.page, .int .i64 x.mode] 82 (0, 0))) (hl : l.length ≤ 1000001) (hB : B ≤ w.heap.size) :
    ∃ g c w', (Builtin.append_ #[27, 27] ty #[v, .slice (some ⟨b6, 0, none⟩) 1 1]).run Try.prog w = .ok (.slice (some ⟨g, 0, none⟩) (l.length + 1) c) w' ∧ RowK w' B (.slice (some ⟨g, 0, none⟩) (l.length + 1) c) (l ++ [x]) ∧ Keeps (fun k => v.ownBlock = some k) w w' ∧ (v.ownBlock = some g ∨ g = w.heap.size) := by
  obtain ⟨i0, hi, hz0, hz1, hz2⟩ := info_partsL infoLk
  obtain ⟨g, c, w', h1, h2, h3, h4, _⟩ := run_append_lies (P := Try.prog) w 27 ty B 82 i0 _ 3 24 Try.underlying27 hi hz0 hz1 hz2 rfl (by decide) v l.length (lkV l) h ⟨b6, 0, none⟩ 1 1 (lkV [x]) rfl
    (fun j u hu => by rw [Addr.add_mid, Nat.zero_add]; exact cell_in hc (by simpa [lkV, Lk.vals] using hu)) (lkV_one _) (by decide) (by unfold maxLen; omega) (by omega) hB _ rfl
  exact ⟨g, c, w', h1, RowK.snoc h2, Keeps.of_grown h3, h4⟩
end
end Go.Proofs.Ytnficiohnhodiaa.Pre
