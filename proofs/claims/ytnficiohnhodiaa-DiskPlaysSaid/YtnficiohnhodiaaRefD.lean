import Derived.Test.YtnficiohnhodiaaRefC
/-
  The document's device: Sync, Write.
-/
namespace Go.Proofs.Ytnficiohnhodiaa
open Go.RowKit
section
variable {w : World} {B : Nat} {A : RAd} {d : Dev} {L : Int} {n : Nat}
theorem step_code (d : Dev) : d.step.1 = 0 ∨ d.step.1 = 3 := by unfold Dev.step; split <;> simp
set_option maxRecDepth 100000 in
theorem rsync_any (h : RefAt w B A d L) (ho : d.Ok n) (hn : n ≤ 1000000) (hL : L ≤ 9223372036854775807) (hL0 : -100000000 ≤ L) : Calls Try.prog 55 #[.pointer (some ⟨A.b, 0, none⟩)] w fun e w' => e = .returned (.int .i64 d.sync.1) ∧ RefAt w' B A d.sync.2 (stepL d L) ∧ Keeps A.S w w' := by
  have hst := rstep_any h ho hn hL hL0
  have hok := ho.step
  clear h
  by_cases hz : d.step.1 = 0
  · have e : d.sync = (0, { d.step.2 with syncs := d.step.2.syncs + 1 }.settle) := by unfold Dev.sync; rw [if_pos hz]
    rw [e]
    rw [hz] at hst
    have b0 := hok.y0
    have b1 := hok.y1
    have b2 := hok.s1
    have z1 := hok.z1
    have z2 := hok.z2
    have Hs : Hid (∀ k, d.step.2.chg k = false → d.step.2.now k = d.step.2.synced k) := Lib.hid hok.same
    clear e hz hok ho
    generalize stepL d L = L1 at hst ⊢
    generalize d.step.2 = d1 at hst b0 b1 b2 z1 z2 Hs ⊢
    go_enter Try.func55, Try.ntmps55
    go_wp2_with (first
      | (go_at_call 80; (with_reducible refine hst.mono ?_); rintro _ w1 ⟨rfl, h1, k1⟩; clear hst; have c4 := h1.cells.c4; have f4 := h1.free 4; have H1 := Lib.hid h1; have K1 := Lib.hid k1; clear h1 k1)
      | (go_at_call 81; (have H2 : RefAt (w1.setCell ⟨A.b, 4, none⟩ (.int .i64 (d1.syncs + 1))) B A { d1 with syncs := d1.syncs + 1 } L1 := H1.out.cell (d' := { d1 with syncs := d1.syncs + 1 }) 4 (.int .i64 (d1.syncs + 1)) rfl rfl rfl rfl rfl H1.out.left H1.out.l0); (with_reducible refine (rsettle_any H2 z1 z2 Hs.out).mono ?_); rintro _ w2 ⟨rfl, h2, k2⟩; have H3 := Lib.hid h2; have K2 := Lib.hid k2; clear h2 k2 H2))
    go_ret
    exact ⟨rfl, H3.out, (K1.out.mono (fun k _ e => Or.inl e)).trans ((Keeps.cellAt (S := A.S) (.inl rfl) _).trans K2.out)⟩
  · have e : d.sync = d.step := by unfold Dev.sync; rw [if_neg hz]
    have e3 : d.step.1 = 3 := by rcases step_code d with h | h; exact absurd h hz; exact h
    rw [e]
    rw [e3] at hst ⊢
    clear e hz hok ho e3
    generalize stepL d L = L1 at hst ⊢
    generalize d.step.2 = d1 at hst ⊢
    go_enter Try.func55, Try.ntmps55
    go_wp2_with (go_at_call 80; (with_reducible refine hst.mono ?_); rintro _ w1 ⟨rfl, h1, k1⟩; clear hst; have H1 := Lib.hid h1; have K1 := Lib.hid k1; clear h1 k1)
    go_ret
    exact ⟨rfl, H1.out, K1.out.mono (fun k _ e => Or.inl e)⟩
/-- rows that lie in no block of F lie in none of them afterwards, where new rows (in the blocks N) lie in none of them -/
def Avoids (A : RAd) (w w' : World) (B : Nat) (d d' : Dev) (N : Nat → Prop) : Prop :=
  ∀ F : Nat → Prop, (∀ k, A.S k → F k) → (∀ k, F k → ¬ N k) → RowsAt w B A.vn F d.now d.size.toNat → RowsAt w B A.vs F d.synced d.size.toNat → RowsAt w' B A.vn F d'.now d'.size.toNat ∧ RowsAt w' B A.vs F d'.synced d'.size.toNat
/-- a row is put in its place, and marked -/
theorem RefAt.putAt (h : RefAt w B A d L) {i : Nat} (hi : i < d.size.toNat) {q : Option Addr} {c2 : Nat} {l : List UInt8} (hx : Bytes w (.slice q l.length c2) l) (hS : ∀ k, (Value.slice q l.length c2).ownBlock = some k → ¬ A.S k) :
    ∃ g o c gc oc cc, A.vn = .slice (some ⟨g, o, none⟩) d.size.toNat c ∧ A.vc = .slice (some ⟨gc, oc, none⟩) d.size.toNat cc ∧ (∃ x, w.cell? ⟨g, o + i, none⟩ = some x) ∧ w.frozen? ⟨g, o + i, none⟩ = false ∧
    (w.setCell ⟨g, o + i, none⟩ (.slice q l.length c2)).cell? ⟨A.b, 2, none⟩ = some A.vc ∧ (∃ x, (w.setCell ⟨g, o + i, none⟩ (.slice q l.length c2)).cell? ⟨gc, oc + i, none⟩ = some x) ∧ (w.setCell ⟨g, o + i, none⟩ (.slice q l.length c2)).frozen? ⟨gc, oc + i, none⟩ = false ∧
    RefAt ((w.setCell ⟨g, o + i, none⟩ (.slice q l.length c2)).setCell ⟨gc, oc + i, none⟩ (.bool true)) B A (d.put i l) L ∧ Keeps A.S w ((w.setCell ⟨g, o + i, none⟩ (.slice q l.length c2)).setCell ⟨gc, oc + i, none⟩ (.bool true)) ∧
    Avoids A w ((w.setCell ⟨g, o + i, none⟩ (.slice q l.length c2)).setCell ⟨gc, oc + i, none⟩ (.bool true)) B d (d.put i l) (fun k => (Value.slice q l.length c2).ownBlock = some k) := by
  obtain ⟨g, o, c, q0, c0, ev, hc, hf, _, _, _⟩ := h.now.at hi
  obtain ⟨gc, oc, cc, evc, hcc⟩ : ∃ gc oc cc, A.vc = .slice (some ⟨gc, oc, none⟩) d.size.toNat cc ∧ w.cell? ⟨gc, oc + i, none⟩ = some (.bool (d.chg i)) := by
    rcases h.chg with ⟨_, e⟩ | ⟨gc, oc, cc, e, _, _, _, _, _, h6⟩
    · have := congrArg List.length e; rw [boolsV_len] at this; simp only [List.length_nil] at this; omega
    · rw [boolsV_len] at e; exact ⟨gc, oc, cc, e, h6 i _ (boolsV_at _ hi)⟩
  have hfc : w.frozen? ⟨gc, oc + i, none⟩ = false := by
    have h1 := h.chg; rw [evc] at h1; exact (h1.cellAt (boolsV_at _ hi)).2
  have a1 := h.ap1 g (by rw [ev]; rfl)
  have a3 := h.ap3 gc (by rw [evc]; rfl)
  have hgc : g ≠ gc := fun e => a1.2.2 (by rw [evc, e]; rfl)
  have hK1 : Keeps (· = g) w (w.setCell ⟨g, o + i, none⟩ (.slice q l.length c2)) := Keeps.cellAt (S := (· = g)) rfl _
  have hK2 : Keeps (· = gc) (w.setCell ⟨g, o + i, none⟩ (.slice q l.length c2)) ((w.setCell ⟨g, o + i, none⟩ (.slice q l.length c2)).setCell ⟨gc, oc + i, none⟩ (.bool true)) := Keeps.cellAt (S := (· = gc)) rfl _
  have sg : A.S g := .inr (.inl (by rw [ev]; rfl))
  have sgc : A.S gc := .inr (.inr (.inr (by rw [evc]; rfl)))
  refine ⟨g, o, c, gc, oc, cc, ev, evc, ⟨_, hc⟩, hf, ?_, ?_, ?_, ⟨?_, ?_, ?_, ?_, h.low, h.ap1, h.ap2, h.ap3, h.left, h.l0⟩, ?_, ?_⟩
  · exact hK1.cell h.cells.c2 (fun e => a1.1 e.symm)
  · exact ⟨_, hK1.cell hcc (fun e => hgc e.symm)⟩
  · rw [World.frozen?_setCell]; exact hfc
  · exact hK2.at (hK1.at h.self (fun e => a1.1 e.symm)) (fun e => a3 e.symm)
  · have h1 := h.now
    rw [ev] at h1 ⊢
    exact (h1.set sg hi hx hS).keeps hK2 (fun k e e' => hgc ((own_slice e).symm.trans e')) (fun k e => by have e' : k = gc := e; rw [e']; exact sgc)
  · have h1 := h.synced
    exact (h1.keeps hK1 (fun k e e' => a1.2.1 (by have e2 : k = g := e'; rw [← e2]; exact e)) (fun k e => by have e' : k = g := e; rw [e']; exact sg)).keeps hK2 (fun k e e' => (h.ap2 k e).2 (by have e2 : k = gc := e'; rw [evc, e2]; rfl)) (fun k e => by have e' : k = gc := e; rw [e']; exact sgc)
  · have h1 := h.chg
    rw [evc] at h1 ⊢
    show SubRow _ _ _ (boolsV (fun j => if j = (i : Int) then true else d.chg j) d.size.toNat)
    rw [← boolsV_set]
    exact (h1.block_keeps hK1 (fun k e e' => hgc (e'.symm.trans (own_slice e)))).set i (by rw [boolsV_len]; exact hi) _
  · exact (hK1.mono (fun k _ e => by have e' : k = g := e; rw [e']; exact sg)).trans (hK2.mono (fun k _ e => by have e' : k = gc := e; rw [e']; exact sgc))
  · intro F hF hN h1 h2
    have fg := hF g sg
    have fgc := hF gc sgc
    refine ⟨?_, ?_⟩
    · rw [ev] at h1 ⊢
      exact (h1.set fg hi hx (fun k e e' => hN k e' e)).keeps hK2 (fun k e e' => hgc ((own_slice e).symm.trans e')) (fun k e => by have e' : k = gc := e; rw [e']; exact fgc)
    · exact (h2.keeps hK1 (fun k e e' => a1.2.1 (by have e2 : k = g := e'; rw [← e2]; exact e)) (fun k e => by have e' : k = g := e; rw [e']; exact fg)).keeps hK2 (fun k e e' => (h.ap2 k e).2 (by have e2 : k = gc := e'; rw [evc, e2]; rfl)) (fun k e => by have e' : k = gc := e; rw [e']; exact fgc)
/-- its blocks are there -/
theorem RefAt.lt (h : RefAt w B A d L) (k : Nat) (hk : A.S k) : k < w.heap.size := by
  rcases hk with rfl | e | e | e
  · exact (Array.getElem?_eq_some_iff.1 h.self).1
  · obtain ⟨rows, _, hs, _⟩ := h.now; exact (hs.lt k e).2
  · obtain ⟨rows, _, hs, _⟩ := h.synced; exact (hs.lt k e).2
  · exact (h.chg.lt k e).2
end
end Go.Proofs.Ytnficiohnhodiaa
