import Derived.Test.YtnficiohnhodiaaRefB
/-
  The document's device: settle, Sync, Unsynced.
-/
namespace Go.Proofs.Ytnficiohnhodiaa
open Go.RowKit
theorem own_slice {g o n c k : Nat} (e : (Value.slice (some ⟨g, o, none⟩) n c).ownBlock = some k) : k = g := by cases e; rfl
section
variable {w : World} {B : Nat} {A : RAd} {d : Dev} {L : Int} {n : Nat}
/-- the synced sector i is as it is now -/
theorem RefAt.syncAt (h : RefAt w B A d L) {i : Nat} (hi : i < d.size.toNat) : ∃ gs os cs gc oc cc g o c q c2, A.vs = .slice (some ⟨gs, os, none⟩) d.size.toNat cs ∧ A.vc = .slice (some ⟨gc, oc, none⟩) d.size.toNat cc ∧ A.vn = .slice (some ⟨g, o, none⟩) d.size.toNat c ∧
    w.cell? ⟨g, o + i, none⟩ = some (.slice q (d.now i).length c2) ∧ (∃ x, w.cell? ⟨gs, os + i, none⟩ = some x) ∧ w.frozen? ⟨gs, os + i, none⟩ = false ∧ (∃ x, w.cell? ⟨gc, oc + i, none⟩ = some x) ∧ w.frozen? ⟨gc, oc + i, none⟩ = false ∧
    RefAt ((w.setCell ⟨gs, os + i, none⟩ (.slice q (d.now i).length c2)).setCell ⟨gc, oc + i, none⟩ (.bool false)) B A { d with synced := fun j => if j = (i : Int) then d.now i else d.synced j, chg := fun j => if j = (i : Int) then false else d.chg j } L ∧
    Keeps A.S w ((w.setCell ⟨gs, os + i, none⟩ (.slice q (d.now i).length c2)).setCell ⟨gc, oc + i, none⟩ (.bool false)) ∧
    ((w.setCell ⟨gs, os + i, none⟩ (.slice q (d.now i).length c2)).cell? ⟨A.b, 2, none⟩ = some A.vc) ∧ (∃ x, (w.setCell ⟨gs, os + i, none⟩ (.slice q (d.now i).length c2)).cell? ⟨gc, oc + i, none⟩ = some x) ∧ (w.setCell ⟨gs, os + i, none⟩ (.slice q (d.now i).length c2)).frozen? ⟨gc, oc + i, none⟩ = false := by
  obtain ⟨g, o, c, q, c2, ev, hc, hf, hb, hS, _⟩ := h.now.at hi
  obtain ⟨gs, os, cs, qs, c2s, evs, hcs, hfs, hbs, hSs, _⟩ := h.synced.at hi
  obtain ⟨gc, oc, cc, evc, hcc⟩ : ∃ gc oc cc, A.vc = .slice (some ⟨gc, oc, none⟩) d.size.toNat cc ∧ w.cell? ⟨gc, oc + i, none⟩ = some (.bool (d.chg i)) := by
    rcases h.chg with ⟨_, e⟩ | ⟨gc, oc, cc, e, _, _, _, _, _, h6⟩
    · have := congrArg List.length e; rw [boolsV_len] at this; simp only [List.length_nil] at this; omega
    · rw [boolsV_len] at e; exact ⟨gc, oc, cc, e, h6 i _ (boolsV_at _ hi)⟩
  have hfc : w.frozen? ⟨gc, oc + i, none⟩ = false := by
    have h1 := h.chg; rw [evc] at h1; exact (h1.cellAt (boolsV_at _ hi)).2
  have a1 := h.ap1 g (by rw [ev]; rfl)
  have a2 := h.ap2 gs (by rw [evs]; rfl)
  have a3 := h.ap3 gc (by rw [evc]; rfl)
  have hgs : g ≠ gs := fun e => a1.2.1 (by rw [evs, e]; rfl)
  have hgc : g ≠ gc := fun e => a1.2.2 (by rw [evc, e]; rfl)
  have hsc : gs ≠ gc := fun e => a2.2 (by rw [evc, e]; rfl)
  have hK1 : Keeps (· = gs) w (w.setCell ⟨gs, os + i, none⟩ (.slice q (d.now i).length c2)) := Keeps.cellAt (S := (· = gs)) rfl _
  have hK2 : Keeps (· = gc) (w.setCell ⟨gs, os + i, none⟩ (.slice q (d.now i).length c2)) ((w.setCell ⟨gs, os + i, none⟩ (.slice q (d.now i).length c2)).setCell ⟨gc, oc + i, none⟩ (.bool false)) := Keeps.cellAt (S := (· = gc)) rfl _
  have sgs : A.S gs := .inr (.inr (.inl (by rw [evs]; rfl)))
  have sgc : A.S gc := .inr (.inr (.inr (by rw [evc]; rfl)))
  refine ⟨gs, os, cs, gc, oc, cc, g, o, c, q, c2, evs, evc, ev, hc, ⟨_, hcs⟩, hfs, ⟨_, hcc⟩, hfc, ⟨?_, ?_, ?_, ?_, h.low, h.ap1, h.ap2, h.ap3, h.left, h.l0⟩, ?_, ?_, ?_, ?_⟩
  · exact hK2.at (hK1.at h.self (fun e => a2.1 e.symm)) (fun e => a3 e.symm)
  · have h1 := h.now
    rw [ev] at h1 ⊢
    exact (h1.keeps hK1 (fun k e e' => hgs ((own_slice e).symm.trans e')) (fun k e => by have e' : k = gs := e; rw [e']; exact sgs)).keeps hK2 (fun k e e' => hgc ((own_slice e).symm.trans e')) (fun k e => by have e' : k = gc := e; rw [e']; exact sgc)
  · have h1 := h.synced
    rw [evs] at h1 ⊢
    exact (h1.set sgs hi hb hS).keeps hK2 (fun k e e' => hsc ((own_slice e).symm.trans e')) (fun k e => by have e' : k = gc := e; rw [e']; exact sgc)
  · have h1 := h.chg
    rw [evc] at h1 ⊢
    rw [← boolsV_set]
    exact (h1.block_keeps hK1 (fun k e e' => hsc (e'.symm.trans (own_slice e)))).set i (by rw [boolsV_len]; exact hi) _
  · exact (hK1.mono (fun k _ e => by have e' : k = gs := e; rw [e']; exact sgs)).trans (hK2.mono (fun k _ e => by have e' : k = gc := e; rw [e']; exact sgc))
  · exact hK1.cell h.cells.c2 (fun e => a2.1 e.symm)
  · exact ⟨_, hK1.cell hcc (fun e => hsc e.symm)⟩
  · rw [World.frozen?_setCell]; exact hfc
/-- equal where it counts -/
theorem RefAt.congr {d' : Dev} (h : RefAt w B A d L) (e0 : d'.steps = d.steps ∧ d'.syncs = d.syncs ∧ d'.armed = d.armed ∧ d'.down = d.down ∧ d'.size = d.size ∧ d'.left = d.left) (e1 : ∀ i : Nat, i < d.size.toNat → d'.now i = d.now i ∧ d'.synced i = d.synced i ∧ d'.chg i = d.chg i) : RefAt w B A d' L := by
  obtain ⟨a1, a2, a3, a4, a5, a6⟩ := e0
  refine ⟨?_, ?_, ?_, ?_, h.low, h.ap1, h.ap2, h.ap3, by rw [a3, a6]; exact h.left, h.l0⟩
  · rw [a1, a2, a3, a4]; exact h.self
  · rw [a5]; exact h.now.congr (fun i hi => (e1 i hi).1)
  · rw [a5]; exact h.synced.congr (fun i hi => (e1 i hi).2.1)
  · rw [a5, boolsV_congr (fun i hi => (e1 i hi).2.2)]; exact h.chg
def Dev.sofar (d : Dev) (i : Nat) : Dev := { d with synced := fun j => if j < (i : Int) then d.now j else d.synced j, chg := fun j => if j < (i : Int) then false else d.chg j }
set_option maxRecDepth 100000 in
set_option maxHeartbeats 1000000 in
theorem rsettle_any (h : RefAt w B A d L) (hz : 1 ≤ d.size) (hz2 : d.size ≤ 4096) (hsame : ∀ k, d.chg k = false → d.now k = d.synced k) : Calls Try.prog 81 #[.pointer (some ⟨A.b, 0, none⟩)] w fun e w' => e = .returned (.tuple #[]) ∧ RefAt w' B A d.settle L ∧ Keeps A.S w w' := by
  have H := Lib.hid h
  have Ho := Lib.hid hsame
  obtain ⟨N, hN⟩ : ∃ N : Nat, d.size.toNat = N := ⟨_, rfl⟩
  have HN := Lib.hid hN
  have hN2 : N ≤ 4096 := by omega
  clear h hsame hN
  go_enter Try.func81, Try.ntmps81
  go_wp2
  go_loopw [2] (fun t wr => ∃ i : Nat, t = .int .i64 i ∧ i ≤ N ∧ RefAt wr B A (d.sofar i) L ∧ Keeps A.S w wr) (fun t _ => N - (intOf t).toNat)
  case atStart =>
    refine ⟨0, rfl, Nat.zero_le _, H.out.congr ⟨rfl, rfl, rfl, rfl, rfl, rfl⟩ fun i hi => ⟨rfl, ?_, ?_⟩, Keeps.refl _ _⟩
    · show (if (i : Int) < ((0 : Nat) : Int) then d.now i else d.synced i) = d.synced i; rw [if_neg (by omega)]
    · show (if (i : Int) < ((0 : Nat) : Int) then false else d.chg i) = d.chg i; rw [if_neg (by omega)]
  case round =>
    clear H
    obtain ⟨i, rfl, hi, hR, hK⟩ := hrel
    have HR := Lib.hid hR
    have HK := Lib.hid hK
    have c0 : wr.cell? ⟨A.b, 0, none⟩ = some A.vn := hR.cells.c0
    obtain ⟨q0, cc0, ev, _, _⟩ := hR.now.form
    have ev' : A.vn = .slice q0 N cc0 := by rw [ev]; show Value.slice q0 d.size.toNat cc0 = _; rw [HN.out]
    rw [ev'] at c0
    clear hR hK ev ev'
    by_cases hlt : i < N
    · have e1 : decide ((i : Int) < (N : Int)) = true := by simp; omega
      go_upto_region 3 with fail
      clear c0 e1
      have HR2 := Lib.hid (HR.out.below (Below.refl wr.heap.size wr).drew)
      have HK2 : Hid (Keeps A.S w wr.drew) := Lib.hid (HK.out.drew)
      clear HR HK
      refine wp_region_still_tail 12 (by kernel_rfl) (by kernel_rfl) ?_
      simp only [List.take_succ_cons, List.take_zero, List.drop_succ_cons, List.drop_zero]
      change wpStill _ _ wr.drew (fun a' => wpList _ _ _ _ a' wr.drew) _ _
      generalize wr.drew = wr at HR2 HK2 ⊢
      obtain ⟨gs, os, cs, gc, oc, cc, g, o, c, q, c2, es, ec, en, h1, ⟨xs, h2⟩, h3, ⟨xc, h4⟩, h5, h6, h7, h8, ⟨xd, h9⟩, h10⟩ := HR2.out.syncAt (i := i) (by show i < d.size.toNat; rw [HN.out]; exact hlt)
      have c0 := HR2.out.cells.c0
      have c1 := HR2.out.cells.c1
      rw [es] at c1
      rw [en] at c0
      rw [ec] at h8
      rw [show (d.sofar i).size.toNat = N from HN.out] at c0 c1 h8
      have h1' : wr.cell? ⟨g, o + i, none⟩ = some (.slice q (d.now i).length c2) := h1
      have en2 : (d.sofar i).now = d.now := rfl
      rw [en2] at h8 h9 h10
      have H6 : Hid (RefAt ((wr.setCell ⟨gs, os + i, none⟩ (.slice q (d.now i).length c2)).setCell ⟨gc, oc + i, none⟩ (.bool false)) B A (d.sofar (i + 1)) L) := Lib.hid (h6.congr ⟨rfl, rfl, rfl, rfl, rfl, rfl⟩ fun j hj => ⟨rfl, by
        show (if (j : Int) < ((i + 1 : Nat) : Int) then d.now j else d.synced j) = if (j : Int) = (i : Int) then d.now i else if (j : Int) < (i : Int) then d.now j else d.synced j
        by_cases e : j = i
        · subst e; rw [if_pos (by omega), if_pos rfl]
        · by_cases e2 : j < i
          · rw [if_pos (by omega), if_neg (by omega), if_pos (by omega)]
          · rw [if_neg (by omega), if_neg (by omega), if_neg (by omega)], by
        show (if (j : Int) < ((i + 1 : Nat) : Int) then false else d.chg j) = if (j : Int) = (i : Int) then false else if (j : Int) < (i : Int) then false else d.chg j
        by_cases e : j = i
        · subst e; rw [if_pos (by omega), if_pos rfl]
        · by_cases e2 : j < i
          · rw [if_pos (by omega), if_neg (by omega), if_pos (by omega)]
          · rw [if_neg (by omega), if_neg (by omega), if_neg (by omega)]⟩)
      have H7 : Hid (Keeps A.S w ((wr.setCell ⟨gs, os + i, none⟩ (.slice q (d.now i).length c2)).setCell ⟨gc, oc + i, none⟩ (.bool false))) := Lib.hid (HK2.out.trans h7)
      clear h6 h7 h1 es ec en en2 HR2 HK2
      generalize (d.now (i : Int)).length = nl at h1' h8 h9 h10 H6 H7
      repeat still_step
      refine wpStill_nil ?_
      go_wp2
      go_roundw
      case rel => exact ⟨i + 1, by go_num, by omega, H6.out, H7.out⟩
      case measure => simp [intOf]; omega
    · obtain rfl : i = N := by omega
      have e1 : decide ((i : Int) < (i : Int)) = false := by simp
      go_wp2
      go_end0
      refine ⟨rfl, HR.out.congr ⟨rfl, rfl, rfl, rfl, rfl, rfl⟩ fun j hj => ⟨rfl, ?_, ?_⟩, HK.out⟩
      · have hj2 : j < i := by rw [← HN.out]; exact hj
        show (if d.chg j then d.now j else d.synced j) = if (j : Int) < (i : Int) then d.now j else d.synced j
        have hj3 : (j : Int) < (i : Int) := by omega
        simp only [hj3, if_true]
        split
        · rfl
        · rename_i e; exact (Ho.out j (by simpa using e)).symm
      · have hj2 : j < i := by rw [← HN.out]; exact hj
        show false = if (j : Int) < (i : Int) then false else d.chg j
        have hj3 : (j : Int) < (i : Int) := by omega
        simp only [hj3, if_true]
end
end Go.Proofs.Ytnficiohnhodiaa
