import Derived.Test.YtnficiohnhodiaaRef
/-
  The document's device: Crash.
-/
namespace Go.Proofs.Ytnficiohnhodiaa
open Go.RowKit
theorem take_contains {ks : List Int} {k : Nat} {x i : Int} (h : ks[k]? = some x) : (ks.take (k + 1)).contains i = ((ks.take k).contains i || (x == i)) := by
  have e : ks.take (k + 1) = ks.take k ++ [x] := by rw [List.take_add_one, h]; rfl
  rw [e, Bool.eq_iff_iff]
  simp only [List.contains_iff_mem, List.mem_append, List.mem_singleton, Bool.or_eq_true, beq_iff_eq]
  exact or_congr Iff.rfl eq_comm
def Dev.undoTo (d : Dev) (ks : List Int) (i : Nat) : Dev := { d with now := fun j => if j < (i : Int) ∧ ks.contains j = false then d.synced j else d.now j }
section
variable {w : World} {B : Nat} {A : RAd} {d : Dev} {L : Int} {n : Nat}
theorem RefAt.backAt (h : RefAt w B A d L) {i : Nat} (hi : i < d.size.toNat) : ∃ g o c gs os cs q c2, A.vn = .slice (some ⟨g, o, none⟩) d.size.toNat c ∧ A.vs = .slice (some ⟨gs, os, none⟩) d.size.toNat cs ∧
    w.cell? ⟨gs, os + i, none⟩ = some (.slice q (d.synced i).length c2) ∧ (∃ x, w.cell? ⟨g, o + i, none⟩ = some x) ∧ w.frozen? ⟨g, o + i, none⟩ = false ∧
    RefAt (w.setCell ⟨g, o + i, none⟩ (.slice q (d.synced i).length c2)) B A { d with now := fun j => if j = (i : Int) then d.synced i else d.now j } L ∧ Keeps A.S w (w.setCell ⟨g, o + i, none⟩ (.slice q (d.synced i).length c2)) := by
  obtain ⟨g, o, c, q0, c0, ev, hc, hf, _, _, _⟩ := h.now.at hi
  obtain ⟨gs, os, cs, q, c2, evs, hcs, _, hb, hS, _⟩ := h.synced.at hi
  have a1 := h.ap1 g (by rw [ev]; rfl)
  have hK1 : Keeps (· = g) w (w.setCell ⟨g, o + i, none⟩ (.slice q (d.synced i).length c2)) := Keeps.cellAt (S := (· = g)) rfl _
  have sg : A.S g := .inr (.inl (by rw [ev]; rfl))
  refine ⟨g, o, c, gs, os, cs, q, c2, ev, evs, hcs, ⟨_, hc⟩, hf, ⟨?_, ?_, ?_, ?_, h.low, h.ap1, h.ap2, h.ap3, h.left, h.l0⟩, ?_⟩
  · exact hK1.at h.self (fun e => a1.1 e.symm)
  · have h1 := h.now
    rw [ev] at h1 ⊢
    exact h1.set sg hi hb hS
  · exact h.synced.keeps hK1 (fun k e e' => a1.2.1 (by have e2 : k = g := e'; rw [← e2]; exact e)) (fun k e => by have e' : k = g := e; rw [e']; exact sg)
  · exact h.chg.block_keeps hK1 (fun k e e' => a1.2.2 (by have e2 : k = g := e'; rw [← e2]; exact e))
  · exact hK1.mono (fun k _ e => by have e' : k = g := e; rw [e']; exact sg)
set_option maxRecDepth 100000 in
set_option maxHeartbeats 2000000 in
theorem rcrash_any (h : RefAt w B A d L) (ho : d.Ok n) {v : Value} {ks : List Int} (hk : Ints w v ks) (hkS : ks ≠ [] → ∀ k, v.ownBlock = some k → ¬ A.S k) : Calls Try.prog 57 #[.pointer (some ⟨A.b, 0, none⟩), v] w fun e w' => e = .returned (.tuple #[]) ∧ RefAt w' B A (d.crash ks) L ∧ Keeps A.S w w' := by
  have H := Lib.hid h
  have Ho := Lib.hid ho
  have hz : 1 ≤ d.size := ho.z1
  have hz2 : d.size ≤ 4096 := ho.z2
  obtain ⟨N, hN⟩ : ∃ N : Nat, d.size.toNat = N := ⟨_, rfl⟩
  have HN := Lib.hid hN
  have hN2 : N ≤ 4096 := by omega
  obtain ⟨qk, ck, rfl, k1, k2, k3⟩ := hk
  have hxs : ∀ (w' : World), Keeps A.S w w' → ∀ j x, ks[j]? = some x → ∃ b off, qk = some ⟨b, off, none⟩ ∧ w'.cell? ⟨b, off + j, none⟩ = some (.int .i64 x) := fun w' hK j x hx => by
    obtain ⟨b, off, e, hc⟩ := k3 j x hx
    exact ⟨b, off, e, hK.cell hc (fun e' => hkS (by rintro rfl; simp at hx) b (by subst e; rfl) e')⟩
  have Hxs := Lib.hid hxs
  obtain ⟨m, hm⟩ : ∃ m : Nat, ks.length = m := ⟨_, rfl⟩
  have Hm := Lib.hid hm
  rw [hm]
  unfold maxLen at k2
  have hm2 : m ≤ 9223372036854775807 := by omega
  clear h ho hN k1 k2 k3 hxs hkS hm
  go_enter Try.func57, Try.ntmps57
  go_wp2
  go_loopw [4] (fun t wr => ∃ i : Nat, t = .int .i64 i ∧ i ≤ N ∧ RefAt wr B A (d.undoTo ks i) L ∧ Keeps A.S w wr) (fun t _ => N - (intOf t).toNat)
  case atStart =>
    refine ⟨0, rfl, Nat.zero_le _, H.out.congr ⟨rfl, rfl, rfl, rfl, rfl, rfl⟩ fun i hi => ⟨?_, rfl, rfl⟩, Keeps.refl _ _⟩
    show (if (i : Int) < ((0 : Nat) : Int) ∧ ks.contains (i : Int) = false then d.synced i else d.now i) = d.now i
    rw [if_neg (by omega)]
  case round =>
    clear H
    obtain ⟨i, rfl, hiN, hR, hK⟩ := hrel
    have HR := Lib.hid hR
    have HK := Lib.hid hK
    have c0 : wr.cell? ⟨A.b, 0, none⟩ = some A.vn := hR.cells.c0
    obtain ⟨q0, cc0, ev, _, _⟩ := hR.now.form
    have ev' : A.vn = .slice q0 N cc0 := by rw [ev]; show Value.slice q0 d.size.toNat cc0 = _; rw [HN.out]
    rw [ev'] at c0
    clear hR hK ev ev'
    by_cases hlt : i < N
    · have e1 : decide ((i : Int) < (N : Int)) = true := by simp; omega
      go_wp2
      go_loopw [5, 6] (fun b t wr' => ∃ k : Nat, t = .int .i64 k ∧ k ≤ m ∧ b = .bool ((ks.take k).contains (i : Int)) ∧ wr' = wr) (fun _ t _ => m - (intOf t).toNat)
      case atStart => exact ⟨0, rfl, Nat.zero_le _, by simp, rfl⟩
      case round =>
        obtain ⟨k, rfl, hkm, rfl, rfl⟩ := hrel
        by_cases hltk : k < m
        · have e2 : decide ((k : Int) < (m : Int)) = true := by simp; omega
          obtain ⟨x, hx⟩ : ∃ x, ks[k]? = some x := ⟨_, List.getElem?_eq_getElem (by rw [Hm.out]; exact hltk)⟩
          have hst := Lib.hid (take_contains (i := (i : Int)) hx)
          obtain ⟨bk, off, eq, hcx⟩ := Hxs.out _ HK.out k x hx
          subst eq
          clear hx
          cases hb : (ks.take k).contains (i : Int)
          · rw [hb] at hst
            clear hb
            go_wp2
            go_roundw
            case rel => exact ⟨k + 1, by go_num, by omega, by rw [hst.out]; simp, True.intro⟩
            case measure => simp [intOf]; omega
          · rw [hb] at hst
            clear hb
            go_wp2
            go_roundw
            case rel => exact ⟨k + 1, by go_num, by omega, by rw [hst.out]; simp, True.intro⟩
            case measure => simp [intOf]; omega
        · obtain rfl : k = m := by omega
          have e2 : decide ((k : Int) < (k : Int)) = false := by simp
          have e3 : ks.take k = ks := List.take_of_length_le (by rw [Hm.out]; exact Nat.le_refl _)
          rw [e3]
          clear e3
          cases hb : ks.contains (i : Int)
          · go_upto_region 9 with fail
            have Hb := Lib.hid hb
            clear hb c0 e1 e2
            have HR2 := Lib.hid (HR.out.below (Below.refl wr.heap.size wr).drew)
            have HK2 : Hid (Keeps A.S w wr.drew) := Lib.hid (HK.out.drew)
            clear HR HK
            refine wp_region_still_tail 12 (by kernel_rfl) (by kernel_rfl) ?_
            simp only [List.take_succ_cons, List.take_zero, List.drop_succ_cons, List.drop_zero]
            change wpStill _ _ wr.drew (fun a' => wpList _ _ _ _ a' wr.drew) _ _
            generalize wr.drew = wr at HR2 HK2 ⊢
            obtain ⟨g, o, c, gs, os, cs, q, c2, en, es, h1, ⟨x1, h2⟩, h3, h6, h7⟩ := HR2.out.backAt (i := i) (by show i < d.size.toNat; rw [HN.out]; exact hlt)
            have c0 := HR2.out.cells.c0
            have c1 := HR2.out.cells.c1
            rw [en] at c0
            rw [es] at c1
            rw [show (d.undoTo ks i).size.toNat = N from HN.out] at c0 c1
            have h1' : wr.cell? ⟨gs, os + i, none⟩ = some (.slice q (d.synced i).length c2) := h1
            have H6 : Hid (RefAt (wr.setCell ⟨g, o + i, none⟩ (.slice q (d.synced i).length c2)) B A (d.undoTo ks (i + 1)) L) := Lib.hid (h6.congr ⟨rfl, rfl, rfl, rfl, rfl, rfl⟩ fun j hj => ⟨by
              show (if (j : Int) < ((i + 1 : Nat) : Int) ∧ ks.contains (j : Int) = false then d.synced j else d.now j) = if (j : Int) = (i : Int) then d.synced i else if (j : Int) < (i : Int) ∧ ks.contains (j : Int) = false then d.synced j else d.now j
              by_cases e : j = i
              · subst e; rw [if_pos ⟨by omega, Hb.out⟩, if_pos rfl]
              · rw [if_neg (show ¬ (j : Int) = (i : Int) by omega)]
                by_cases e2 : j < i
                · have e3 : (j : Int) < ((i + 1 : Nat) : Int) := by omega
                  have e4 : (j : Int) < (i : Int) := by omega
                  simp only [e3, e4, true_and]
                · have e3 : ¬ (j : Int) < ((i + 1 : Nat) : Int) := by omega
                  have e4 : ¬ (j : Int) < (i : Int) := by omega
                  simp only [e3, e4, false_and, if_false], rfl, rfl⟩)
            have H7 : Hid (Keeps A.S w (wr.setCell ⟨g, o + i, none⟩ (.slice q (d.synced i).length c2))) := Lib.hid (HK2.out.trans h7)
            clear h6 h7 h1 es en HR2 HK2
            generalize (d.synced (i : Int)).length = nl at h1' H6 H7
            repeat still_step
            refine wpStill_nil ?_
            go_wp2
            go_roundw
            case rel => exact ⟨i + 1, by go_num, by omega, H6.out, H7.out⟩
            case measure => simp [intOf]; omega
          · have Hb := Lib.hid hb
            clear hb
            have H6 : Hid (RefAt wr B A (d.undoTo ks (i + 1)) L) := Lib.hid (HR.out.congr ⟨rfl, rfl, rfl, rfl, rfl, rfl⟩ fun j hj => ⟨by
              show (if (j : Int) < ((i + 1 : Nat) : Int) ∧ ks.contains (j : Int) = false then d.synced j else d.now j) = if (j : Int) < (i : Int) ∧ ks.contains (j : Int) = false then d.synced j else d.now j
              by_cases e : j = i
              · subst e; rw [if_neg (fun h => by rw [Hb.out] at h; cases h.2), if_neg (fun h => by rw [Hb.out] at h; cases h.2)]
              · by_cases e2 : j < i
                · have e3 : (j : Int) < ((i + 1 : Nat) : Int) := by omega
                  have e4 : (j : Int) < (i : Int) := by omega
                  simp only [e3, e4, true_and]
                · have e3 : ¬ (j : Int) < ((i + 1 : Nat) : Int) := by omega
                  have e4 : ¬ (j : Int) < (i : Int) := by omega
                  simp only [e3, e4, false_and, if_false], rfl, rfl⟩)
            go_wp2
            go_roundw
            case rel => exact ⟨i + 1, by go_num, by omega, H6.out, HK.out⟩
            case measure => simp [intOf]; omega
    · obtain rfl : i = N := by omega
      have e1 : decide ((i : Int) < (i : Int)) = false := by simp
      have hsame : ∀ k, (d.undoTo ks i).chg k = false → (d.undoTo ks i).now k = (d.undoTo ks i).synced k := fun k hk => by
        show (if k < (i : Int) ∧ ks.contains k = false then d.synced k else d.now k) = d.synced k
        split
        · rfl
        · exact Ho.out.same k hk
      have hset := rsettle_any HR.out hz hz2 hsame
      clear hsame
      go_wp2_with (go_at_call 81; (with_reducible refine hset.mono ?_); rintro _ w2 ⟨rfl, h2, k2⟩; clear hset; have c5 := h2.cells.c5; have f5 := h2.free 5; have c7 := h2.cells.c7; have f7 := h2.free 7; have H2 := Lib.hid h2; have K2 := Lib.hid k2; clear h2 k2)
      go_end0
      have h5 := H2.out.cell (d' := { (d.undoTo ks i).settle with armed := false }) (L' := L) 5 (.bool false) rfl rfl rfl rfl rfl (fun e => by cases e) H2.out.l0
      have h7 := h5.cell (d' := { (d.undoTo ks i).settle with armed := false, down := false }) (L' := L) 7 (.bool false) rfl rfl rfl rfl rfl (fun e => by cases e) h5.l0
      refine ⟨rfl, h7.congr ⟨rfl, rfl, rfl, rfl, rfl, rfl⟩ fun j hj => ?_, HK.out.trans (K2.out.trans ((Keeps.cellAt (S := A.S) (.inl rfl) _).trans (Keeps.cellAt (S := A.S) (.inl rfl) _)))⟩
      have hj2 : j < i := by rw [← HN.out]; exact hj
      have hj3 : (j : Int) < (i : Int) := by omega
      have en : (if (j : Int) ∈ d.unsynced ∧ (j : Int) ∉ ks then d.synced j else d.now j) = (if (j : Int) < (i : Int) ∧ ks.contains (j : Int) = false then d.synced j else d.now j) := by
        cases hc : d.chg j
        · rw [Ho.out.same j hc]; simp
        · have hm : (j : Int) ∈ d.unsynced := by
            unfold Dev.unsynced
            exact List.mem_map.2 ⟨j, List.mem_filter.2 ⟨List.mem_range.2 (by rw [HN.out]; exact hj2), hc⟩, rfl⟩
          by_cases hk : (j : Int) ∈ ks <;> simp [hk, hm, hj3]
      refine ⟨en, ?_, rfl⟩
      show (if d.chg j then (if (j : Int) ∈ d.unsynced ∧ (j : Int) ∉ ks then d.synced j else d.now j) else d.synced j) = if d.chg j then (if (j : Int) < (i : Int) ∧ ks.contains (j : Int) = false then d.synced j else d.now j) else d.synced j
      rw [en]
end
end Go.Proofs.Ytnficiohnhodiaa
