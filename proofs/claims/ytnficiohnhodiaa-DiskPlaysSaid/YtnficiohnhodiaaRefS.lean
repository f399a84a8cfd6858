import Derived.Test.YtnficiohnhodiaaRefR
/-
  play: a Write in two parts.
-/
namespace Go.Proofs.Ytnficiohnhodiaa.Pre
open Go.RowKit
theorem from2 {w : World} {g o cap : Nat} {l : List UInt8} (h : Bytes w (.slice (some ⟨g, o, none⟩) l.length cap) l) (k : Nat) (hk : k ≤ l.length) : Bytes w (.slice (some ⟨g, o + k, none⟩) (l.length - k) (cap - k)) (l.drop k) := by
  obtain ⟨q', cap', e, h1, h2, h3⟩ := h
  cases e
  refine ⟨_, _, by rw [List.length_drop], by rw [List.length_drop]; omega, by omega, fun j b hb => ?_⟩
  rw [List.getElem?_drop] at hb
  obtain ⟨a, e, hc⟩ := h3 (k + j) b hb
  cases e
  refine ⟨_, rfl, ?_⟩
  rw [Addr.add_mid] at hc ⊢
  rw [Nat.add_assoc]; exact hc
/-- 's[:k]' -/
theorem to2 {w : World} {q : Option Addr} {cap : Nat} {l : List UInt8} (h : Bytes w (.slice q l.length cap) l) (k : Nat) (hk : k ≤ l.length) : Bytes w (.slice q k cap) (l.take k) := by
  obtain ⟨q', cap', e, h1, h2, h3⟩ := h
  cases e
  have hlen : (l.take k).length = k := by rw [List.length_take]; omega
  refine ⟨_, _, by rw [hlen], by omega, h2, fun j b hb => ?_⟩
  have hlt := (List.getElem?_eq_some_iff.1 hb).1
  rw [List.getElem?_take, if_pos (by omega)] at hb
  exact h3 j b hb
theorem parts_two {w : World} {B b : Nat} {x y : Value} {l r : List UInt8} (h : SubRow w B (.slice (some ⟨b, 0, none⟩) 2 2) [x, y]) (hx : Bytes w x l) (hy : Bytes w y r) : Parts w (.slice (some ⟨b, 0, none⟩) 2 2) [l, r] := by
  obtain ⟨h1, _⟩ := h.cellAt (j := 0) (u := x) rfl
  obtain ⟨h2, _⟩ := h.cellAt (j := 1) (u := y) rfl
  refine ⟨_, 2, rfl, Nat.le_refl _, by unfold maxLen; omega, fun k l' hl => ?_⟩
  match k, hl with
  | 0, hl => cases hl; exact ⟨_, x, rfl, by simpa [Addr.add] using h1, hx⟩
  | 1, hl => cases hl; exact ⟨_, y, rfl, by simpa [Addr.add] using h2, hy⟩
  | k + 2, hl => simp at hl
theorem sub_list {w : World} {B : Nat} {xs : List Value} {T : TypeId} (h : B ≤ w.heap.size) (hl : xs.length ≤ maxLen) : SubRow (w.alloc (.cells xs.toArray T)) B (.slice (some ⟨w.heap.size, 0, none⟩) xs.length xs.length) xs := by
  have hh := heap_alloc_new w (.cells xs.toArray T)
  refine .inr ⟨w.heap.size, 0, xs.length, rfl, h, by simp, Nat.le_refl _, hl, fun j hj => ?_, fun j u hu => ?_⟩
  · rw [Nat.zero_add, cell_in (o := j) (u := xs[j]) hh (by simp)]
    exact ⟨rfl, free_in hh⟩
  · rw [Nat.zero_add]; exact cell_in hh (by simpa using hu)
theorem SubRow.front {w : World} {B : Nat} {q : Option Addr} {n m cap : Nat} {l r : List UInt8} (h : SubRow w B (.slice q n cap) (bytesV (l ++ r))) (hm : l.length = m) (h0 : 1 ≤ n) : SubRow w B (.slice q m cap) (bytesV l) := by
  rcases h with ⟨e, _⟩ | ⟨g, off, c, e, h1, h2, h3, h4, h5, h6⟩
  · cases e; omega
  · injection e with e1 e2 e3
    subst e1 e2 e3
    rw [bytesV_len, List.length_append] at h3
    refine .inr ⟨g, off, cap, by rw [bytesV_len, hm], h1, h2, by rw [bytesV_len]; omega, h4, h5, fun j u hu => h6 j u ?_⟩
    have hj := (List.getElem?_eq_some_iff.1 hu).1
    unfold bytesV at hu ⊢
    rw [List.map_append, List.getElem?_append_left (by unfold bytesV at hj; exact hj)]; exact hu
theorem RefX.more {w : World} {B : Nat} {A : RAd} {d : Dev} {L : Int} {F G : Nat → Prop} (h : RefX w B A F d L) (hl : ∀ k, (d.now k).length = 512 ∧ (d.synced k).length = 512) (hG : ∀ k, G k → w.heap.size ≤ k) : RefX w B A (fun k => F k ∨ G k) d L := by
  have ne : ∀ l : List UInt8, l.length = 512 → l ≠ [] := fun l e e2 => by rw [e2] at e; cases e
  refine ⟨h.ref, ?_, ?_⟩
  · obtain ⟨rows, a, b, c⟩ := h.now
    exact ⟨rows, a, b, fun i x hx => ⟨(c i x hx).1, (c i x hx).2.1, fun k e => by
      rintro (h1 | h1 | h1)
      · exact (c i x hx).2.2 k e (.inl h1)
      · exact (c i x hx).2.2 k e (.inr h1)
      · exact Nat.lt_irrefl _ (Nat.lt_of_lt_of_le ((c i x hx).2.1.lt (ne _ (hl i).1) k e) (hG k h1))⟩⟩
  · obtain ⟨rows, a, b, c⟩ := h.syn
    exact ⟨rows, a, b, fun i x hx => ⟨(c i x hx).1, (c i x hx).2.1, fun k e => by
      rintro (h1 | h1 | h1)
      · exact (c i x hx).2.2 k e (.inl h1)
      · exact (c i x hx).2.2 k e (.inr h1)
      · exact Nat.lt_irrefl _ (Nat.lt_of_lt_of_le ((c i x hx).2.1.lt (ne _ (hl i).2) k e) (hG k h1))⟩⟩
section
variable {w0 w w' : World} {A : RAd} {d d' : Dev} {L L' : Int} {p mn ms mc n m : Nat}
set_option maxRecDepth 100000 in
set_option maxHeartbeats 2000000 in
theorem play_two (h : Both w0 w p mn ms mc A d L n) (hn : n ≤ 1000000) (hL : L ≤ 9223372036854775807) (hL0 : -100000000 ≤ L) (at_ x : Int) {q : Option Addr} {nb cb : Nat} {l : List UInt8} (hnb : l.length = nb) (hbs : Bytes w0 (.slice q nb cb) l) (hnl : nb ≤ 1000000000) (ks : Value) :
    Calls Try.prog 25 #[.pointer (some ⟨p, 0, none⟩), .pointer (some ⟨A.b, 0, none⟩), .agg #[.int .i64 0, .int .i64 at_, .int .i64 x, .slice q nb cb, ks]] w fun e w' => e = .returned (.bool true) ∧ Both w0 w' p mn ms mc A (d.write at_ l).2 (writeL d at_ l L) (n + 1) ∧ Keeps (fun k => DFoot p mn ms mc k ∨ A.S k) w w' := by
  have hal : Below w.heap.size w (w.alloc (.cells #[.int .i64 0, .int .i64 at_, .int .i64 x, .slice q nb cb, ks] 54)) := (Below.refl _ _).alloc (Nat.le_refl _) _
  have hh := heap_alloc_new w (.cells #[.int .i64 0, .int .i64 at_, .int .i64 x, .slice q nb cb, ks] 54)
  have c1 := cell_in (o := 1) (u := .int .i64 at_) hh rfl
  have c2 := cell_in (o := 2) (u := .int .i64 x) hh rfl
  have c3 := cell_in (o := 3) (u := .slice q nb cb) hh rfl
  have H1 := Lib.hid (h.below hal)
  have Hal := Lib.hid hal
  have Hlt : Hid (∀ k, DFoot p mn ms mc k ∨ A.S k → k < w.heap.size) := Lib.hid (fun k e => e.elim (h.dev.lay.lt k) (h.ref.lt k))
  have Hlo : Hid (∀ k, DFoot p mn ms mc k ∨ A.S k → w0.heap.size ≤ k) := Lib.hid (fun k e => e.elim (h.dev.low k) (h.low k))
  have Hw0 : Hid (w0.heap.size ≤ w.heap.size) := Lib.hid h.dev.bel.size
  have hcp := copy_any (hbs.below (H1.out.dev.bel)) (by omega)
  rw [hnb] at hcp
  have Hbs := Lib.hid hbs
  have Hnb := Lib.hid hnb
  have Hlow : Hid (l ≠ [] → ∀ k, (Value.slice q nb cb).ownBlock = some k → k < w0.heap.size) := Lib.hid (fun h0 k e => hbs.lt h0 k e)
  have Hds := Lib.hid h.off
  have HA0 := Lib.hid h.low
  clear h hal hh hbs hnb
  go_enter Try.func25, Try.ntmps25
  go_upto_region 5 with (go_at_call 50; (with_reducible refine hcp.mono ?_); rintro _ w2 ⟨g, o, c, rfl, s2, b2⟩; clear hcp; have S2 := Lib.hid s2; have B2 := Lib.hid b2; have c1b := (Keeps.of_below (S := fun _ => False) b2).cell c1 (fun e => e); have c2b := (Keeps.of_below (S := fun _ => False) b2).cell c2 (fun e => e); have c3b := (Keeps.of_below (S := fun _ => False) b2).cell c3 (fun e => e); clear s2 b2)
  obtain ⟨k, hk, hkn⟩ : ∃ k : Nat, min (max x 0) (nb : Int) = (k : Int) ∧ k ≤ nb := ⟨(min (max x 0) (nb : Int)).toNat, by omega, by omega⟩
  rw [hk]
  generalize w.alloc (.cells #[.int .i64 0, .int .i64 at_, .int .i64 x, .slice q nb cb, ks] 54) = w1 at H1 Hal S2 B2 c1 c2 c3 ⊢
  have Hg : Hid (w1.heap.size ≤ g ∧ g < w2.heap.size) := Lib.hid (S2.out.lt g rfl)
  obtain ⟨hnc, hcm⟩ : nb + 2 ≤ c ∧ c ≤ maxLen := by
    obtain ⟨_, _, e2, h3, h4⟩ := S2.out.form
    rw [bytesV_len, List.length_append, Hnb.out] at h3
    injection e2 with _ _ e3
    subst e3
    exact ⟨h3, h4⟩
  have Hsz : Hid (w.heap.size ≤ w1.heap.size) := Lib.hid Hal.out.size
  have HC : Hid (∀ w', Keeps (fun k => DFoot p mn ms mc k ∨ A.S k) w2 w' → SubRow w' w1.heap.size (.slice (some ⟨g, o, none⟩) (nb + 2) c) (bytesV (l ++ [165, 90]))) := Lib.hid (fun w' k => S2.out.block_keeps k (fun k' e e' => by have h1 : k' = g := own_slice e; have := Hlt.out _ e'; have := Hsz.out; have := Hg.out; omega))
  have HO : Hid (∀ w', Keeps (fun k => DFoot p mn ms mc k ∨ A.S k) w2 w' → Bytes w' (.slice q nb cb) l) := Lib.hid (fun w' k => ((Hbs.out.below (H1.out.dev.bel)).below B2.out).keeps_ne k (fun h0 k' e e' => by have := Hlow.out h0 k' e; have := Hlo.out k' e'; omega))
  have HD2 : Hid (DB w0 w2 p mn ms mc d n) := Lib.hid (H1.out.dev.below B2.out)
  have HX2 : Hid (RefX w2 w0.heap.size A (fun k => DFoot p mn ms mc k ∨ k = g) d L) := Lib.hid (RefX.keeps (F := fun k => DFoot p mn ms mc k ∨ k = g) (RefX.more (RefX.of H1.out.ref H1.out.dev.lay H1.out.dev.ok.lens) H1.out.dev.ok.lens (fun k e => by have e' : k = g := e; have := Hg.out; omega)) (Keeps.of_below (S := fun _ => False) B2.out) (fun _ e => e.elim) (fun k e e' => e.elim (fun e => Hds.out k e e') (fun e => by have := Hlt.out k (.inr e'); have := Hsz.out; have := Hg.out; omega)))
  have Hgx : Hid (∀ k, DFoot p mn ms mc k ∨ k = g → ¬ A.S k) := Lib.hid (fun k e e' => e.elim (fun e => Hds.out k e e') (fun e => by have := Hlt.out k (.inr e'); have := Hsz.out; have := Hg.out; omega))
  have HBk : Hid (∀ wa wb : World, Below wa.heap.size wa wb → (Keeps (fun k => DFoot p mn ms mc k ∨ A.S k) w2 wa ∧ wa.cell? ⟨w.heap.size, 1, none⟩ = some (.int .i64 at_) ∧ wa.cell? ⟨w.heap.size, 3, none⟩ = some (.slice q nb cb)) → (Keeps (fun k => DFoot p mn ms mc k ∨ A.S k) w2 wb ∧ wb.cell? ⟨w.heap.size, 1, none⟩ = some (.int .i64 at_) ∧ wb.cell? ⟨w.heap.size, 3, none⟩ = some (.slice q nb cb))) := Lib.hid (fun wa wb hb h => ⟨h.1.trans (Keeps.of_below hb), (Keeps.of_below (S := fun _ => False) hb).cell h.2.1 (fun e => e), (Keeps.of_below (S := fun _ => False) hb).cell h.2.2 (fun e => e)⟩)
  have HPS : Hid (∀ m k, PS p mn ms mc A 10 17 m k → DFoot p mn ms mc k ∨ A.S k) := Lib.hid (fun m k h => h.elim (fun h => .inl h.2) (fun h => .inr h.2))
  have HBm : Hid (∀ (m : Nat) (wa wb : World), Keeps (PS p mn ms mc A 10 17 m) wa wb → (Keeps (fun k => DFoot p mn ms mc k ∨ A.S k) w2 wa ∧ wa.cell? ⟨w.heap.size, 1, none⟩ = some (.int .i64 at_) ∧ wa.cell? ⟨w.heap.size, 3, none⟩ = some (.slice q nb cb)) → (Keeps (fun k => DFoot p mn ms mc k ∨ A.S k) w2 wb ∧ wb.cell? ⟨w.heap.size, 1, none⟩ = some (.int .i64 at_) ∧ wb.cell? ⟨w.heap.size, 3, none⟩ = some (.slice q nb cb))) := Lib.hid (fun m wa wb hk h => ⟨h.1.trans (hk.mono (fun k _ e => HPS.out m k e)), hk.cell h.2.1 (fun e => Nat.lt_irrefl _ (Hlt.out _ (HPS.out m _ e))), hk.cell h.2.2 (fun e => Nat.lt_irrefl _ (Hlt.out _ (HPS.out m _ e)))⟩)
  have hc : 0 ≤ (d.write at_ l).1 := write_code _ _ _
  have Hnl : Hid (nb ≤ 1000000000) := Lib.hid hnl
  refine wp_region_textP [9, 10, 11, 17, 23] (PS p mn ms mc A 10 17) (fun w' => Keeps (fun k => DFoot p mn ms mc k ∨ A.S k) w2 w' ∧ w'.cell? ⟨w.heap.size, 1, none⟩ = some (.int .i64 at_) ∧ w'.cell? ⟨w.heap.size, 3, none⟩ = some (.slice q nb cb)) [⟨10, fun w' => DB w0 w' p mn ms mc d n⟩, ⟨17, fun w' => RefX w' w0.heap.size A (fun k => DFoot p mn ms mc k ∨ k = g) d L⟩] 25 (by kernel_rfl) ?_ ?_ (by kernel_rfl) ⟨(Keeps.refl _ _).drew, c1b, c3b⟩ ?_ ?_
  · intro q hq; simp at hq; rcases hq with rfl | rfl <;> rfl
  · intro q hq m wa wb hm hs hk
    simp at hq
    rcases hq with rfl | rfl
    · exact DB.oth hs hk (fun k hk' h => h.elim (fun h => hm h.1) (fun h => Hds.out k hk' h.2)) (fun k h => h.elim (fun h => absurd h.1 hm) (fun h => HA0.out k h.2))
    · exact RefX.keeps hs hk (fun k h => h.elim (fun h => .inl h.2) (fun h => absurd h.1 hm)) Hgx.out
  · intro q hq; simp at hq
    rcases hq with rfl | rfl
    · exact HD2.out.below (Below.refl _ _).drew
    · exact RefX.keeps HX2.out ((Keeps.refl (fun _ => False) w2).drew) (fun _ e => e.elim) Hgx.out
  simp only [List.take_succ_cons, List.take_zero, List.drop_succ_cons, List.drop_zero]
  repeat (first | (refine text_pure (v := ?_) (by rfl) (fun w' => ?_) ?_; rotate_left; (focus ( go_simp; first | done | with_reducible rfl)); simp only [Act.put, List.setIfInBounds_toArray, List.set_cons_zero, List.set_cons_succ]) | (refine text_skip (by rfl) ?_; simp only [Act.put, List.setIfInBounds_toArray, List.set_cons_zero, List.set_cons_succ]))
  (refine text_read (v := ?_) (by rfl) (by kernel_rfl) (fun w' hB hm => ?_) ?_; rotate_left; (focus (have hcA := hB.1.2.1; (try clear hm); (try clear hB); go_simp; first | done | with_reducible rfl)); simp only [Act.put, List.setIfInBounds_toArray, List.set_cons_zero, List.set_cons_succ])
  repeat (first | (refine text_pure (v := ?_) (by rfl) (fun w' => ?_) ?_; rotate_left; (focus ( go_simp; first | done | with_reducible rfl)); simp only [Act.put, List.setIfInBounds_toArray, List.set_cons_zero, List.set_cons_succ]) | (refine text_skip (by rfl) ?_; simp only [Act.put, List.setIfInBounds_toArray, List.set_cons_zero, List.set_cons_succ]))
  have hkc : k ≤ c := by omega
  have hck : ¬ c = k := by omega
  repeat (first | (refine text_pure (v := ?_) (by rfl) (fun w' => ?_) ?_; rotate_left; (focus ( go_simp; first | done | with_reducible rfl)); simp only [Act.put, List.setIfInBounds_toArray, List.set_cons_zero, List.set_cons_succ]) | (refine text_skip (by rfl) ?_; simp only [Act.put, List.setIfInBounds_toArray, List.set_cons_zero, List.set_cons_succ]))
  refine text_new (fun b : Nat => .slice (some ⟨b, 0, none⟩) 2 2) (fun b w' => SubRow w' w2.heap.size (.slice (some ⟨b, 0, none⟩) 2 2) [.slice (some ⟨g, o, none⟩) k c, .slice (some ⟨g, o + k, none⟩) (nb - k) (c - k)]) (by rfl) (by kernel_rfl) (by kernel_rfl)
    (fun x y h => by injection h with h; injection h with h; injection h) (fun b => keepKStable fun m wa wb hm h k => h.block_keeps k (fun k' e e' => by have h3 := (h.lt k' e).1; have h4 := Hlt.out k' (HPS.out m k' e'); have h5 := Hsz.out; have h6 := Hg.out; omega)) (fun w' hB hm K hK => ?_) (fun b9 => ?_)
  · unfold gives
    go_simp
    exact hK _ _ ⟨(Keeps.refl _ _).alloc _, HBk.out _ _ ((Below.refl _ _).alloc (Nat.le_refl _) _)⟩ (sub_list (xs := [_, _]) hB.1.1.size (by unfold maxLen; simp))
  simp only [Act.put, List.setIfInBounds_toArray, List.set_cons_zero, List.set_cons_succ]
  refine text_callk (f := 45) (args := #[.pointer (some ⟨p, 0, none⟩), .int .i64 at_, .slice (some ⟨b9, 0, none⟩) 2 2]) (errV (d.write at_ l).1) (fun w' => DB w0 w' p mn ms mc (d.write at_ l).2 (n + 1)) (by rfl) (by kernel_rfl) (by kernel_rfl)
    (keepKStable fun m wa wb hm h k => DB.oth h k (fun k' hk' e => e.elim (fun e => hm e.1) (fun e => Hds.out k' hk' e.2)) (fun k' e => e.elim (fun e => absurd e.1 hm) (fun e => HA0.out k' e.2))) (fun w' => ?_) (fun w' hB hm => ?_) ?_
  · go_simp
  · have hf9 := hm.1 (by kernel_rfl)
    have hdb := hB.2 ⟨10, fun w' => DB w0 w' p mn ms mc d n⟩ (by show _ ∈ [_, _]; simp) rfl
    have hb : Bytes w' (.slice (some ⟨g, o, none⟩) l.length c) l := by rw [Hnb.out]; exact (HC.out w' hB.1.1).part Hnb.out
    have hb1 := to2 hb k (by rw [Hnb.out]; exact hkn)
    have hb2 := from2 hb k (by rw [Hnb.out]; exact hkn)
    rw [Hnb.out] at hb2
    refine (write_db hdb (by omega) at_ _ [l.take k, l.drop k] l (by simp) (parts_two hf9 hb1 hb2) (by simp) (by rw [Hnb.out]; omega)).mono fun e w'' ⟨he, h1, h2⟩ => ?_
    have hk : Keeps (PS p mn ms mc A 10 17 10) w' w'' := h2.mono (fun k _ e => .inl ⟨rfl, e⟩)
    exact ⟨he, ⟨hk, HBm.out 10 _ _ hk⟩, h1⟩
  simp only [Act.put, List.setIfInBounds_toArray, List.set_cons_zero, List.set_cons_succ]
  refine text_callk (f := 10) (args := #[errV (d.write at_ l).1]) (.int .i64 (d.write at_ l).1) (fun _ => True) (by rfl) (by kernel_rfl) (by kernel_rfl) (fun _ _ _ _ _ _ => trivial) (fun w' => ?_) (fun w' hB hm => ?_) ?_
  · go_simp
  · refine (num_any _ w' hc).mono fun e w'' ⟨he, hw⟩ => ?_
    subst hw
    exact ⟨he, ⟨Keeps.refl _ _, id⟩, trivial⟩
  simp only [Act.put, List.setIfInBounds_toArray, List.set_cons_zero, List.set_cons_succ]
  repeat (first | (refine text_pure (v := ?_) (by rfl) (fun w' => ?_) ?_; rotate_left; (focus ( go_simp; first | done | with_reducible rfl)); simp only [Act.put, List.setIfInBounds_toArray, List.set_cons_zero, List.set_cons_succ]) | (refine text_skip (by rfl) ?_; simp only [Act.put, List.setIfInBounds_toArray, List.set_cons_zero, List.set_cons_succ]))
  (refine text_read (v := ?_) (by rfl) (by kernel_rfl) (fun w' hB hm => ?_) ?_; rotate_left; (focus (have hcA := hB.1.2.1; (try clear hm); (try clear hB); go_simp; first | done | with_reducible rfl)); simp only [Act.put, List.setIfInBounds_toArray, List.set_cons_zero, List.set_cons_succ])
  repeat (first | (refine text_pure (v := ?_) (by rfl) (fun w' => ?_) ?_; rotate_left; (focus ( go_simp; first | done | with_reducible rfl)); simp only [Act.put, List.setIfInBounds_toArray, List.set_cons_zero, List.set_cons_succ]) | (refine text_skip (by rfl) ?_; simp only [Act.put, List.setIfInBounds_toArray, List.set_cons_zero, List.set_cons_succ]))
  (refine text_read (v := ?_) (by rfl) (by kernel_rfl) (fun w' hB hm => ?_) ?_; rotate_left; (focus (have hcA := hB.1.2.2; (try clear hm); (try clear hB); go_simp; first | done | with_reducible rfl)); simp only [Act.put, List.setIfInBounds_toArray, List.set_cons_zero, List.set_cons_succ])
  refine text_callk (f := 51) (args := #[.pointer (some ⟨A.b, 0, none⟩), .int .i64 at_, .slice q nb cb]) (.int .i64 (d.write at_ l).1) (fun w' => RefX w' w0.heap.size A (fun k => DFoot p mn ms mc k ∨ k = g) (d.write at_ l).2 (writeL d at_ l L)) (by rfl) (by kernel_rfl) (by kernel_rfl)
    (keepKStable fun m wa wb hm h k => RefX.keeps h k (fun k' e => e.elim (fun e => .inl e.2) (fun e => absurd e.1 hm)) Hgx.out) (fun w' => ?_) (fun w' hB hm => ?_) ?_
  · go_simp
  · have hrx := hB.2 ⟨17, fun w' => RefX w' w0.heap.size A (fun k => DFoot p mn ms mc k ∨ k = g) d L⟩ (by show _ ∈ [_, _]; simp) rfl
    have hbb := HO.out w' hB.1.1
    have hsz : w2.heap.size ≤ w'.heap.size := hB.1.1.size
    refine (rwrite_more hrx.ref (n := n) H1.out.dev.ok hn hL hL0 at_ hbb (fun h0 k e e' => ?_) (by rw [Hnb.out]; omega)).mono fun e w'' ⟨he, h1, h2, h3⟩ => ?_
    · have := Hlow.out h0 k e
      have := Hlo.out k (.inr e')
      omega
    have hk : Keeps (PS p mn ms mc A 10 17 17) w' w'' := h2.mono (fun k _ e => .inr ⟨rfl, e⟩)
    obtain ⟨r1, r2⟩ := h3 (fun k => A.S k ∨ (DFoot p mn ms mc k ∨ k = g)) (fun k e => .inl e) (fun k e e2 => by
      have := Hsz.out
      have := Hg.out
      have e2' : w'.heap.size ≤ k := e2
      have hw12 := B2.out.size
      rcases e with e | e | e
      · have := Hlt.out k (.inr e); omega
      · have := Hlt.out k (.inl e); omega
      · omega) hrx.now hrx.syn
    exact ⟨he, ⟨hk, HBm.out 17 _ _ hk⟩, ⟨h1, r1, r2⟩⟩
  simp only [Act.put, List.setIfInBounds_toArray, List.set_cons_zero, List.set_cons_succ]
  repeat (first | (refine text_pure (v := ?_) (by rfl) (fun w' => ?_) ?_; rotate_left; (focus ( go_simp; first | done | with_reducible rfl)); simp only [Act.put, List.setIfInBounds_toArray, List.set_cons_zero, List.set_cons_succ]) | (refine text_skip (by rfl) ?_; simp only [Act.put, List.setIfInBounds_toArray, List.set_cons_zero, List.set_cons_succ]))
  (refine text_read (v := ?_) (by rfl) (by kernel_rfl) (fun w' hB hm => ?_) ?_; rotate_left; (focus (have hcA := hB.1.2.2; (try clear hm); (try clear hB); go_simp; first | done | with_reducible rfl)); simp only [Act.put, List.setIfInBounds_toArray, List.set_cons_zero, List.set_cons_succ])
  refine text_callk (f := 52) (args := #[.slice (some ⟨g, o, none⟩) nb c, .slice q nb cb]) (.bool true) (fun _ => True) (by rfl) (by kernel_rfl) (by kernel_rfl) (fun _ _ _ _ _ _ => trivial) (fun w' => ?_) (fun w' hB hm => ?_) ?_
  · go_simp
  · refine (kept_any (HC.out w' hB.1.1) Hnb.out (HO.out w' hB.1.1) Hnl.out).mono fun e w'' ⟨he, hw⟩ => ?_
    subst hw
    exact ⟨he, ⟨Keeps.refl _ _, id⟩, trivial⟩
  simp only [Act.put, List.setIfInBounds_toArray, List.set_cons_zero, List.set_cons_succ]
  repeat (first | (refine text_pure (v := ?_) (by rfl) (fun w' => ?_) ?_; rotate_left; (focus ( go_simp; first | done | with_reducible rfl)); simp only [Act.put, List.setIfInBounds_toArray, List.set_cons_zero, List.set_cons_succ]) | (refine text_skip (by rfl) ?_; simp only [Act.put, List.setIfInBounds_toArray, List.set_cons_zero, List.set_cons_succ]))
  refine text_nil fun w8 hB hF => ?_
  have hx8 : RefX w8 w0.heap.size A (fun k => DFoot p mn ms mc k ∨ k = g) (d.write at_ l).2 (writeL d at_ l L) := hF.2.1
  have hd8 : DB w0 w8 p mn ms mc (d.write at_ l).2 (n + 1) := hF.2.2.2.1
  have hc8 := SubRow.front (HC.out w8 hB.1) Hnb.out (by omega)
  have hov := over_any w8 w1.heap.size g o nb c l Hnb.out Hnl.out hc8
  have HX8 := Lib.hid hx8
  have HD8 := Lib.hid hd8
  have HK8 : Hid (Keeps (fun k => DFoot p mn ms mc k ∨ A.S k) w w8) := Lib.hid ((Keeps.of_below Hal.out).trans ((Keeps.of_below B2.out).trans hB.1))
  clear hF hB hx8 hd8 HBk HBm H1 hc8 HC HO HX2 HD2 S2
  go_wp2
  refine Calm.normal ?_
  go_wp2_with (go_at_call 53; (with_reducible refine hov.mono ?_); rintro _ w9 ⟨rfl, l9, hl9, s9, k9⟩; clear hov; have K9 := Lib.hid k9; clear hl9 s9 k9)
  go_ret
  exact ⟨by simp, ⟨DB.oth HD8.out K9.out (fun k hk e => by have e' : k = g := e; have := Hlt.out k (.inl hk); have := Hsz.out; have := Hg.out; omega) (fun k e => by have e' : k = g := e; have := Hsz.out; have := Hg.out; have := Hw0.out; omega), (RefX.keeps HX8.out K9.out (fun k e => .inr e) Hgx.out).ref, Hds.out, HA0.out⟩,
    HK8.out.trans' K9.out (fun k hk e => by have e' : k = g := e; have := Hsz.out; have := Hg.out; omega)⟩
end
end Go.Proofs.Ytnficiohnhodiaa.Pre
