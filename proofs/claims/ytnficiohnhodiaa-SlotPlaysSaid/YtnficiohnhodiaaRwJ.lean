import Derived.Test.YtnficiohnhodiaaRwI
/-
  The document's slots: Save of slots that are not dead.
-/
namespace Go.Proofs.Ytnficiohnhodiaa
open Go.RowKit
theorem RowsAt.other {S G : Nat → Prop} {w w' : World} {B : Nat} {v : Value} {f : Int → List UInt8} {size : Nat} (h : RowsAt w B v G f size) (hk : Keeps S w w') (h1 : ∀ k, v.ownBlock = some k → ¬ S k) (hn : ∀ a x, w.cell? a = some (byteV x) → ¬ S a.block) : RowsAt w' B v G f size := by
  obtain ⟨rows, hl, hs, hr⟩ := h
  exact ⟨rows, hl, hs.block_keeps hk h1, fun i x hx => ⟨(hr i x hx).1, (hr i x hx).2.1.kept hk hn, (hr i x hx).2.2⟩⟩
/-- what changes none of its blocks, and no byte, keeps the device -/
theorem RefAt.other {S : Nat → Prop} {w w' : World} {B : Nat} {A : RAd} {d : Dev} {L : Int} (h : RefAt w B A d L) (hk : Keeps S w w') (ht : ∀ k, A.S k → ¬ S k) (hn : ∀ a x, w.cell? a = some (byteV x) → ¬ S a.block) : RefAt w' B A d L :=
  ⟨hk.at h.self (ht _ (.inl rfl)), h.now.other hk (fun k e => ht k (.inr (.inl e))) hn, h.synced.other hk (fun k e => ht k (.inr (.inr (.inl e)))) hn, h.chg.block_keeps hk (fun k e => ht k (.inr (.inr (.inr e)))), h.low, h.ap1, h.ap2, h.ap3, h.left, h.l0⟩
theorem Avoids.other {S : Nat → Prop} {w w' w'' : World} {B : Nat} {A : RAd} {d d' : Dev} {N : Nat → Prop} (h : Avoids A w w' B d d' N) (hk : Keeps S w' w'') (ht : ∀ k, A.S k → ¬ S k) (hn : ∀ a x, w'.cell? a = some (byteV x) → ¬ S a.block) : Avoids A w w'' B d d' N := fun F hF hN h1 h2 => by
  obtain ⟨a, b⟩ := h F hF hN h1 h2
  exact ⟨a.other hk (fun k e => ht k (.inr (.inl e))) hn, b.other hk (fun k e => ht k (.inr (.inr (.inl e)))) hn⟩
theorem other_t {A : RAd} {t : Nat} (h : ¬ A.S t) : ∀ k, A.S k → ¬ k = t := fun k e e' => h (e' ▸ e)
theorem writeL_b (d : Dev) (k : Int) (l : List UInt8) (L : Int) : L - 1 ≤ writeL d k l L ∧ writeL d k l L ≤ L := by unfold writeL; split <;> omega
theorem stepL_b (d : Dev) (L : Int) : L - 1 ≤ stepL d L ∧ stepL d L ≤ L := by unfold stepL; split <;> omega
set_option maxRecDepth 100000 in
set_option maxHeartbeats 1000000 in
theorem rsave_live {w : World} {B t n : Nat} {A : RAd} {d : Dev} {L at_ number : Int} {row new : List UInt8} {F : Nat → Prop} {v : Value} (h : RefAt w B A d L) (ho : d.Ok n) (hn : n ≤ 100000) (hL : L ≤ 9223372036854775807) (hL0 : -10000000 ≤ L) (hS : RSlotAt w t A.b F at_ number row false) (hAF : ∀ k, A.S k → F k) (hFo : ∀ k, F k → k < w.heap.size) (h0 : 0 ≤ number) (hm : ¬ most62 ≤ number) (ha0 : 0 ≤ at_) (ha1 : at_ ≤ 4096) (hv : Bytes w v new) (hvS : new ≠ [] → ∀ k, v.ownBlock = some k → ¬ F k) (hl : new.length ≤ 480) : Calls Try.prog 67 #[.pointer (some ⟨t, 0, none⟩), v] w (RSavePost w B A d L t F at_ (slotSave d at_ number row false new)) := by
  have hx : slotSave d at_ number row false new = if (d.write (at_ + (number + 1) % 2) (secOf (number + 1) new)).1 ≠ 0 then ⟨(d.write (at_ + (number + 1) % 2) (secOf (number + 1) new)).1, (d.write (at_ + (number + 1) % 2) (secOf (number + 1) new)).2, number, row, true⟩
    else if (d.write (at_ + (number + 1) % 2) (secOf (number + 1) new)).2.sync.1 ≠ 0 then ⟨(d.write (at_ + (number + 1) % 2) (secOf (number + 1) new)).2.sync.1, (d.write (at_ + (number + 1) % 2) (secOf (number + 1) new)).2.sync.2, number, row, true⟩
    else ⟨0, (d.write (at_ + (number + 1) % 2) (secOf (number + 1) new)).2.sync.2, number + 1, new, false⟩ := by unfold slotSave; rw [if_neg hm, if_neg (by omega), if_neg (by decide)]
  have Hx := Lib.hid hx
  unfold most62 at hm
  have hsl : (secOf (number + 1) new).length = 512 := secOf_len hl
  have hsec := rsector_ok (n := number + 1) (by omega) (by omega) hv hl
  obtain ⟨i0, hi, hz0, hz1, hz2⟩ := info_parts info8
  have HS := Lib.hid hS
  have H := Lib.hid h
  have Hv := Lib.hid hv
  have HvS := Lib.hid hvS
  have HAF := Lib.hid hAF
  have HFo := Lib.hid hFo
  have Ho := Lib.hid ho
  obtain ⟨_, _, c2⟩ := hS.cells3
  have hnn : (0 : Int) ≤ (number + 1) % 2 := by omega
  have hnn2 : (number + 1) % 2 ≤ 1 := by omega
  have hnb : number < 4611686018427387904 := by omega
  clear hS h hv hx hm hvS hAF hFo ho
  go_enter Try.func67, Try.ntmps67
  go_upto_region 6 with (go_at_call 87; (with_reducible refine hsec.mono ?_); rintro _ w1 ⟨v1, rfl, s1, b1⟩)
  generalize secOf (number + 1) new = sec at s1 hsl Hx
  have HS1 := Lib.hid (HS.out.below b1)
  have H1 := Lib.hid (H.out.below b1)
  have Hv1 := Lib.hid (Hv.out.below b1)
  have Hb1 := Lib.hid b1
  have Hsec := Lib.hid s1
  obtain ⟨q1, c1, h1, _⟩ := HS1.out
  have c4 := cell_in (o := 4) h1 rfl
  clear h1 s1 c2 b1 hsec
  go_upto_region 8 with fail
  clear c4
  have hdr : Below w1.heap.size w1 w1.drew := (Below.refl _ _).drew
  have hw := rwrite_more (H1.out.below hdr) Ho.out (by omega) hL (by omega) (at_ + (number + 1) % 2) ((Bytes.of_sub Hsec.out).below hdr) (fun _ k e e' => absurd (H.out.lt k e') (Nat.not_lt.2 (Hsec.out.lt k e).1)) (by rw [hsl]; omega)
  have hok := Ho.out.write (at_ + (number + 1) % 2) sec
  have hwb := writeL_b d (at_ + (number + 1) % 2) sec L
  obtain ⟨k0, k1, k2⟩ := (HS1.out.below hdr).cells3
  have HS2 := Lib.hid (HS1.out.below hdr)
  have Hv2 := Lib.hid (Hv1.out.below hdr)
  have Hb2 := Lib.hid (Hb1.out.trans (hdr.mono Hb1.out.size))
  generalize writeL d (at_ + (number + 1) % 2) sec L = L1 at hw hwb
  generalize d.write (at_ + (number + 1) % 2) sec = r at hw Hx hok
  have e1 : IntKind.i64.wrap (number + 1) = number + 1 := by rw [IntKind.wrap_i64]; omega
  have e2 : (number + 1).tmod 2 = (number + 1) % 2 := Int.tmod_eq_emod_of_nonneg (by omega)
  have e3 : IntKind.i64.wrap (at_ + (number + 1) % 2) = at_ + (number + 1) % 2 := by rw [IntKind.wrap_i64]; omega
  clear hdr
  go_region_held3 (fun w' => w'.cell? ⟨t, 0, none⟩ = some (.pointer (some ⟨A.b, 0, none⟩)) ∧ w'.cell? ⟨t, 1, none⟩ = some (.int .i64 at_) ∧ w'.cell? ⟨t, 2, none⟩ = some (.int .i64 number))
    (first | exact ⟨k0, k1, k2⟩ | exact HS2.out.cells3 | exact HS3.out.cells3)
    (first | (go_at_call 51; (with_reducible refine hw.mono ?_); rintro _ w3 ⟨rfl, h3, k3, a3⟩; have HS3 := Lib.hid (HS2.out.keeps k3 HAF.out); have H3 := Lib.hid h3; have Hv3 := Lib.hid (Hv2.out.keeps_ne k3 (fun e k e' e'' => HvS.out e k e' (HAF.out k e''))); have Hk3 := Lib.hid k3; have Ha3 := Lib.hid a3; clear h3 k3 a3))
  have HK3 : Hid (Keeps A.S w w3) := Lib.hid ((Keeps.of_below (S := A.S) Hb2.out).trans Hk3.out)
  have HA3 : Hid (Avoids A w w3 B d r.2 (fun k => w.heap.size ≤ k)) := Lib.hid ((Avoids.refl.below Hb2.out).trans (Ha3.out.less (fun k hk => Nat.le_trans Hb2.out.size hk)))
  clear e1 e2 e3 hw Hk3 Ha3 Hb2 HS2 Hv2 k0 k1 k2
  by_cases hr : r.1 = 0
  · have hx2 : slotSave d at_ number row false new = if r.2.sync.1 ≠ 0 then ⟨r.2.sync.1, r.2.sync.2, number, row, true⟩ else ⟨0, r.2.sync.2, number + 1, new, false⟩ := by rw [Hx.out, if_neg (by simp [hr])]
    have Hx2 := Lib.hid hx2
    have hsy := rsync_more H3.out hok (by omega) (by omega) (by omega)
    have hsb := stepL_b r.2 L1
    have k0 := HS3.out.cells3.1
    rw [hr]
    clear Hx hx2 hr
    generalize stepL r.2 L1 = L2 at hsy hsb
    go_upto_region 11 with (go_at_call 55; (with_reducible refine hsy.mono ?_); rintro _ w4 ⟨rfl, h4, k4, a4⟩; clear hsy)
    clear k0
    have HS4 := Lib.hid (HS3.out.keeps k4 HAF.out)
    have H4 := Lib.hid h4
    have Hv4 := Lib.hid (Hv3.out.keeps_ne k4 (fun e k e' e'' => HvS.out e k e' (HAF.out k e'')))
    have HK4 := Lib.hid (HK3.out.trans k4)
    have HA4 := Lib.hid (HA3.out.trans (a4.less (fun k hk => Nat.le_trans HK3.out.size hk)))
    clear h4 k4 a4 HS3 H3 Hv3 HK3 HA3
    obtain ⟨q4, cc4, h4, hrow, hrF, htF⟩ := HS4.out
    have Hh4 := Lib.hid h4
    have Hrow := Lib.hid (And.intro hrow (And.intro hrF htF))
    have hAt : Hid (¬ A.S t) := Lib.hid (fun e => htF (HAF.out t e))
    clear hrow hrF htF
    generalize r.2.sync = r2 at H4 HA4 Hx2 ⊢
    by_cases hr2 : r2.1 = 0
    · have Hx3 : Hid (slotSave d at_ number row false new = ⟨0, r2.2, number + 1, new, false⟩) := Lib.hid (by rw [Hx2.out, if_neg (by simp [hr2])])
      have c2 := cell_in (o := 2) h4 rfl
      have f2 := free_in (o := 2) h4
      rw [hr2]
      clear hr2 h4 Hx2
      go_upto_region 15 with fail
      have kp5 : Keeps (· = t) w4 (w4.setCell ⟨t, 2, none⟩ (.int .i64 (number + 1))) := Keeps.cellAt (S := (· = t)) rfl _
      have hnb4 : ∀ a x, w4.cell? a = some (byteV x) → ¬ a.block = t := fun a x hc => HS4.out.no_byte hc
      have Hh5 : Hid ((w4.setCell ⟨t, 2, none⟩ (.int .i64 (number + 1))).heap[t]? = some (.cells #[.pointer (some ⟨A.b, 0, none⟩), .int .i64 at_, .int .i64 (number + 1), .slice q4 row.length cc4, .bool false] 130 (0, 0))) := Lib.hid (by rw [heap_setCell _ _ _ _ _ _ _ Hh4.out]; rfl)
      have Hv5 := Lib.hid (Hv4.out.kept kp5 hnb4)
      have H5 := Lib.hid (H4.out.other kp5 (other_t hAt.out) hnb4)
      have HA5 := Lib.hid (HA4.out.other kp5 (other_t hAt.out) hnb4)
      have HK5 : Hid (Keeps (fun k => A.S k ∨ k = t) w (w4.setCell ⟨t, 2, none⟩ (.int .i64 (number + 1)))) := Lib.hid ((HK4.out.mono (fun _ _ e => .inl e)).trans (kp5.mono (fun _ _ e => .inr e)))
      clear kp5 hnb4 c2 f2 Hh4 HS4 H4 Hv4 HK4 HA4
      generalize w4.setCell ⟨t, 2, none⟩ (.int .i64 (number + 1)) = w5 at Hh5 Hv5 H5 HA5 HK5 ⊢
      have hs5 := HK5.out.size
      have hO : SubRow (w5.alloc (.cells #[] 5)) w.heap.size (.slice (some ⟨w5.heap.size, 0, none⟩) 0 0) (bytesV []) := sub_new [] hs5 (by unfold maxLen; simp)
      have hm1 : (bytesV ([] : List UInt8)).length + (bytesV new).length ≤ maxLen := by rw [bytesV_len, bytesV_len]; unfold maxLen; simp only [List.length_nil]; omega
      have hm2 : ((bytesV ([] : List UInt8)).length + (bytesV new).length) * 1 ≤ 140737488355328 := by rw [bytesV_len, bytesV_len]; simp only [List.length_nil]; omega
      have hm3 : w.heap.size ≤ (w5.alloc (.cells #[] 5)).heap.size := by simp; omega
      have Hm := Lib.hid (And.intro hm1 (And.intro hm2 hm3))
      have HO := Lib.hid hO
      have HSrc : Hid (Src Try.prog 1 52 v (bytesV new).length (bytesV new) (w5.alloc (.cells #[] 5))) := Lib.hid (Hv5.out.below ((Below.refl w5.heap.size w5).alloc (Nat.le_refl _) (.cells #[] 5))).src
      clear hm1 hm2 hm3 hO
      go_wp2_with (at_builtin; refine wpList_append_sub _ rfl _ _ 52 rfl 5 i0 (.int .u8 0) 1 Try.underlying52 hi hz0 hz1 hz2 rfl w.heap.size _ (bytesV []) rfl HO.out _ rfl (bytesV new) HSrc.out Hm.out.1 Hm.out.2.1 Hm.out.2.2 ?_; intro v9 w9 h9 hk9 hn9; (have HB9 : Hid (Below w5.heap.size w5 w9) := Lib.hid (((Below.refl w5.heap.size w5).alloc (Nat.le_refl _) _).trans (hk9.below (by simp) (fun j hj e => by have e2 : some w5.heap.size = some j := e; injection e2 with e2; omega)))); (have Hh9 : Hid (w9.heap[t]? = some (.cells #[.pointer (some ⟨A.b, 0, none⟩), .int .i64 at_, .int .i64 (number + 1), .slice q4 row.length cc4, .bool false] 130 (0, 0))) := Lib.hid ((Keeps.of_below (S := fun _ => False) HB9.out).at Hh5.out (fun e => e))); (have c9 := cell_in (o := 3) Hh9.out rfl); (have f9 := free_in (o := 3) Hh9.out); (have h9' : SubRow w9 w.heap.size v9 (bytesV new) := h9); (obtain ⟨q9, cp9, ev9, _, _⟩ := h9'.form); rw [bytesV_len] at ev9; subst ev9; have HS9 := Lib.hid h9'; clear h9 h9' hk9 hn9)
      go_wp2
      go_ret
      rw [Hx3.out]
      have kp : Keeps (· = t) w9 (w9.setCell ⟨t, 3, none⟩ (.slice q9 new.length cp9)) := Keeps.cellAt (S := (· = t)) rfl _
      have hnb9 : ∀ a x, w9.cell? a = some (byteV x) → ¬ a.block = t := fun a x hc e => cells_byte hc (e ▸ Hh9.out) (by simp)
      exact ⟨rfl, ⟨L2, by omega, by omega, (H5.out.below HB9.out).other kp (other_t hAt.out) hnb9⟩, ⟨q9, cp9, by rw [heap_setCell _ _ _ _ _ _ _ Hh9.out]; rfl, (Bytes.of_sub HS9.out).kept kp hnb9, fun _ k e e' => absurd (HFo.out k e') (Nat.not_lt.2 (HS9.out.lt k e).1), Hrow.out.2.2⟩, (HK5.out.trans (Keeps.of_below HB9.out)).trans (kp.mono (fun _ _ e => .inr e)), (HA5.out.below HB9.out).other kp (other_t hAt.out) hnb9⟩
    · have Hx3 : Hid (slotSave d at_ number row false new = ⟨r2.1, r2.2, number, row, true⟩) := Lib.hid (by rw [Hx2.out, if_pos hr2])
      have c4 := cell_in (o := 4) h4 rfl
      have f4 := free_in (o := 4) h4
      have hb : (r2.1 != 0) = true := by simpa using hr2
      clear h4 hr2 Hx2
      go_wp2
      go_ret
      rw [Hx3.out]
      have kp : Keeps (· = t) w4 (w4.setCell ⟨t, 4, none⟩ (.bool true)) := Keeps.cellAt (S := (· = t)) rfl _
      have hnb4 : ∀ a x, w4.cell? a = some (byteV x) → ¬ a.block = t := fun a x hc => HS4.out.no_byte hc
      exact ⟨rfl, ⟨L2, by omega, by omega, H4.out.other kp (other_t hAt.out) hnb4⟩, ⟨q4, cc4, by rw [heap_setCell _ _ _ _ _ _ _ Hh4.out]; rfl, Hrow.out.1.kept kp hnb4, Hrow.out.2.1, Hrow.out.2.2⟩, (HK4.out.mono (fun _ _ e => .inl e)).trans (kp.mono (fun _ _ e => .inr e)), HA4.out.other kp (other_t hAt.out) hnb4⟩
  · have Hx2 : Hid (slotSave d at_ number row false new = ⟨r.1, r.2, number, row, true⟩) := Lib.hid (by rw [Hx.out, if_pos hr])
    obtain ⟨q3, cc3, h3, hrow⟩ := HS3.out
    have Hrow := Lib.hid hrow
    have Hh3 := Lib.hid h3
    have c4 := cell_in (o := 4) h3 rfl
    have f4 := free_in (o := 4) h3
    have hb : (r.1 == 0) = false := by simpa using hr
    have hb2 : (r.1 != 0) = true := by simpa using hr
    clear hr h3 hrow Hx
    go_wp2
    go_ret
    rw [Hx2.out]
    have kp : Keeps (· = t) w3 (w3.setCell ⟨t, 4, none⟩ (.bool true)) := Keeps.cellAt (S := (· = t)) rfl _
    have hnb3 : ∀ a x, w3.cell? a = some (byteV x) → ¬ a.block = t := fun a x hc => HS3.out.no_byte hc
    have hAt : ¬ A.S t := fun e => Hrow.out.2.2 (HAF.out t e)
    exact ⟨rfl, ⟨L1, by omega, by omega, H3.out.other kp (other_t hAt) hnb3⟩, ⟨q3, cc3, by rw [heap_setCell _ _ _ _ _ _ _ Hh3.out]; rfl, Hrow.out.1.kept kp hnb3, Hrow.out.2.1, Hrow.out.2.2⟩, (HK3.out.mono (fun _ _ e => .inl e)).trans (kp.mono (fun _ _ e => .inr e)), HA3.out.other kp (other_t hAt) hnb3⟩
end Go.Proofs.Ytnficiohnhodiaa
