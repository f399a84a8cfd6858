import Derived.Test.YtnficiohnhodiaaRwJ
/-
  The document's slots: Save, Format.
-/
namespace Go.Proofs.Ytnficiohnhodiaa
open Go.RowKit
section
variable {w : World} {B t n : Nat} {A : RAd} {d : Dev} {L at_ number : Int} {row new : List UInt8} {dead : Bool} {F : Nat → Prop} {v : Value}
theorem rsave_any (h : RefAt w B A d L) (ho : d.Ok n) (hn : n ≤ 100000) (hL : L ≤ 9223372036854775807) (hL0 : -10000000 ≤ L) (hS : RSlotAt w t A.b F at_ number row dead) (hAF : ∀ k, A.S k → F k) (hFo : ∀ k, F k → k < w.heap.size) (h0 : 0 ≤ number) (ha0 : 0 ≤ at_) (ha1 : at_ ≤ 4096) (hv : Bytes w v new) (hvS : new ≠ [] → ∀ k, v.ownBlock = some k → ¬ F k) : Calls Try.prog 67 #[.pointer (some ⟨t, 0, none⟩), v] w (RSavePost w B A d L t F at_ (slotSave d at_ number row dead new)) := by
  by_cases hm : most62 ≤ number
  · exact rsave_high h hS hm
  · by_cases hl : 480 < new.length
    · exact rsave_long h hS h0 hm hv hl
    · cases dead with
      | true => exact rsave_dead h hS h0 hm hv (by omega)
      | false => exact rsave_live h ho hn hL hL0 hS hAF hFo h0 hm ha0 ha1 hv hvS (by omega)
def RFormatPost (w : World) (B : Nat) (A : RAd) (d : Dev) (L : Int) (F : Nat → Prop) (at_ : Int) (row : List UInt8) (x : Int × Dev) (e : Ending) (w' : World) : Prop :=
  (∃ L', L - 3 ≤ L' ∧ L' ≤ L ∧ RefAt w' B A x.2 L') ∧ Keeps A.S w w' ∧ Avoids A w w' B d x.2 (fun k => w.heap.size ≤ k) ∧
  (x.1 ≠ 0 ∧ e = .returned (.tuple #[.pointer none, .int .i64 x.1]) ∨ x.1 = 0 ∧ ∃ t, e = .returned (.tuple #[.pointer (some ⟨t, 0, none⟩), .int .i64 0]) ∧ RSlotAt w' t A.b F at_ 1 row false ∧ w.heap.size ≤ t)
set_option maxRecDepth 100000 in
theorem rformat_range (h : RefAt w B A d L) (ho : d.Ok n) (hfit : fitsB d at_ = false) : Calls Try.prog 65 #[.pointer (some ⟨A.b, 0, none⟩), .int .i64 at_, v] w (RFormatPost w B A d L F at_ row (d.slotFormat at_ row)) := by
  have hf := rfits_any h ho.z1 ho.z2 at_
  rw [hfit] at hf
  have Hx : Hid (d.slotFormat at_ row = (1, d)) := Lib.hid (by unfold Dev.slotFormat; rw [if_pos hfit])
  have H := Lib.hid h
  clear h hfit
  go_enter Try.func65, Try.ntmps65
  go_wp2_with (go_at_call 86; (with_reducible refine hf.mono ?_); rintro _ _ ⟨rfl, rfl⟩)
  go_ret2
  rw [Hx.out]
  exact ⟨⟨L, by omega, by omega, H.out⟩, Keeps.refl _ _, Avoids.refl, .inl ⟨by show (1 : Int) ≠ 0; decide, rfl⟩⟩
set_option maxRecDepth 100000 in
theorem rformat_long (h : RefAt w B A d L) (ho : d.Ok n) (hfit : fitsB d at_ = true) (hv : Bytes w v row) (hl : 480 < row.length) : Calls Try.prog 65 #[.pointer (some ⟨A.b, 0, none⟩), .int .i64 at_, v] w (RFormatPost w B A d L F at_ row (d.slotFormat at_ row)) := by
  have hf := rfits_any h ho.z1 ho.z2 at_
  rw [hfit] at hf
  have hsec := rsector_long 1 hv hl
  have Hx : Hid (d.slotFormat at_ row = (2, d)) := Lib.hid (by unfold Dev.slotFormat; rw [if_neg (by simp [hfit]), if_pos hl])
  have H := Lib.hid h
  clear h hfit hv
  go_enter Try.func65, Try.ntmps65
  go_wp2_with (first
    | (go_at_call 86; (with_reducible refine hf.mono ?_); rintro _ _ ⟨rfl, rfl⟩)
    | (go_at_call 87; (with_reducible refine hsec.mono ?_); rintro _ _ ⟨rfl, rfl⟩))
  go_ret2
  rw [Hx.out]
  exact ⟨⟨L, by omega, by omega, H.out⟩, Keeps.refl _ _, Avoids.refl, .inl ⟨by show (2 : Int) ≠ 0; decide, rfl⟩⟩
set_option maxRecDepth 100000 in
set_option maxHeartbeats 1000000 in
theorem rformat_ok (h : RefAt w B A d L) (ho : d.Ok n) (hn : n ≤ 100000) (hL : L ≤ 9223372036854775807) (hL0 : -10000000 ≤ L) (hFo : ∀ k, F k → k < w.heap.size) (hfit : fitsB d at_ = true) (hv : Bytes w v row) (hvS : row ≠ [] → ∀ k, v.ownBlock = some k → ¬ A.S k) (hl : row.length ≤ 480) : Calls Try.prog 65 #[.pointer (some ⟨A.b, 0, none⟩), .int .i64 at_, v] w (RFormatPost w B A d L F at_ row (d.slotFormat at_ row)) := by
  have hrng : 0 ≤ at_ ∧ at_ < d.size - 1 := by unfold fitsB at hfit; simpa using hfit
  have hz2 := ho.z2
  have hb0 : (0 : Int) ≤ at_ := hrng.1
  have hb1 : at_ ≤ 4096 := by omega
  have hf := rfits_any h ho.z1 ho.z2 at_
  rw [hfit] at hf
  have hsec := rsector_ok (n := 1) (by omega) (by omega) hv hl
  have hx : d.slotFormat at_ row = if (d.write at_ blank).1 ≠ 0 then d.write at_ blank
    else if ((d.write at_ blank).2.write (at_ + 1) (secOf 1 row)).1 ≠ 0 then (d.write at_ blank).2.write (at_ + 1) (secOf 1 row)
    else ((d.write at_ blank).2.write (at_ + 1) (secOf 1 row)).2.sync := by unfold Dev.slotFormat; rw [if_neg (by simp [hfit]), if_neg (by omega)]
  have hsl : (secOf 1 row).length = 512 := secOf_len hl
  obtain ⟨i0, hi, hz0, hz1, hz2'⟩ := info_parts info8
  have Hsl := Lib.hid hsl
  have Hx := Lib.hid hx
  have H := Lib.hid h
  have Hv := Lib.hid hv
  have HvS := Lib.hid hvS
  have HFo := Lib.hid hFo
  have Ho := Lib.hid ho
  obtain ⟨cs, hmk⟩ := make_512
  have hmk1 := fun w => (hmk w).1
  have Hmk := Lib.hid (fun w => (hmk w).2)
  clear h ho hv hx hrng hz2 hsl hmk hfit hvS hFo
  go_enter Try.func65, Try.ntmps65
  go_upto_region 5 with (first
    | (go_at_call 86; (with_reducible refine hf.mono ?_); rintro _ _ ⟨rfl, rfl⟩; clear hf)
    | (go_at_call 87; (with_reducible refine hsec.mono ?_); rintro _ w1 ⟨v1, rfl, s1, b1⟩; clear hsec))
  generalize secOf 1 row = sec at s1 Hsl Hx
  have H1 := Lib.hid (H.out.below b1)
  have Hv1 := Lib.hid (Hv.out.below b1)
  have Hb1 := Lib.hid b1
  have Hsec := Lib.hid s1
  clear b1 s1
  have hal : Below w1.heap.size w1 (w1.alloc (.cells cs 5)) := (Below.refl _ _).alloc (Nat.le_refl _) _
  have hw1 := rwrite_more (H1.out.below hal) Ho.out (by omega) hL (by omega) at_ (Hmk.out w1) (fun _ k e e' => by have h1 := H1.out.lt k e'; have e2 : some w1.heap.size = some k := e; injection e2 with e2; omega) (by rw [show blank.length = 512 from List.length_replicate]; omega)
  have hok1 := Ho.out.write at_ blank
  have hwb1 := writeL_b d at_ blank L
  have Hbal := Lib.hid (Hb1.out.trans (hal.mono Hb1.out.size))
  have Hv1' := Lib.hid (Hv1.out.below hal)
  have Hsec' := Lib.hid ((Bytes.of_sub Hsec.out).below hal)
  have HsecF : Hid (∀ k, v1.ownBlock = some k → ¬ A.S k) := Lib.hid (fun k e e' => absurd (H.out.lt k e') (Nat.not_lt.2 (Hsec.out.lt k e).1))
  generalize writeL d at_ blank L = L1 at hw1 hwb1
  generalize hr1 : d.write at_ blank = r1 at hw1 Hx hok1
  clear hr1 hal
  go_upto_region 6 with (go_at_call 51; (with_reducible refine hw1.mono ?_); rintro _ w2 ⟨rfl, h2, k2, a2⟩; clear hw1)
  have H2 := Lib.hid h2
  have Hv2 := Lib.hid (Hv1'.out.keeps_ne k2 HvS.out)
  have Hsec2 := Lib.hid (Hsec'.out.keeps_ne k2 (fun _ => HsecF.out))
  have HK2 : Hid (Keeps A.S w w2) := Lib.hid ((Keeps.of_below Hbal.out).trans k2)
  have HA2 : Hid (Avoids A w w2 B d r1.2 (fun k => w.heap.size ≤ k)) := Lib.hid ((Avoids.refl.below Hbal.out).trans (a2.less (fun k hk => Nat.le_trans Hbal.out.size hk)))
  clear h2 k2 a2 Hbal Hv1' Hsec' Hsec Hv1 Hv Hb1 H H1 hmk1
  by_cases he1 : r1.1 = 0
  · have Hx2 : Hid (d.slotFormat at_ row = if (r1.2.write (at_ + 1) sec).1 ≠ 0 then r1.2.write (at_ + 1) sec else (r1.2.write (at_ + 1) sec).2.sync) := Lib.hid (by rw [Hx.out, if_neg (by simp [he1])])
    have hw2 := rwrite_more H2.out hok1 (by omega) (by omega) (by omega) (at_ + 1) Hsec2.out (fun _ => HsecF.out) (by rw [Hsl.out]; omega)
    have hok2 := hok1.write (at_ + 1) sec
    have hwb2 := writeL_b r1.2 (at_ + 1) sec L1
    rw [he1]
    generalize writeL r1.2 (at_ + 1) sec L1 = L2 at hw2 hwb2
    generalize hr2 : r1.2.write (at_ + 1) sec = r2 at hw2 Hx2 hok2
    clear hr2 he1 Hx
    go_upto_region 8 with (go_at_call 51; (with_reducible refine hw2.mono ?_); rintro _ w3 ⟨rfl, h3, k3, a3⟩; clear hw2)
    have H3 := Lib.hid h3
    have Hv3 := Lib.hid (Hv2.out.keeps_ne k3 HvS.out)
    have HK3 := Lib.hid (HK2.out.trans k3)
    have HA3 := Lib.hid (HA2.out.trans (a3.less (fun k hk => Nat.le_trans HK2.out.size hk)))
    clear h3 k3 a3 H2 Hv2 HK2 HA2 Hsec2
    by_cases he2 : r2.1 = 0
    · have Hx3 : Hid (d.slotFormat at_ row = r2.2.sync) := Lib.hid (by rw [Hx2.out, if_neg (by simp [he2])])
      have hsy := rsync_more H3.out hok2 (by omega) (by omega) (by omega)
      have hwb3 := stepL_b r2.2 L2
      rw [he2]
      generalize stepL r2.2 L2 = L3 at hsy hwb3
      generalize hr3 : r2.2.sync = r3 at hsy Hx3
      clear hr3 he2 Hx2
      go_upto_region 10 with (go_at_call 55; (with_reducible refine hsy.mono ?_); rintro _ w4 ⟨rfl, h4, k4, a4⟩; clear hsy)
      have H4 := Lib.hid h4
      have Hv4 := Lib.hid (Hv3.out.keeps_ne k4 HvS.out)
      have HK4 := Lib.hid (HK3.out.trans k4)
      have HA4 := Lib.hid (HA3.out.trans (a4.less (fun k hk => Nat.le_trans HK3.out.size hk)))
      clear h4 k4 a4 H3 Hv3 HK3 HA3
      by_cases he3 : r3.1 = 0
      · have He3 := Lib.hid he3
        rw [he3]
        clear he3
        have hs4 := HK4.out.size
        have hO : SubRow (w4.alloc (.cells #[] 5)) w.heap.size (.slice (some ⟨w4.heap.size, 0, none⟩) 0 0) (bytesV []) := sub_new [] hs4 (by unfold maxLen; simp)
        have hm1 : (bytesV ([] : List UInt8)).length + (bytesV row).length ≤ maxLen := by rw [bytesV_len, bytesV_len]; unfold maxLen; simp only [List.length_nil]; omega
        have hm2 : ((bytesV ([] : List UInt8)).length + (bytesV row).length) * 1 ≤ 140737488355328 := by rw [bytesV_len, bytesV_len]; simp only [List.length_nil]; omega
        have hm3 : w.heap.size ≤ (w4.alloc (.cells #[] 5)).heap.size := by simp; omega
        have Hm := Lib.hid (And.intro hm1 (And.intro hm2 hm3))
        have HO := Lib.hid hO
        have HSrc : Hid (Src Try.prog 1 52 v (bytesV row).length (bytesV row) (w4.alloc (.cells #[] 5))) := Lib.hid (Hv4.out.below ((Below.refl w4.heap.size w4).alloc (Nat.le_refl _) (.cells #[] 5))).src
        clear hm1 hm2 hm3 hO
        go_wp2_with (at_builtin; refine wpList_append_sub _ rfl _ _ 52 rfl 5 i0 (.int .u8 0) 1 Try.underlying52 hi hz0 hz1 hz2' rfl w.heap.size _ (bytesV []) rfl HO.out _ rfl (bytesV row) HSrc.out Hm.out.1 Hm.out.2.1 Hm.out.2.2 ?_; intro v9 w9 h9 hk9 hn9; (have HB9 : Hid (Below w4.heap.size w4 w9) := Lib.hid (((Below.refl w4.heap.size w4).alloc (Nat.le_refl _) _).trans (hk9.below (by simp) (fun j hj e => by have e2 : some w4.heap.size = some j := e; injection e2 with e2; omega)))); (have h9' : SubRow w9 w.heap.size v9 (bytesV row) := h9); (obtain ⟨q9, cp9, ev9, _, _⟩ := h9'.form); rw [bytesV_len] at ev9; subst ev9; have HS9 := Lib.hid h9'; clear h9 h9' hk9 hn9)
        go_ret2
        rw [Hx3.out]
        have hal9 : Below w9.heap.size w9 (w9.alloc (.cells #[.pointer (some ⟨A.b, 0, none⟩), .int .i64 at_, .int .i64 1, .slice q9 row.length cp9, .bool false] 130)) := (Below.refl _ _).alloc (Nat.le_refl _) _
        have hs9 : w.heap.size ≤ w9.heap.size := Nat.le_trans hs4 HB9.out.size
        exact ⟨⟨L3, by omega, by omega, (H4.out.below HB9.out).below hal9⟩, (HK4.out.trans (Keeps.of_below HB9.out)).trans (Keeps.of_below hal9), (HA4.out.below HB9.out).below hal9, .inr ⟨He3.out, w9.heap.size, rfl, ⟨q9, cp9, heap_alloc_new _ _, (Bytes.of_sub HS9.out).below hal9, fun _ k e e' => absurd (HFo.out k e') (Nat.not_lt.2 (HS9.out.lt k e).1), fun e' => absurd (HFo.out _ e') (Nat.not_lt.2 hs9)⟩, hs9⟩⟩
      · have He3 := Lib.hid he3
        have hb : (r3.1 != 0) = true := by simpa using he3
        clear he3
        go_wp2
        go_ret2
        rw [Hx3.out]
        exact ⟨⟨L3, by omega, by omega, H4.out⟩, HK4.out, HA4.out, .inl ⟨He3.out, rfl⟩⟩
    · have He2 := Lib.hid he2
      have Hx3 : Hid (d.slotFormat at_ row = r2) := Lib.hid (by rw [Hx2.out, if_pos he2])
      have hb : (r2.1 == 0) = false := by simpa using he2
      have hb2 : (r2.1 != 0) = true := by simpa using he2
      clear he2 Hx2
      go_wp2
      go_ret2
      rw [Hx3.out]
      exact ⟨⟨L2, by omega, by omega, H3.out⟩, HK3.out, HA3.out, .inl ⟨He2.out, rfl⟩⟩
  · have He1 := Lib.hid he1
    have Hx2 : Hid (d.slotFormat at_ row = r1) := Lib.hid (by rw [Hx.out, if_pos he1])
    have hb : (r1.1 == 0) = false := by simpa using he1
    have hb2 : (r1.1 != 0) = true := by simpa using he1
    clear he1 Hx
    go_wp2
    go_ret2
    rw [Hx2.out]
    exact ⟨⟨L1, by omega, by omega, H2.out⟩, HK2.out, HA2.out, .inl ⟨He1.out, rfl⟩⟩
end
end Go.Proofs.Ytnficiohnhodiaa
