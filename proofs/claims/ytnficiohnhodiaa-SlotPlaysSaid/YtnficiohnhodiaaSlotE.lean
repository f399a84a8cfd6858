import Derived.Test.YtnficiohnhodiaaSlotD
import Derived.Deep.RegionHeld3
/-
  Slots: Save of slots that are not dead.
-/
namespace Go.Proofs.Ytnficiohnhodiaa
open Go.RowKit
def Cells3 (s p : Nat) (at_ number : Int) (w' : World) : Prop := w'.cell? ⟨s, 0, none⟩ = some (.pointer (some ⟨p, 0, none⟩)) ∧ w'.cell? ⟨s, 1, none⟩ = some (.int .i64 at_) ∧ w'.cell? ⟨s, 2, none⟩ = some (.int .i64 number)
theorem SlotAt.cells3 {w : World} {s p : Nat} {at_ number : Int} {row : List UInt8} {dead : Bool} (h : SlotAt w s p at_ number row dead) : Cells3 s p at_ number w := by
  obtain ⟨q, c, h1, _⟩ := h
  exact ⟨cell_in h1 rfl, cell_in h1 rfl, cell_in h1 rfl⟩
theorem SlotOff.set4 {w : World} {F : Nat → Prop} {s : Nat} (h : SlotOff w F s) (v : Value) : SlotOff (w.setCell ⟨s, 4, none⟩ v) F s := by
  obtain ⟨q, n, c, h1, h2⟩ := h
  exact ⟨q, n, c, by rw [World.cell?_setCell_other _ _ _ _ (by simp)]; exact h1, h2⟩
theorem SlotAt.dev {w w' : World} {s p mn ms mc : Nat} {at_ number : Int} {row : List UInt8} {dead : Bool} {d : Dev} (h : SlotAt w s p at_ number row dead) (hd : DevAt w p mn ms mc d) (hk : Keeps (DFoot p mn ms mc) w w') : SlotAt w' s p at_ number row dead :=
  h.keeps hk (h.not_dev hd) (fun _ _ hc => hd.no_byte hc)
set_option maxRecDepth 100000 in
set_option maxHeartbeats 1000000 in
theorem save_live {w0 w : World} {p mn ms mc s n : Nat} {d : Dev} {at_ number : Int} {row new : List UInt8} {v : Value} (hD : DB w0 w p mn ms mc d n) (hn : n ≤ 100000000) (hS : SlotAt w s p at_ number row false) (hs0 : w0.heap.size ≤ s) (hv : Bytes w v new) (ha0 : 0 ≤ at_) (ha1 : at_ ≤ 4096) (h0 : 0 ≤ number) (h : ¬ most62 ≤ number) (hl : new.length ≤ 480) :
    Calls Try.prog 61 #[.pointer (some ⟨s, 0, none⟩), v] w (SavePost w0 w p mn ms mc s at_ (n + 2) (slotSave d at_ number row false new)) := by
  have hx : slotSave d at_ number row false new = if (d.write (at_ + (number + 1) % 2) (secOf (number + 1) new)).1 ≠ 0 then ⟨(d.write (at_ + (number + 1) % 2) (secOf (number + 1) new)).1, (d.write (at_ + (number + 1) % 2) (secOf (number + 1) new)).2, number, row, true⟩
    else if (d.write (at_ + (number + 1) % 2) (secOf (number + 1) new)).2.sync.1 ≠ 0 then ⟨(d.write (at_ + (number + 1) % 2) (secOf (number + 1) new)).2.sync.1, (d.write (at_ + (number + 1) % 2) (secOf (number + 1) new)).2.sync.2, number, row, true⟩
    else ⟨0, (d.write (at_ + (number + 1) % 2) (secOf (number + 1) new)).2.sync.2, number + 1, new, false⟩ := by unfold slotSave; rw [if_neg h, if_neg (by omega), if_neg (by decide)]
  unfold most62 at h
  have hsl : (secOf (number + 1) new).length = 512 := secOf_len hl
  have hsec := sector_ok (n := number + 1) (by unfold int64; omega) hv hl
  have HS := Lib.hid hS
  have HD := Lib.hid hD
  have Hv := Lib.hid hv
  have Hx := Lib.hid hx
  obtain ⟨q, c, h1, _⟩ := hS
  have c2 := cell_in (o := 2) h1 rfl
  have hnn : (0 : Int) ≤ (number + 1) % 2 := by omega
  have hnn2 : (number + 1) % 2 ≤ 1 := by omega
  have hnb : number < 4611686018427387904 := by omega
  clear h1 hD hv hx h
  go_enter Try.func61, Try.ntmps61
  go_upto_region 8 with (go_at_call 84; (with_reducible refine hsec.mono ?_); rintro _ w1 ⟨g, rfl, hg, hb1, b1⟩)
  generalize secOf (number + 1) new = sec at hb1 hsl Hx
  have HS1 := Lib.hid (HS.out.below b1)
  have HD1 := Lib.hid (HD.out.below b1)
  have Hv1 := Lib.hid (Hv.out.below b1)
  have Hb1 := Lib.hid b1
  have Hsec := Lib.hid hb1
  obtain ⟨q1, c1, h1, _⟩ := HS1.out
  have c4 := cell_in (o := 4) h1 rfl
  clear h1 hb1 hg c2 b1 hsec
  go_upto_region 10 with fail
  clear c4
  have Hal : Hid (∀ W, Below W.heap.size W (W.alloc (.cells #[.slice (some ⟨g, 0, none⟩) 512 512] 52)).drew) := Lib.hid (fun W => ((Below.refl _ _).alloc (Nat.le_refl _) _).drew)
  have hw := write_db (HD1.out.below (Hal.out w1)) (by omega) (at_ + (number + 1) % 2) _ [sec] sec (by simp) ((one_part Hsec.out 52).below ((Below.refl _ _).drew)) (by simp) (by rw [hsl]; omega)
  obtain ⟨k0, k1, k2⟩ := (HS1.out.below ((Below.refl _ _).drew)).cells3
  have HS2 := Lib.hid (HS1.out.below (Hal.out w1))
  have HD2 := Lib.hid (HD1.out.below (Hal.out w1))
  have Hv2 := Lib.hid (Hv1.out.below (Hal.out w1))
  have Hb2 := Lib.hid (Hb1.out.trans ((Hal.out w1).mono Hb1.out.size))
  generalize d.write (at_ + (number + 1) % 2) sec = r at hw Hx
  have e1 : IntKind.i64.wrap (number + 1) = number + 1 := by rw [IntKind.wrap_i64]; omega
  have e2 : (number + 1).tmod 2 = (number + 1) % 2 := Int.tmod_eq_emod_of_nonneg (by omega)
  have e3 : IntKind.i64.wrap (at_ + (number + 1) % 2) = at_ + (number + 1) % 2 := by rw [IntKind.wrap_i64]; omega
  go_region_held3 (fun w' => w'.cell? ⟨s, 0, none⟩ = some (.pointer (some ⟨p, 0, none⟩)) ∧ w'.cell? ⟨s, 1, none⟩ = some (.int .i64 at_) ∧ w'.cell? ⟨s, 2, none⟩ = some (.int .i64 number))
    (first | exact ⟨k0, k1, k2⟩ | exact HS2.out.cells3 | exact HS3.out.cells3)
    (first | (go_at_call 45; (with_reducible refine hw.mono ?_); rintro _ w3 ⟨rfl, h3, k3⟩; have HS3 := Lib.hid (HS2.out.dev HD2.out.lay k3); have HD3 := Lib.hid h3; have Hv3 := Lib.hid (HD2.out.lay.bytes Hv2.out k3); have Hk3 := Lib.hid k3; clear h3 k3))
  have HK3 : Hid (Keeps (SFoot p mn ms mc s) w w3) := Lib.hid ((Keeps.of_below (S := SFoot p mn ms mc s) Hb2.out).trans (Hk3.out.mono (fun _ _ e => .inl e)))
  have HQ3 : Hid (Keeps (DFoot p mn ms mc) w w3) := Lib.hid ((Keeps.of_below (S := DFoot p mn ms mc) Hb2.out).trans Hk3.out)
  clear e1 e2 e3 hw Hk3 Hb2 HS2 HD2 Hv2 Hal k0 k1 k2
  go_upto_region 11 with fail
  by_cases hr : r.1 = 0
  · rw [hr, errV_zero]
    have hsy := sync_db HD3.out (by omega)
    have k0 := HS3.out.cells3.1
    have hx2 : slotSave d at_ number row false new = if r.2.sync.1 ≠ 0 then ⟨r.2.sync.1, r.2.sync.2, number, row, true⟩ else ⟨0, r.2.sync.2, number + 1, new, false⟩ := by rw [Hx.out, if_neg (by simp [hr])]
    have Hx2 := Lib.hid hx2
    clear Hx hx2 hr
    go_upto_region 13 with (go_at_call 47; (with_reducible refine hsy.mono ?_); rintro _ w4 ⟨rfl, h4, k4⟩; clear hsy)
    clear k0
    have HS4 := Lib.hid (HS3.out.dev HD3.out.lay k4)
    have HD4 := Lib.hid h4
    have Hv4 := Lib.hid (HD3.out.lay.bytes Hv3.out k4)
    have HK4 := Lib.hid (HK3.out.trans (k4.mono (fun _ _ e => .inl e)))
    have HQ4 := Lib.hid (HQ3.out.trans k4)
    clear h4 k4 HS3 HD3 Hv3 HK3 HQ3
    obtain ⟨q4, cc4, h4, _⟩ := HS4.out
    have H4 := Lib.hid h4
    have hnd : Hid (¬ DFoot p mn ms mc s) := Lib.hid (HS4.out.not_dev HD4.out.lay)
    by_cases hr2 : r.2.sync.1 = 0
    · rw [hr2, errV_zero]
      have Hx3 : Hid (slotSave d at_ number row false new = ⟨0, r.2.sync.2, number + 1, new, false⟩) := Lib.hid (by rw [Hx2.out, if_neg (by simp [hr2])])
      have c2 := cell_in (o := 2) h4 rfl
      have f2 := free_in (o := 2) h4
      clear hr2 h4
      go_upto_region 17 with fail
      have kp5 : Keeps (· = s) w4 (w4.setCell ⟨s, 2, none⟩ (.int .i64 (number + 1))) := Keeps.cellAt (S := (· = s)) rfl _
      have H5 : Hid ((w4.setCell ⟨s, 2, none⟩ (.int .i64 (number + 1))).heap[s]? = some (.cells #[.pointer (some ⟨p, 0, none⟩), .int .i64 at_, .int .i64 (number + 1), .slice q4 row.length cc4, .bool false] 142 (0, 0))) := Lib.hid (by rw [heap_setCell _ _ _ _ _ _ _ H4.out]; rfl)
      have Hv5 := Lib.hid (Hv4.out.kept kp5 (fun _ _ hc => HS4.out.no_byte hc))
      have HD5 := Lib.hid (HD4.out.setCell (a := ⟨s, 2, none⟩) hnd.out hs0 (.int .i64 (number + 1)))
      have HK5 := Lib.hid (HK4.out.trans (kp5.mono (fun _ _ e => .inr e)))
      clear kp5 c2 f2 H4 HS4 HD4 Hv4 HK4
      generalize w4.setCell ⟨s, 2, none⟩ (.int .i64 (number + 1)) = w5 at H5 Hv5 HD5 HK5 ⊢
      have hcl := clone_len Hv5.out (by omega)
      go_upto_region 18 with (go_at_call 59; (with_reducible refine hcl.mono ?_); rintro _ w6 ⟨q6, cc6, rfl, s6, b6⟩; clear hcl; (have c3 := cell_in (o := 3) ((Keeps.of_below (S := fun _ => False) b6).at H5.out (fun e => e)) rfl); have f3 := free_in (o := 3) ((Keeps.of_below (S := fun _ => False) b6).at H5.out (fun e => e)))
      have hs6 := b6.size
      have H6 := Lib.hid ((Keeps.of_below (S := fun _ => False) b6).at H5.out (fun e => e))
      have HD6 := Lib.hid (HD5.out.below b6)
      have Hs6 := Lib.hid (Bytes.of_sub s6)
      have HK6 := Lib.hid (HK5.out.trans (Keeps.of_below b6))
      have Hnd := Lib.hid (lt_of H5.out)
      have Hup : Hid (∀ k, (Value.slice q6 new.length cc6).ownBlock = some k → w.heap.size ≤ k) := Lib.hid (fun k e => Nat.le_trans HK5.out.size (s6.lt k e).1)
      clear b6 s6 hs6 Hv5 H5 HD5 HK5
      go_wp2
      go_ret
      rw [Hx3.out]
      have kp : Keeps (· = s) w6 (w6.setCell ⟨s, 3, none⟩ (.slice q6 new.length cc6)) := Keeps.cellAt (S := (· = s)) rfl _
      exact ⟨by rw [errV_zero]; rfl, HD6.out.setCell (a := ⟨s, 3, none⟩) hnd.out hs0 _, ⟨q6, cc6, by rw [heap_setCell _ _ _ _ _ _ _ H6.out]; rfl, Hs6.out.kept kp (fun _ _ hc e => cells_byte hc (e ▸ H6.out) (by simp))⟩, HK6.out.trans (kp.mono (fun _ _ e => .inr e)), fun C hC _ => ⟨q6, new.length, cc6, cell_in (o := 3) (show (w6.setCell ⟨s, 3, none⟩ (.slice q6 new.length cc6)).heap[s]? = some (.cells #[.pointer (some ⟨p, 0, none⟩), .int .i64 at_, .int .i64 (number + 1), .slice q6 new.length cc6, .bool false] 142 (0, 0)) from by rw [heap_setCell _ _ _ _ _ _ _ H6.out]; rfl) rfl, fun _ k e e' => Nat.lt_irrefl _ (Nat.lt_of_lt_of_le (hC k e') (Hup.out k e))⟩⟩
    · rw [errV_pos hr2]
      have Hx3 : Hid (slotSave d at_ number row false new = ⟨r.2.sync.1, r.2.sync.2, number, row, true⟩) := Lib.hid (by rw [Hx2.out, if_pos hr2])
      have Hr := Lib.hid hr2
      have c4 := cell_in (o := 4) h4 rfl
      have f4 := free_in (o := 4) h4
      obtain ⟨q5, cc5, h5, hrow⟩ := HS4.out
      have H5 := Lib.hid h5
      have Hrow := Lib.hid hrow
      clear hr2 h4 h5 hrow
      go_wp2
      go_ret
      rw [Hx3.out]
      have kp : Keeps (· = s) w4 (w4.setCell ⟨s, 4, none⟩ (.bool true)) := Keeps.cellAt (S := (· = s)) rfl _
      exact ⟨by rw [errV_pos Hr.out]; rfl, HD4.out.setCell (a := ⟨s, 4, none⟩) hnd.out hs0 _, ⟨q5, cc5, by rw [heap_setCell _ _ _ _ _ _ _ H5.out]; rfl, Hrow.out.kept kp (fun _ _ hc => HS4.out.no_byte hc)⟩, HK4.out.trans (kp.mono (fun _ _ e => .inr e)), fun C _ hU => (hU.keeps HQ4.out hnd.out).set4 _⟩
  · rw [errV_pos hr]
    have Hx2 : Hid (slotSave d at_ number row false new = ⟨r.1, r.2, number, row, true⟩) := Lib.hid (by rw [Hx.out, if_pos hr])
    have Hr := Lib.hid hr
    obtain ⟨q3, cc3, h3, hrow⟩ := HS3.out
    have Hrow := Lib.hid hrow
    have H3 := Lib.hid h3
    have c4 := cell_in (o := 4) h3 rfl
    have f4 := free_in (o := 4) h3
    have hnd : Hid (¬ DFoot p mn ms mc s) := Lib.hid (HS3.out.not_dev HD3.out.lay)
    clear hr h3 hrow
    go_wp2
    go_ret
    rw [Hx2.out]
    have kp : Keeps (· = s) w3 (w3.setCell ⟨s, 4, none⟩ (.bool true)) := Keeps.cellAt (S := (· = s)) rfl _
    refine ⟨by rw [errV_pos Hr.out]; rfl, (HD3.out.setCell (a := ⟨s, 4, none⟩) hnd.out hs0 _).more (by omega), ⟨q3, cc3, by rw [heap_setCell _ _ _ _ _ _ _ H3.out]; rfl, ?_⟩, HK3.out.trans (kp.mono (fun _ _ e => .inr e)), fun C _ hU => (hU.keeps HQ3.out hnd.out).set4 _⟩
    exact Hrow.out.kept kp (fun _ _ hc => HS3.out.no_byte hc)
end Go.Proofs.Ytnficiohnhodiaa
