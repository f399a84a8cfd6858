import Derived.Test.YtnficiohnhodiaaSlotE
/-
  Slots: Format.
-/
namespace Go.Proofs.Ytnficiohnhodiaa
open Go.RowKit
theorem save_any {w0 w : World} {p mn ms mc s n : Nat} {d : Dev} {at_ number : Int} {row new : List UInt8} {dead : Bool} {v : Value} (hD : DB w0 w p mn ms mc d n) (hn : n ≤ 100000000) (hS : SlotAt w s p at_ number row dead) (hs0 : w0.heap.size ≤ s) (hv : Bytes w v new) (ha0 : 0 ≤ at_) (ha1 : at_ ≤ 4096) (h0 : 0 ≤ number) :
    Calls Try.prog 61 #[.pointer (some ⟨s, 0, none⟩), v] w (SavePost w0 w p mn ms mc s at_ (n + 2) (slotSave d at_ number row dead new)) := by
  by_cases h : most62 ≤ number
  · exact save_high hD hS h
  · by_cases hl : 480 < new.length
    · exact save_long hD hS hv h0 h hl
    · cases dead with
      | true => exact save_dead hD hS hv h0 h (by omega)
      | false => exact save_live hD hn hS hs0 hv ha0 ha1 h0 h (by omega)
/-- 'make([]byte, n)' -/
theorem make_zeros (n : Nat) (hn : n ≤ 1000000000) (w : World) : (Instr.makeSlice 52 (.int .i64 (n : Int)) (.int .i64 (n : Int))).run Try.prog w = .ok (.slice (some ⟨w.heap.size, 0, none⟩) n n) (w.alloc (.cells (bytesV (List.replicate n 0)).toArray 5)) := by
  obtain ⟨i0, hi, hz0, hz1, hz2⟩ := info_parts info8
  have hr := run_make (P := Try.prog) w 52 5 i0 (.int .u8 0) Try.underlying52 hi hz0 .i64 .i64 (n : Int) (n : Int) (by omega) (by omega) (by rw [hz2]; omega) (by omega)
  rw [hz1, Nat.mul_one, Int.toNat_natCast] at hr
  have e : madeCells (Value.int .u8 0).cells n = (bytesV (List.replicate n 0)).toArray := by
    apply Array.ext'
    show (madeCells #[Value.int .u8 0] n).toList = _
    rw [toList_madeCells_one]
    unfold bytesV; rw [List.map_replicate]; rfl
  rw [e] at hr
  exact hr
theorem zeros_bytes (n : Nat) (hn : n ≤ 1000000000) (w : World) : Bytes (w.alloc (.cells (bytesV (List.replicate n 0)).toArray 5)) (.slice (some ⟨w.heap.size, 0, none⟩) n n) (List.replicate n 0) := by
  refine ⟨_, n, by rw [List.length_replicate], by rw [List.length_replicate]; exact Nat.le_refl _, by unfold maxLen; omega, fun j b hb => ⟨_, rfl, ?_⟩⟩
  rw [Addr.add_mid, Nat.zero_add]
  exact cell_in (heap_alloc_new w _) (by unfold bytesV; rw [List.getElem?_toArray, List.getElem?_map, hb]; rfl)
theorem make_512 : ∃ cs : Array Value, ∀ w, (Instr.makeSlice 52 (.int .i64 512) (.int .i64 512)).run Try.prog w = .ok (.slice (some ⟨w.heap.size, 0, none⟩) 512 512) (w.alloc (.cells cs 5)) ∧ Bytes (w.alloc (.cells cs 5)) (.slice (some ⟨w.heap.size, 0, none⟩) 512 512) blank :=
  ⟨_, fun w => ⟨make_zeros 512 (by omega) w, zeros_bytes 512 (by omega) w⟩⟩
def Dev.slotFormat (d : Dev) (at_ : Int) (row : List UInt8) : Int × Dev :=
  if fitsB d at_ = false then (1, d) else if 480 < row.length then (2, d)
  else if (d.write at_ blank).1 ≠ 0 then d.write at_ blank
  else if ((d.write at_ blank).2.write (at_ + 1) (secOf 1 row)).1 ≠ 0 then (d.write at_ blank).2.write (at_ + 1) (secOf 1 row)
  else ((d.write at_ blank).2.write (at_ + 1) (secOf 1 row)).2.sync
def FormatPost (w0 w : World) (p mn ms mc : Nat) (n : Nat) (at_ : Int) (row : List UInt8) (x : Int × Dev) (e : Ending) (w' : World) : Prop :=
  DB w0 w' p mn ms mc x.2 n ∧ Keeps (DFoot p mn ms mc) w w' ∧ (x.1 ≠ 0 ∧ e = .returned (.tuple #[.pointer none, errV x.1]) ∨ x.1 = 0 ∧ ∃ s, e = .returned (.tuple #[.pointer (some ⟨s, 0, none⟩), .nilIface]) ∧ SlotAt w' s p at_ 1 row false ∧ w.heap.size ≤ s ∧ SlotUp w' w.heap.size s)
theorem format_nil (w : World) (at_ : Int) (v : Value) : Calls Try.prog 60 #[.pointer none, .int .i64 at_, v] w fun e w' => e = .returned (.tuple #[.pointer none, errV 1]) ∧ w = w' := by
  have hm := makeErr 1
  have hf := fits_nil w at_
  rw [errV_pos (by decide)]
  go_enter Try.func60, Try.ntmps60
  go_wp2_with (go_at_call 83; (with_reducible refine hf.mono ?_); rintro _ _ ⟨rfl, rfl⟩)
  go_ret2
  exact ⟨rfl, rfl⟩
section
variable {w0 w : World} {p mn ms mc n : Nat} {d : Dev} {at_ : Int} {row : List UInt8} {v : Value}
set_option maxRecDepth 100000 in
theorem format_range (hD : DB w0 w p mn ms mc d n) (h : fitsB d at_ = false) : Calls Try.prog 60 #[.pointer (some ⟨p, 0, none⟩), .int .i64 at_, v] w (FormatPost w0 w p mn ms mc (n + 3) at_ row (d.slotFormat at_ row)) := by
  have hm1 := makeErr 1
  have hf := fits_dev w p mn ms mc d hD.lay hD.ok.z1 hD.ok.z2 at_
  rw [h] at hf
  have Hx : Hid (d.slotFormat at_ row = (1, d)) := Lib.hid (by unfold Dev.slotFormat; rw [if_pos h])
  have HD := Lib.hid hD
  clear hD h
  go_enter Try.func60, Try.ntmps60
  go_wp2_with (go_at_call 83; (with_reducible refine hf.mono ?_); rintro _ _ ⟨rfl, rfl⟩)
  go_ret2
  rw [Hx.out]
  exact ⟨HD.out.more (by omega), Keeps.refl _ _, .inl ⟨by show (1 : Int) ≠ 0; decide, rfl⟩⟩
set_option maxRecDepth 100000 in
theorem format_long (hD : DB w0 w p mn ms mc d n) (h : fitsB d at_ = true) (hv : Bytes w v row) (hl : 480 < row.length) : Calls Try.prog 60 #[.pointer (some ⟨p, 0, none⟩), .int .i64 at_, v] w (FormatPost w0 w p mn ms mc (n + 3) at_ row (d.slotFormat at_ row)) := by
  have hf := fits_dev w p mn ms mc d hD.lay hD.ok.z1 hD.ok.z2 at_
  rw [h] at hf
  have hsec := sector_long 1 hv hl
  rw [errV_pos (by decide)] at hsec
  have Hx : Hid (d.slotFormat at_ row = (2, d)) := Lib.hid (by unfold Dev.slotFormat; rw [if_neg (by simp [h]), if_pos hl])
  have HD := Lib.hid hD
  clear hD h hv
  go_enter Try.func60, Try.ntmps60
  go_wp2_with (first
    | (go_at_call 83; (with_reducible refine hf.mono ?_); rintro _ _ ⟨rfl, rfl⟩)
    | (go_at_call 84; (with_reducible refine hsec.mono ?_); rintro _ _ ⟨rfl, rfl⟩))
  go_ret2
  rw [Hx.out]
  exact ⟨HD.out.more (by omega), Keeps.refl _ _, .inl ⟨by show (2 : Int) ≠ 0; decide, rfl⟩⟩
set_option maxRecDepth 100000 in
set_option maxHeartbeats 1000000 in
theorem format_ok (hD : DB w0 w p mn ms mc d n) (hn : n ≤ 100000000) (h : fitsB d at_ = true) (hv : Bytes w v row) (hl : row.length ≤ 480) : Calls Try.prog 60 #[.pointer (some ⟨p, 0, none⟩), .int .i64 at_, v] w (FormatPost w0 w p mn ms mc (n + 3) at_ row (d.slotFormat at_ row)) := by
  have hrng : 0 ≤ at_ ∧ at_ < d.size - 1 := by unfold fitsB at h; simpa using h
  have hz2 := hD.ok.z2
  have hb0 : (0 : Int) ≤ at_ := hrng.1
  have hb1 : at_ ≤ 4096 := by omega
  have hf := fits_dev w p mn ms mc d hD.lay hD.ok.z1 hD.ok.z2 at_
  rw [h] at hf
  have hsec := sector_ok (n := 1) (by unfold int64; omega) hv hl
  have hx : d.slotFormat at_ row = if (d.write at_ blank).1 ≠ 0 then d.write at_ blank
    else if ((d.write at_ blank).2.write (at_ + 1) (secOf 1 row)).1 ≠ 0 then (d.write at_ blank).2.write (at_ + 1) (secOf 1 row)
    else ((d.write at_ blank).2.write (at_ + 1) (secOf 1 row)).2.sync := by unfold Dev.slotFormat; rw [if_neg (by simp [h]), if_neg (by omega)]
  have hsl : (secOf 1 row).length = 512 := secOf_len hl
  have Hsl := Lib.hid hsl
  have Hx := Lib.hid hx
  have HD := Lib.hid hD
  have Hv := Lib.hid hv
  obtain ⟨cs, hmk⟩ := make_512
  have hmk1 := fun w => (hmk w).1
  have Hmk := Lib.hid (fun w => (hmk w).2)
  clear hD hv hx hrng hz2 hsl hmk h
  go_enter Try.func60, Try.ntmps60
  go_upto_region 6 with (first
    | (go_at_call 83; (with_reducible refine hf.mono ?_); rintro _ _ ⟨rfl, rfl⟩; clear hf)
    | (go_at_call 84; (with_reducible refine hsec.mono ?_); rintro _ w1 ⟨g, rfl, hg, hb1, b1⟩; clear hsec))
  generalize secOf 1 row = sec at hb1 Hsl Hx
  have HD1 := Lib.hid (HD.out.below b1)
  have Hv1 := Lib.hid (Hv.out.below b1)
  have HK1 : Hid (Keeps (DFoot p mn ms mc) w w1) := Lib.hid (Keeps.of_below b1)
  have Hsec := Lib.hid hb1
  clear b1 hb1 hg HD Hv
  have hal : Below w1.heap.size w1 (w1.alloc (.cells cs 5)) := (Below.refl _ _).alloc (Nat.le_refl _) _
  have hw1 := write_one (HD1.out.below hal) (by omega) at_ (Hmk.out w1) 52 (by rw [show blank.length = 512 from List.length_replicate]; omega)
  rw [show (w1.alloc (.cells cs 5)).heap.size = w1.heap.size + 1 from by simp] at hw1
  have hlz : Hid (Keeps (DFoot p mn ms mc) w1 (w1.alloc (.cells cs 5))) := Lib.hid (Keeps.of_below hal)
  have HD1' := Lib.hid (HD1.out.below hal)
  have Hv1' := Lib.hid (Hv1.out.below hal)
  have Hsec' := Lib.hid (Hsec.out.below hal)
  generalize hr1 : d.write at_ blank = r1 at hw1 Hx
  clear hr1 hal
  go_upto_region 7 with (go_at_call 45; (with_reducible refine hw1.mono ?_); rintro _ w2 ⟨rfl, h2, k2⟩; clear hw1)
  have HD2 := Lib.hid h2
  have Hv2 := Lib.hid (HD1'.out.lay.bytes Hv1'.out k2)
  have Hsec2 := Lib.hid (HD1'.out.lay.bytes Hsec'.out k2)
  have HK2 := Lib.hid (HK1.out.trans (hlz.out.trans k2))
  clear h2 k2 hlz HD1' Hv1' Hsec' HK1 Hsec Hv1 HD1 hmk1
  by_cases he1 : r1.1 = 0
  · rw [he1, errV_zero]
    have Hx2 : Hid (d.slotFormat at_ row = if (r1.2.write (at_ + 1) sec).1 ≠ 0 then r1.2.write (at_ + 1) sec else (r1.2.write (at_ + 1) sec).2.sync) := Lib.hid (by rw [Hx.out, if_neg (by simp [he1])])
    have hw2 := write_one HD2.out (by omega) (at_ + 1) Hsec2.out 52 (by rw [Hsl.out]; omega)
    generalize hr2 : r1.2.write (at_ + 1) sec = r2 at hw2 Hx2
    clear hr2 he1 Hx
    go_upto_region 10 with (go_at_call 45; (with_reducible refine hw2.mono ?_); rintro _ w3 ⟨rfl, h3, k3⟩; clear hw2)
    have HD3 := Lib.hid h3
    have Hv3 := Lib.hid (HD2.out.lay.bytes Hv2.out k3)
    have HK3 := Lib.hid (HK2.out.trans k3)
    clear h3 k3 HD2 Hv2 HK2 Hsec2
    by_cases he2 : r2.1 = 0
    · rw [he2, errV_zero]
      have Hx3 : Hid (d.slotFormat at_ row = r2.2.sync) := Lib.hid (by rw [Hx2.out, if_neg (by simp [he2])])
      have hsy := sync_db HD3.out (by omega)
      generalize hr3 : r2.2.sync = r3 at hsy Hx3
      clear hr3 he2 Hx2
      go_upto_region 13 with (go_at_call 47; (with_reducible refine hsy.mono ?_); rintro _ w4 ⟨rfl, h4, k4⟩; clear hsy)
      have HD4 := Lib.hid h4
      have Hv4 := Lib.hid (HD3.out.lay.bytes Hv3.out k4)
      have HK4 := Lib.hid (HK3.out.trans k4)
      clear h4 k4 HD3 Hv3 HK3
      by_cases he3 : r3.1 = 0
      · rw [he3, errV_zero]
        have He3 := Lib.hid he3
        have hcl := clone_len Hv4.out (by omega)
        clear he3
        go_wp2_with (go_at_call 59; (with_reducible refine hcl.mono ?_); rintro _ w5 ⟨q5, c5, rfl, s5, b5⟩; clear hcl)
        go_ret2
        rw [Hx3.out]
        have hal5 : Below w5.heap.size w5 (w5.alloc (.cells #[.pointer (some ⟨p, 0, none⟩), .int .i64 at_, .int .i64 1, .slice q5 row.length c5, .bool false] 142)) := (Below.refl _ _).alloc (Nat.le_refl _) _
        exact ⟨(HD4.out.below b5).below hal5, HK4.out.trans ((Keeps.of_below b5).trans' (Keeps.of_below hal5) (fun _ _ e => e)), .inr ⟨He3.out, w5.heap.size, rfl, ⟨q5, c5, heap_alloc_new _ _, (Bytes.of_sub s5).below hal5⟩, Nat.le_trans HK4.out.size b5.size, q5, row.length, c5, cell_in (o := 3) (heap_alloc_new _ _) rfl, fun k e => Nat.le_trans HK4.out.size (s5.lt k e).1⟩⟩
      · rw [errV_pos he3]
        have He3 := Lib.hid he3
        clear he3
        go_wp2
        go_ret2
        rw [Hx3.out]
        exact ⟨HD4.out, HK4.out, .inl ⟨He3.out, by rw [errV_pos He3.out]; rfl⟩⟩
    · rw [errV_pos he2]
      have He2 := Lib.hid he2
      have Hx3 : Hid (d.slotFormat at_ row = r2) := Lib.hid (by rw [Hx2.out, if_pos he2])
      clear he2
      go_wp2
      go_ret2
      rw [Hx3.out]
      exact ⟨HD3.out.more (by omega), HK3.out, .inl ⟨He2.out, by rw [errV_pos He2.out]; rfl⟩⟩
  · rw [errV_pos he1]
    have He1 := Lib.hid he1
    have Hx2 : Hid (d.slotFormat at_ row = r1) := Lib.hid (by rw [Hx.out, if_pos he1])
    clear he1
    go_wp2
    go_ret2
    rw [Hx2.out]
    exact ⟨HD2.out.more (by omega), HK2.out, .inl ⟨He1.out, by rw [errV_pos He1.out]; rfl⟩⟩
theorem format_any (hD : DB w0 w p mn ms mc d n) (hn : n ≤ 100000000) (hv : Bytes w v row) : Calls Try.prog 60 #[.pointer (some ⟨p, 0, none⟩), .int .i64 at_, v] w (FormatPost w0 w p mn ms mc (n + 3) at_ row (d.slotFormat at_ row)) := by
  cases h : fitsB d at_ with
  | false => exact format_range hD h
  | true =>
    by_cases hl : 480 < row.length
    · exact format_long hD h hv hl
    · exact format_ok hD hn h hv (by omega)
end
end Go.Proofs.Ytnficiohnhodiaa
