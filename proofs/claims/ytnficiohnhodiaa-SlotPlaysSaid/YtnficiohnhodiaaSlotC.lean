import Derived.Test.YtnficiohnhodiaaSlotB
/-
  Slots: how they lie; Open, Row, Number.
-/
namespace Go.Proofs.Ytnficiohnhodiaa
open Go.RowKit
/-- slots in block s over the device in block p -/
def SlotAt (w : World) (s p : Nat) (at_ number : Int) (row : List UInt8) (dead : Bool) : Prop :=
  ∃ q c, w.heap[s]? = some (.cells #[.pointer (some ⟨p, 0, none⟩), .int .i64 at_, .int .i64 number, .slice q row.length c, .bool dead] 142 (0, 0)) ∧ Bytes w (.slice q row.length c) row
theorem SlotAt.keeps {S : Nat → Prop} {w w' : World} {s p : Nat} {at_ number : Int} {row : List UInt8} {dead : Bool} (h : SlotAt w s p at_ number row dead) (hk : Keeps S w w') (hs : ¬ S s) (hn : ∀ a b, w.cell? a = some (byteV b) → ¬ S a.block) : SlotAt w' s p at_ number row dead := by
  obtain ⟨q, c, h1, h2⟩ := h
  exact ⟨q, c, hk.at h1 hs, h2.kept hk hn⟩
theorem SlotAt.below {w w' : World} {s p : Nat} {at_ number : Int} {row : List UInt8} {dead : Bool} (h : SlotAt w s p at_ number row dead) (hb : Below w.heap.size w w') : SlotAt w' s p at_ number row dead := h.keeps (S := fun _ => False) (Keeps.of_below hb) (fun e => e) (fun _ _ _ e => e)
theorem SlotAt.lt {w : World} {s p : Nat} {at_ number : Int} {row : List UInt8} {dead : Bool} (h : SlotAt w s p at_ number row dead) : s < w.heap.size := by obtain ⟨q, c, h1, _⟩ := h; exact lt_of h1
theorem SlotAt.no_byte {w : World} {s p : Nat} {at_ number : Int} {row : List UInt8} {dead : Bool} (h : SlotAt w s p at_ number row dead) {a : Addr} {b : UInt8} (hc : w.cell? a = some (byteV b)) : a.block ≠ s := by
  obtain ⟨q, c, h1, _⟩ := h
  intro e
  exact cells_byte hc (e ▸ h1) (by simp)
theorem SlotAt.not_dev {w : World} {s p mn ms mc : Nat} {at_ number : Int} {row : List UInt8} {dead : Bool} {d : Dev} (h : SlotAt w s p at_ number row dead) (hd : DevAt w p mn ms mc d) : ¬ DFoot p mn ms mc s := by
  obtain ⟨q, c, h1, _⟩ := h
  obtain ⟨l1, ⟨_, _, a1, _⟩, _⟩ := hd.now
  obtain ⟨l2, ⟨_, _, a2, _⟩, _⟩ := hd.synced
  obtain ⟨l3, ⟨_, _, a3, _⟩, _⟩ := hd.chg
  rintro (rfl | rfl | rfl | rfl)
  · rw [hd.self] at h1; simp at h1
  · rw [a1] at h1; cases h1
  · rw [a2] at h1; cases h1
  · rw [a3] at h1; cases h1
/-- the row of the slots lies in no block below C -/
def SlotUp (w : World) (C s : Nat) : Prop := ∃ q n c, w.cell? ⟨s, 3, none⟩ = some (.slice q n c) ∧ ∀ k, (Value.slice q n c).ownBlock = some k → C ≤ k
theorem SlotUp.keeps {S : Nat → Prop} {w w' : World} {C s : Nat} (h : SlotUp w C s) (hk : Keeps S w w') (hs : ¬ S s) : SlotUp w' C s := by
  obtain ⟨q, n, c, h1, h2⟩ := h
  exact ⟨q, n, c, hk.cell h1 hs, h2⟩
theorem SlotUp.below {w w' : World} {C s : Nat} (h : SlotUp w C s) (hb : Below w.heap.size w w') : SlotUp w' C s := h.keeps (S := fun _ => False) (Keeps.of_below hb) (fun e => e)
theorem SlotUp.less {w : World} {C C' s : Nat} (h : SlotUp w C s) (hc : C' ≤ C) : SlotUp w C' s := by
  obtain ⟨q, n, c, h1, h2⟩ := h
  exact ⟨q, n, c, h1, fun k e => Nat.le_trans hc (h2 k e)⟩
theorem row_nil (w : World) : Calls Try.prog 64 #[.pointer none] w fun e w' => e = .returned (.slice none 0 0) ∧ w = w' := by
  go_enter Try.func64, Try.ntmps64
  go_wp2
  go_ret
  exact ⟨rfl, rfl⟩
theorem number_nil (w : World) : Calls Try.prog 63 #[.pointer none] w fun e w' => e = .returned (.int .i64 0) ∧ w = w' := by
  go_enter Try.func63, Try.ntmps63
  go_wp2
  go_ret
  exact ⟨rfl, rfl⟩
theorem row_any {w : World} {s p : Nat} {at_ number : Int} {row : List UInt8} {dead : Bool} (h : SlotAt w s p at_ number row dead) (hl : row.length ≤ 1000000000000) :
    Calls Try.prog 64 #[.pointer (some ⟨s, 0, none⟩)] w fun e w' => ∃ q c, e = .returned (.slice q row.length c) ∧ SubRow w' w.heap.size (.slice q row.length c) (bytesV row) ∧ Below w.heap.size w w' := by
  obtain ⟨q, c, h1, h2⟩ := h
  have hc := clone_any h2 hl
  have c3 := cell_in (o := 3) h1 rfl
  clear h1 h2
  go_enter Try.func64, Try.ntmps64
  go_wp2_with (go_at_call 59; (with_reducible refine hc.mono ?_); rintro _ w1 ⟨v1, rfl, s1, b1⟩)
  go_ret
  obtain ⟨q', c', rfl, _⟩ := s1.form
  rw [bytesV_len] at s1 ⊢
  exact ⟨q', c', rfl, s1, b1⟩
theorem number_any {w : World} {s p : Nat} {at_ number : Int} {row : List UInt8} {dead : Bool} (h : SlotAt w s p at_ number row dead) :
    Calls Try.prog 63 #[.pointer (some ⟨s, 0, none⟩)] w fun e w' => e = .returned (.int .i64 number) ∧ w = w' := by
  obtain ⟨q, c, h1, h2⟩ := h
  have c2 := cell_in (o := 2) h1 rfl
  clear h1 h2
  go_enter Try.func63, Try.ntmps63
  go_wp2
  go_ret
  exact ⟨rfl, rfl⟩
def slotBest (d : Dev) (at_ : Int) : Nat → Int × List UInt8
  | 0 => (0, [])
  | k + 1 => if (slotBest d at_ k).1 < (slotRead (d.now (at_ + (k : Int))) k).1 then slotRead (d.now (at_ + (k : Int))) k else slotBest d at_ k
def Dev.slotOpen (d : Dev) (at_ : Int) : Int × Int × List UInt8 :=
  if fitsB d at_ = false then (1, 0, []) else if d.down = true then (3, 0, []) else if (slotBest d at_ 2).1 = 0 then (20, 0, []) else (0, slotBest d at_ 2)
def OpenPost (w0 w : World) (p mn ms mc : Nat) (d : Dev) (n : Nat) (at_ : Int) (x : Int × Int × List UInt8) (e : Ending) (w' : World) : Prop :=
  DB w0 w' p mn ms mc d n ∧ Below w.heap.size w w' ∧ (x.1 ≠ 0 ∧ e = .returned (.tuple #[.pointer none, errV x.1]) ∨ x.1 = 0 ∧ ∃ s, e = .returned (.tuple #[.pointer (some ⟨s, 0, none⟩), .nilIface]) ∧ SlotAt w' s p at_ x.2.1 x.2.2 false ∧ w.heap.size ≤ s ∧ SlotUp w' w.heap.size s)
theorem open_nil (w : World) (at_ : Int) : Calls Try.prog 62 #[.pointer none, .int .i64 at_] w fun e w' => e = .returned (.tuple #[.pointer none, errV 1]) ∧ w = w' := by
  have hm := makeErr 1
  have hf := fits_nil w at_
  rw [errV_pos (by decide)]
  go_enter Try.func62, Try.ntmps62
  go_wp2_with (go_at_call 83; (with_reducible refine hf.mono ?_); rintro _ _ ⟨rfl, rfl⟩)
  go_ret2
  exact ⟨rfl, rfl⟩
set_option maxRecDepth 100000 in
set_option maxHeartbeats 1000000 in
theorem open_any {w0 w : World} {p mn ms mc n : Nat} {d : Dev} (h : DB w0 w p mn ms mc d n) (at_ : Int) : Calls Try.prog 62 #[.pointer (some ⟨p, 0, none⟩), .int .i64 at_] w (OpenPost w0 w p mn ms mc d n at_ (d.slotOpen at_)) := by
  have hm1 := makeErr 1
  have hm3 := makeErr 3
  have hm20 := makeErr 20
  have hf := fits_dev w p mn ms mc d h.lay h.ok.z1 h.ok.z2 at_
  have Hd := Lib.hid h
  by_cases hfit : fitsB d at_ = false
  · have Hx : Hid (d.slotOpen at_ = (1, 0, [])) := Lib.hid (by unfold Dev.slotOpen; rw [if_pos hfit])
    rw [hfit] at hf
    clear h hfit
    go_enter Try.func62, Try.ntmps62
    go_wp2_with (go_at_call 83; (with_reducible refine hf.mono ?_); rintro _ _ ⟨rfl, rfl⟩)
    go_ret2
    rw [Hx.out]
    exact ⟨Hd.out, Below.refl _ _, .inl ⟨by decide, rfl⟩⟩
  · have hfit' : fitsB d at_ = true := by simpa using hfit
    have hrng : 0 ≤ at_ ∧ at_ < d.size - 1 := by unfold fitsB at hfit'; simpa using hfit'
    rw [hfit'] at hf
    have hz2 := h.ok.z2
    have hb0 : (0 : Int) ≤ at_ := hrng.1
    have hb1 : at_ ≤ 4096 := by omega
    by_cases hdn : d.down = true
    · have Hx : Hid (d.slotOpen at_ = (3, 0, [])) := Lib.hid (by unfold Dev.slotOpen; rw [if_neg hfit, if_pos hdn])
      have hr := read_down' (h.below ((Below.refl _ _).alloc (Nat.le_refl _) (.cells #[.pointer (some ⟨p, 0, none⟩), .int .i64 at_, .int .i64 0, .slice none 0 0, .bool false] 142))) at_ 0 hb0 (by decide) (by decide) (by omega) hdn
      rw [errV_pos (by decide)] at hr
      have hd2 := Lib.hid (h.below ((Below.refl _ _).alloc (Nat.le_refl _) (.cells #[.pointer (some ⟨p, 0, none⟩), .int .i64 at_, .int .i64 0, .slice none 0 0, .bool false] 142)))
      clear h hfit hfit' hrng hdn hz2
      go_enter Try.func62, Try.ntmps62
      go_wp2_with (go_at_call 83; (with_reducible refine hf.mono ?_); rintro _ _ ⟨rfl, rfl⟩)
      go_loopw [20] (fun i wr => i = .int .i64 0 ∧ wr = w.alloc (.cells #[.pointer (some ⟨p, 0, none⟩), .int .i64 at_, .int .i64 0, .slice none 0 0, .bool false] 142)) (fun _ _ => 0)
      case atStart => exact ⟨rfl, rfl⟩
      case round =>
        obtain ⟨rfl, rfl⟩ := hrel
        go_wp2_with (go_at_call 85; (with_reducible refine hr.mono ?_); rintro _ _ ⟨rfl, rfl⟩)
        go_ret2
        rw [Hx.out]
        exact ⟨hd2.out, (Below.refl _ _).alloc (Nat.le_refl _) _, .inl ⟨by decide, rfl⟩⟩
    · have hdn' : d.down = false := by simpa using hdn
      have Hdn := Lib.hid hdn'
      have Hrng := Lib.hid hrng
      have Hx : Hid (d.slotOpen at_ = if (slotBest d at_ 2).1 = 0 then (20, 0, []) else (0, slotBest d at_ 2)) := Lib.hid (by unfold Dev.slotOpen; rw [if_neg hfit, if_neg hdn])
      have hal : Below w.heap.size w (w.alloc (.cells #[.pointer (some ⟨p, 0, none⟩), .int .i64 at_, .int .i64 0, .slice none 0 0, .bool false] 142)) := (Below.refl _ _).alloc (Nat.le_refl _) _
      have HS : Hid (SlotAt (w.alloc (.cells #[.pointer (some ⟨p, 0, none⟩), .int .i64 at_, .int .i64 0, .slice none 0 0, .bool false] 142)) w.heap.size p at_ (slotBest d at_ 0).1 (slotBest d at_ 0).2 false) := Lib.hid ⟨none, 0, heap_alloc_new _ _, Bytes.nil⟩
      have HU : Hid (SlotUp (w.alloc (.cells #[.pointer (some ⟨p, 0, none⟩), .int .i64 at_, .int .i64 0, .slice none 0 0, .bool false] 142)) w.heap.size w.heap.size) := Lib.hid ⟨none, 0, 0, cell_in (o := 3) (heap_alloc_new _ _) rfl, fun k e => by cases e⟩
      have HD := Lib.hid (h.below hal)
      have Hw0 := Lib.hid h.bel.size
      have Hal := Lib.hid hal
      clear h hfit hfit' hrng hdn hdn' hz2 hal
      go_enter Try.func62, Try.ntmps62
      go_wp2_with (go_at_call 83; (with_reducible refine hf.mono ?_); rintro _ _ ⟨rfl, rfl⟩)
      generalize w.alloc (.cells #[.pointer (some ⟨p, 0, none⟩), .int .i64 at_, .int .i64 0, .slice none 0 0, .bool false] 142) = w1 at HS HU HD Hal ⊢
      go_loopw [20] (fun i wr => ∃ k : Nat, k ≤ 2 ∧ i = .int .i64 k ∧ SlotAt wr w.heap.size p at_ (slotBest d at_ k).1 (slotBest d at_ k).2 false ∧ DB w0 wr p mn ms mc d n ∧ Below w.heap.size w wr ∧ SlotUp wr w.heap.size w.heap.size) (fun i _ => 2 - (intOf i).toNat)
      case atStart => exact ⟨0, by omega, rfl, HS.out, HD.out, Hal.out, HU.out⟩
      case round =>
        clear HS HU HD Hal
        obtain ⟨k, hk, rfl, hS, hD, hB, hU⟩ := hrel
        have HU := Lib.hid hU
        clear hU
        by_cases hlt : k < 2
        · have hr := read_row hD at_ (k : Int) hb0 (by omega) (by omega) (by have := Hrng.out; omega) Hdn.out
          have hsn := slotRead_nonneg (d.now (at_ + (k : Int))) (k : Int)
          have Hbest : Hid (slotBest d at_ (k + 1) = if (slotBest d at_ k).1 < (slotRead (d.now (at_ + (k : Int))) k).1 then slotRead (d.now (at_ + (k : Int))) k else slotBest d at_ k) := Lib.hid rfl
          generalize slotRead (d.now (at_ + (k : Int))) k = x at hr hsn Hbest
          generalize slotBest d at_ k = y at hS Hbest
          have hlow : ¬ DFoot p mn ms mc w.heap.size := hS.not_dev hD.lay
          have hlw := hD.bel.size
          have Hsz := Lib.hid (Nat.le_trans (hD.bel.size) (Nat.le_refl _))
          clear hsn
          go_upto_region 10 with (go_at_call 85; (with_reducible refine hr.mono ?_); rintro _ w2 ⟨q2, cc2, rfl, sx2, b2⟩; clear hr)
          have hx2 := Bytes.of_sub sx2
          have Hup : Hid (∀ k, (Value.slice q2 x.2.length cc2).ownBlock = some k → w.heap.size ≤ k) := Lib.hid (fun k e => Nat.le_trans hB.size (sx2.lt k e).1)
          have HU2 := Lib.hid (HU.out.below b2)
          clear sx2 HU
          have hS2 := hS.below b2
          have HD2 := Lib.hid (hD.below b2)
          have HB2 := Lib.hid (hB.trans (b2.mono hB.size))
          have Hx2 := Lib.hid hx2
          have HS2 := Lib.hid hS2
          obtain ⟨q1, cc1, h1, h2⟩ := hS2
          have c2 := cell_in (o := 2) h1 rfl
          have f2 := free_in (o := 2) h1
          have c3 := cell_in (o := 3) h1 rfl
          have f3 := free_in (o := 3) h1
          have H1 := Lib.hid h1
          clear hS hD hB hx2 h1 h2 b2
          by_cases hgt : y.1 < x.1
          · rw [if_pos hgt] at Hbest
            go_wp2
            have hkp : Keeps (· = w.heap.size) w2 ((w2.setCell ⟨w.heap.size, 2, none⟩ (.int .i64 x.1)).setCell ⟨w.heap.size, 3, none⟩ (.slice q2 x.2.length cc2)) := (Keeps.cellAt (S := (· = w.heap.size)) rfl _).setCell (.inl rfl) _
            have HS3 : Hid (SlotAt ((w2.setCell ⟨w.heap.size, 2, none⟩ (.int .i64 x.1)).setCell ⟨w.heap.size, 3, none⟩ (.slice q2 x.2.length cc2)) w.heap.size p at_ x.1 x.2 false) := Lib.hid ⟨q2, cc2, by rw [heap_setCell _ _ _ _ _ _ _ (heap_setCell _ _ _ _ _ _ _ H1.out)]; rfl, Hx2.out.kept hkp (fun _ _ hc => HS2.out.no_byte hc)⟩
            have HD3 : Hid (DB w0 ((w2.setCell ⟨w.heap.size, 2, none⟩ (.int .i64 x.1)).setCell ⟨w.heap.size, 3, none⟩ (.slice q2 x.2.length cc2)) p mn ms mc d n) := Lib.hid ((HD2.out.setCell hlow Hw0.out _).setCell hlow Hw0.out _)
            have HB3 : Hid (Below w.heap.size w ((w2.setCell ⟨w.heap.size, 2, none⟩ (.int .i64 x.1)).setCell ⟨w.heap.size, 3, none⟩ (.slice q2 x.2.length cc2))) := Lib.hid ((HB2.out.setCell (Nat.le_refl _) _).setCell (Nat.le_refl _) _)
            have HU3 : Hid (SlotUp ((w2.setCell ⟨w.heap.size, 2, none⟩ (.int .i64 x.1)).setCell ⟨w.heap.size, 3, none⟩ (.slice q2 x.2.length cc2)) w.heap.size w.heap.size) := Lib.hid ⟨q2, x.2.length, cc2, cell_in (o := 3) (show ((w2.setCell ⟨w.heap.size, 2, none⟩ (.int .i64 x.1)).setCell ⟨w.heap.size, 3, none⟩ (.slice q2 x.2.length cc2)).heap[w.heap.size]? = some (.cells #[.pointer (some ⟨p, 0, none⟩), .int .i64 at_, .int .i64 x.1, .slice q2 x.2.length cc2, .bool false] 142 (0, 0)) from by rw [heap_setCell _ _ _ _ _ _ _ (heap_setCell _ _ _ _ _ _ _ H1.out)]; rfl) rfl, Hup.out⟩
            clear hkp
            go_roundw
            case rel => exact ⟨k + 1, by omega, by go_num, by rw [Hbest.out]; exact HS3.out, HD3.out, HB3.out, HU3.out⟩
            case measure => simp [intOf]; omega
          · rw [if_neg hgt] at Hbest
            go_wp2
            go_roundw
            case rel => exact ⟨k + 1, by omega, by go_num, by rw [Hbest.out]; exact HS2.out, HD2.out, HB2.out, HU2.out⟩
            case measure => simp [intOf]; omega
        · obtain rfl : k = 2 := by omega
          have hb0 := hB.size
          obtain ⟨q1, cc1, h1, h2⟩ := id hS
          have c2 := cell_in (o := 2) h1 rfl
          have HS := Lib.hid hS
          have HD := Lib.hid hD
          have HB := Lib.hid hB
          clear h1 h2 hS hD hB
          generalize slotBest d at_ 2 = x at Hx c2 HS ⊢
          by_cases hz : x.1 = 0
          · have hz' : (x.1 == 0) = true := by simpa using hz
            rw [if_pos hz] at Hx
            clear hz
            go_wp2
            go_ret2
            rw [Hx.out]
            exact ⟨HD.out, HB.out, .inl ⟨by decide, rfl⟩⟩
          · have hz' : (x.1 == 0) = false := by simpa using hz
            rw [if_neg hz] at Hx
            clear hz
            go_wp2
            go_ret2
            rw [Hx.out]
            exact ⟨HD.out, HB.out, .inr ⟨rfl, _, rfl, HS.out, Nat.le_refl _, HU.out⟩⟩
end Go.Proofs.Ytnficiohnhodiaa
