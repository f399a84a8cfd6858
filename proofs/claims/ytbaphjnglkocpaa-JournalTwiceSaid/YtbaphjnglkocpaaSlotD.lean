import Derived.Test.YtbaphjnglkocpaaSlotC
/-
  Slots: Save.
-/
namespace Go.Proofs.Ytbaphjnglkocpaa
open Go.RowKit
structure SaveR where
  err : Int
  dev : Dev
  number : Int
  row : List UInt8
  dead : Bool
def slotSave (d : Dev) (at_ number : Int) (row : List UInt8) (dead : Bool) (new : List UInt8) : SaveR :=
  if most62 ≤ number then ⟨2, d, number, row, dead⟩
  else if 480 < new.length then ⟨2, d, number, row, dead⟩
  else if dead = true then ⟨3, d, number, row, dead⟩
  else if (d.write (at_ + (number + 1) % 2) (secOf (number + 1) new)).1 ≠ 0 then ⟨(d.write (at_ + (number + 1) % 2) (secOf (number + 1) new)).1, (d.write (at_ + (number + 1) % 2) (secOf (number + 1) new)).2, number, row, true⟩
  else if (d.write (at_ + (number + 1) % 2) (secOf (number + 1) new)).2.sync.1 ≠ 0 then ⟨(d.write (at_ + (number + 1) % 2) (secOf (number + 1) new)).2.sync.1, (d.write (at_ + (number + 1) % 2) (secOf (number + 1) new)).2.sync.2, number, row, true⟩
  else ⟨0, (d.write (at_ + (number + 1) % 2) (secOf (number + 1) new)).2.sync.2, number + 1, new, false⟩
def SFoot (p mn ms mc s : Nat) (k : Nat) : Prop := DFoot p mn ms mc k ∨ k = s
def SavePost (w0 w : World) (p mn ms mc s : Nat) (at_ : Int) (n : Nat) (x : SaveR) (e : Ending) (w' : World) : Prop :=
  e = .returned (errV x.err) ∧ DB w0 w' p mn ms mc x.dev n ∧ SlotAt w' s p at_ x.number x.row x.dead ∧ Keeps (SFoot p mn ms mc s) w w'
theorem save_nil (w : World) (v : Value) : Calls Try.prog 52 #[.pointer none, v] w fun e w' => e = .returned (errV 3) ∧ w = w' := by
  have hm := makeErr 3
  rw [errV_pos (by decide)]
  go_enter Try.func52, Try.ntmps52
  go_wp2
  go_ret
  exact ⟨rfl, rfl⟩
section
variable {w0 w : World} {p mn ms mc s n : Nat} {d : Dev} {at_ number : Int} {row new : List UInt8} {dead : Bool} {v : Value}
set_option maxRecDepth 100000 in
theorem save_high (hD : DB w0 w p mn ms mc d n) (hS : SlotAt w s p at_ number row dead) (h : most62 ≤ number) : Calls Try.prog 52 #[.pointer (some ⟨s, 0, none⟩), v] w (SavePost w0 w p mn ms mc s at_ (n + 2) (slotSave d at_ number row dead new)) := by
  have hm := makeErr 2
  have Hx : Hid (slotSave d at_ number row dead new = ⟨2, d, number, row, dead⟩) := Lib.hid (by unfold slotSave; rw [if_pos h])
  have HS := Lib.hid hS
  have HD := Lib.hid hD
  unfold most62 at h
  obtain ⟨q, c, h1, _⟩ := hS
  have c2 := cell_in (o := 2) h1 rfl
  clear h1 hD
  go_enter Try.func52, Try.ntmps52
  go_wp2
  go_ret
  rw [Hx.out]
  exact ⟨rfl, HD.out.more (by omega), HS.out, Keeps.refl _ _⟩
set_option maxRecDepth 100000 in
theorem save_long (hD : DB w0 w p mn ms mc d n) (hS : SlotAt w s p at_ number row dead) (hv : Bytes w v new) (h0 : 0 ≤ number) (h : ¬ most62 ≤ number) (hl : 480 < new.length) : Calls Try.prog 52 #[.pointer (some ⟨s, 0, none⟩), v] w (SavePost w0 w p mn ms mc s at_ (n + 2) (slotSave d at_ number row dead new)) := by
  have hsec := sector_long (number + 1) hv hl
  rw [errV_pos (by decide)] at hsec
  have Hx : Hid (slotSave d at_ number row dead new = ⟨2, d, number, row, dead⟩) := Lib.hid (by unfold slotSave; rw [if_neg h, if_pos hl])
  have HS := Lib.hid hS
  have HD := Lib.hid hD
  unfold most62 at h
  obtain ⟨q, c, h1, _⟩ := hS
  have c2 := cell_in (o := 2) h1 rfl
  clear h1 hD hv
  go_enter Try.func52, Try.ntmps52
  go_wp2_with (go_at_call 87; (with_reducible refine hsec.mono ?_); rintro _ _ ⟨rfl, rfl⟩)
  go_ret
  rw [Hx.out]
  exact ⟨rfl, HD.out.more (by omega), HS.out, Keeps.refl _ _⟩
set_option maxRecDepth 100000 in
theorem save_dead (hD : DB w0 w p mn ms mc d n) (hS : SlotAt w s p at_ number row true) (hv : Bytes w v new) (h0 : 0 ≤ number) (h : ¬ most62 ≤ number) (hl : new.length ≤ 480) : Calls Try.prog 52 #[.pointer (some ⟨s, 0, none⟩), v] w (SavePost w0 w p mn ms mc s at_ (n + 2) (slotSave d at_ number row true new)) := by
  have hm := makeErr 3
  have Hx : Hid (slotSave d at_ number row true new = ⟨3, d, number, row, true⟩) := Lib.hid (by unfold slotSave; rw [if_neg h, if_neg (by omega), if_pos rfl])
  unfold most62 at h
  have hsec := sector_ok (n := number + 1) (by unfold int64; omega) hv hl
  have HS := Lib.hid hS
  have HD := Lib.hid hD
  obtain ⟨q, c, h1, _⟩ := hS
  have c2 := cell_in (o := 2) h1 rfl
  clear h1 hD hv
  go_enter Try.func52, Try.ntmps52
  go_upto_region 8 with (go_at_call 87; (with_reducible refine hsec.mono ?_); rintro _ w1 ⟨g, rfl, hg, hb1, b1⟩)
  have HS1 := Lib.hid (HS.out.below b1)
  have HD1 := Lib.hid (HD.out.below b1)
  have Hb1 := Lib.hid b1
  obtain ⟨q1, c1, h1, _⟩ := HS1.out
  have c4 := cell_in (o := 4) h1 rfl
  clear h1 hb1 hg c2 b1 hsec
  go_wp2
  go_ret
  rw [Hx.out]
  exact ⟨rfl, HD1.out.more (by omega), HS1.out, Keeps.of_below Hb1.out⟩
end
end Go.Proofs.Ytbaphjnglkocpaa
