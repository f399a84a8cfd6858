import Derived.Test.YtnficiohnhodiaaSlotC
/-
  Slots: Save.
-/
namespace Go.Proofs.Ytnficiohnhodiaa
open Go.RowKit
structure SaveR where
  err : Int
  dev : Dev
  number : Int
  row : List UInt8
  dead : Bool
def slotSave (d : Dev) (at_ number : Int) (row : List UInt8) (dead : Bool) (new : List UInt8) : SaveR :=
  if most62 ≤ number then ⟨2, d, number, row, dead⟩
  else if 480 < new.length then ⟨2, d, number, row, dead⟩
  else if dead = true then ⟨3, d, number, row, dead⟩
  else if (d.write (at_ + (number + 1) % 2) (secOf (number + 1) new)).1 ≠ 0 then ⟨(d.write (at_ + (number + 1) % 2) (secOf (number + 1) new)).1, (d.write (at_ + (number + 1) % 2) (secOf (number + 1) new)).2, number, row, true⟩
  else if (d.write (at_ + (number + 1) % 2) (secOf (number + 1) new)).2.sync.1 ≠ 0 then ⟨(d.write (at_ + (number + 1) % 2) (secOf (number + 1) new)).2.sync.1, (d.write (at_ + (number + 1) % 2) (secOf (number + 1) new)).2.sync.2, number, row, true⟩
  else ⟨0, (d.write (at_ + (number + 1) % 2) (secOf (number + 1) new)).2.sync.2, number + 1, new, false⟩
def SFoot (p mn ms mc s : Nat) (k : Nat) : Prop := DFoot p mn ms mc k ∨ k = s
theorem Bytes.ltS {w : World} {v : Value} {l : List UInt8} (h : Bytes w v l) (h0 : l ≠ []) (k : Nat) (e : v.ownBlock = some k) : k < w.heap.size := by
  obtain ⟨q, cap, rfl, _, _, h3⟩ := h
  cases l with
  | nil => exact absurd rfl h0
  | cons b l =>
    obtain ⟨a, rfl, hc⟩ := h3 0 b rfl
    have e2 : a.block = k := by cases e; rfl
    rw [← e2]
    have h4 : (a.add 0).block = a.block := by unfold Addr.add; split <;> rfl
    rw [← h4]
    unfold World.cell? at hc
    cases hx : w.heap[(a.add 0).block]? with
    | none => rw [hx] at hc; simp at hc
    | some o => exact (Array.getElem?_eq_some_iff.1 hx).1
/-- the row of the slots lies in no block of F -/
def SlotOff (w : World) (F : Nat → Prop) (s : Nat) : Prop := ∃ q n c, w.cell? ⟨s, 3, none⟩ = some (.slice q n c) ∧ (n ≠ 0 → ∀ k, (Value.slice q n c).ownBlock = some k → ¬ F k)
theorem SlotOff.keeps {S F : Nat → Prop} {w w' : World} {s : Nat} (h : SlotOff w F s) (hk : Keeps S w w') (hs : ¬ S s) : SlotOff w' F s := by
  obtain ⟨q, n, c, h1, h2⟩ := h
  exact ⟨q, n, c, hk.cell h1 hs, h2⟩
theorem SlotOff.below {F : Nat → Prop} {w w' : World} {s : Nat} (h : SlotOff w F s) (hb : Below w.heap.size w w') : SlotOff w' F s := h.keeps (S := fun _ => False) (Keeps.of_below hb) (fun e => e)
theorem SlotUp.off {w : World} {C s : Nat} (h : SlotUp w C s) {F : Nat → Prop} (hF : ∀ k, F k → k < C) : SlotOff w F s := by
  obtain ⟨q, n, c, h1, h2⟩ := h
  exact ⟨q, n, c, h1, fun _ k e e' => Nat.lt_irrefl _ (Nat.lt_of_lt_of_le (hF k e') (h2 k e))⟩
/-- new blocks hold no row that was there -/
theorem SlotOff.more {w : World} {F G : Nat → Prop} {s p : Nat} {at_ number : Int} {row : List UInt8} {dead : Bool} (h : SlotOff w F s) (hS : SlotAt w s p at_ number row dead) (hG : ∀ k, G k → w.heap.size ≤ k) : SlotOff w (fun k => F k ∨ G k) s := by
  obtain ⟨q, n, c, h1, h2⟩ := h
  obtain ⟨q', c', h3, h4⟩ := hS
  have h5 := cell_in (o := 3) h3 rfl
  rw [h1] at h5
  injection h5 with h5
  injection h5 with e1 e2 e3
  subst e1; subst e2; subst e3
  exact ⟨q, _, c, h1, fun hn k e => by
    rintro (e' | e')
    · exact h2 hn k e e'
    · exact Nat.lt_irrefl _ (Nat.lt_of_lt_of_le (h4.ltS (fun e => hn (by rw [e]; rfl)) k e) (hG k e'))⟩
/-- what changes but blocks of F, keeps the slots -/
theorem SlotAt.off {w w' : World} {F : Nat → Prop} {s p : Nat} {at_ number : Int} {row : List UInt8} {dead : Bool} (h : SlotAt w s p at_ number row dead) (ho : SlotOff w F s) (hk : Keeps F w w') (hs : ¬ F s) : SlotAt w' s p at_ number row dead := by
  obtain ⟨q', c', h3, h4⟩ := h
  obtain ⟨q, n, c, h1, h2⟩ := ho
  have h5 := cell_in (o := 3) h3 rfl
  rw [h1] at h5
  injection h5 with h5
  injection h5 with e1 e2 e3
  subst e1; subst e2; subst e3
  refine ⟨q, c, hk.at h3 hs, ?_⟩
  cases row with
  | nil => obtain ⟨q2, cap, e, a, b, _⟩ := h4; exact ⟨q2, cap, e, a, b, fun j x hb => by simp at hb⟩
  | cons x l => exact h4.keeps hk (h2 (by simp))
def SavePost (w0 w : World) (p mn ms mc s : Nat) (at_ : Int) (n : Nat) (x : SaveR) (e : Ending) (w' : World) : Prop :=
  e = .returned (errV x.err) ∧ DB w0 w' p mn ms mc x.dev n ∧ SlotAt w' s p at_ x.number x.row x.dead ∧ Keeps (SFoot p mn ms mc s) w w' ∧ ∀ F : Nat → Prop, (∀ k, F k → k < w.heap.size) → SlotOff w F s → SlotOff w' F s
theorem save_nil (w : World) (v : Value) : Calls Try.prog 61 #[.pointer none, v] w fun e w' => e = .returned (errV 3) ∧ w = w' := by
  have hm := makeErr 3
  rw [errV_pos (by decide)]
  go_enter Try.func61, Try.ntmps61
  go_wp2
  go_ret
  exact ⟨rfl, rfl⟩
section
variable {w0 w : World} {p mn ms mc s n : Nat} {d : Dev} {at_ number : Int} {row new : List UInt8} {dead : Bool} {v : Value}
set_option maxRecDepth 100000 in
theorem save_high (hD : DB w0 w p mn ms mc d n) (hS : SlotAt w s p at_ number row dead) (h : most62 ≤ number) : Calls Try.prog 61 #[.pointer (some ⟨s, 0, none⟩), v] w (SavePost w0 w p mn ms mc s at_ (n + 2) (slotSave d at_ number row dead new)) := by
  have hm := makeErr 2
  have Hx : Hid (slotSave d at_ number row dead new = ⟨2, d, number, row, dead⟩) := Lib.hid (by unfold slotSave; rw [if_pos h])
  have HS := Lib.hid hS
  have HD := Lib.hid hD
  unfold most62 at h
  obtain ⟨q, c, h1, _⟩ := hS
  have c2 := cell_in (o := 2) h1 rfl
  clear h1 hD
  go_enter Try.func61, Try.ntmps61
  go_wp2
  go_ret
  rw [Hx.out]
  exact ⟨rfl, HD.out.more (by omega), HS.out, Keeps.refl _ _, fun _ _ h => h⟩
set_option maxRecDepth 100000 in
theorem save_long (hD : DB w0 w p mn ms mc d n) (hS : SlotAt w s p at_ number row dead) (hv : Bytes w v new) (h0 : 0 ≤ number) (h : ¬ most62 ≤ number) (hl : 480 < new.length) : Calls Try.prog 61 #[.pointer (some ⟨s, 0, none⟩), v] w (SavePost w0 w p mn ms mc s at_ (n + 2) (slotSave d at_ number row dead new)) := by
  have hsec := sector_long (number + 1) hv hl
  rw [errV_pos (by decide)] at hsec
  have Hx : Hid (slotSave d at_ number row dead new = ⟨2, d, number, row, dead⟩) := Lib.hid (by unfold slotSave; rw [if_neg h, if_pos hl])
  have HS := Lib.hid hS
  have HD := Lib.hid hD
  unfold most62 at h
  obtain ⟨q, c, h1, _⟩ := hS
  have c2 := cell_in (o := 2) h1 rfl
  clear h1 hD hv
  go_enter Try.func61, Try.ntmps61
  go_wp2_with (go_at_call 84; (with_reducible refine hsec.mono ?_); rintro _ _ ⟨rfl, rfl⟩)
  go_ret
  rw [Hx.out]
  exact ⟨rfl, HD.out.more (by omega), HS.out, Keeps.refl _ _, fun _ _ h => h⟩
set_option maxRecDepth 100000 in
theorem save_dead (hD : DB w0 w p mn ms mc d n) (hS : SlotAt w s p at_ number row true) (hv : Bytes w v new) (h0 : 0 ≤ number) (h : ¬ most62 ≤ number) (hl : new.length ≤ 480) : Calls Try.prog 61 #[.pointer (some ⟨s, 0, none⟩), v] w (SavePost w0 w p mn ms mc s at_ (n + 2) (slotSave d at_ number row true new)) := by
  have hm := makeErr 3
  have Hx : Hid (slotSave d at_ number row true new = ⟨3, d, number, row, true⟩) := Lib.hid (by unfold slotSave; rw [if_neg h, if_neg (by omega), if_pos rfl])
  unfold most62 at h
  have hsec := sector_ok (n := number + 1) (by unfold int64; omega) hv hl
  have HS := Lib.hid hS
  have HD := Lib.hid hD
  obtain ⟨q, c, h1, _⟩ := hS
  have c2 := cell_in (o := 2) h1 rfl
  clear h1 hD hv
  go_enter Try.func61, Try.ntmps61
  go_upto_region 8 with (go_at_call 84; (with_reducible refine hsec.mono ?_); rintro _ w1 ⟨g, rfl, hg, hb1, b1⟩)
  have HS1 := Lib.hid (HS.out.below b1)
  have HD1 := Lib.hid (HD.out.below b1)
  have Hb1 := Lib.hid b1
  obtain ⟨q1, c1, h1, _⟩ := HS1.out
  have c4 := cell_in (o := 4) h1 rfl
  clear h1 hb1 hg c2 b1 hsec
  go_wp2
  go_ret
  rw [Hx.out]
  exact ⟨rfl, HD1.out.more (by omega), HS1.out, Keeps.of_below Hb1.out, fun _ _ h => h.below Hb1.out⟩
end
end Go.Proofs.Ytnficiohnhodiaa
