import Derived.Test.YtnficiohnhodiaaRwH
import Derived.Test.YtnficiohnhodiaaSlotF
import Derived.Deep.RegionHeld3
/-
  The document's slots: how they lie; Save.
-/
namespace Go.Proofs.Ytnficiohnhodiaa
open Go.RowKit
/-- the document's slots in block t over the device in block b; the row lies in no block of F -/
def RSlotAt (w : World) (t b : Nat) (F : Nat → Prop) (at_ number : Int) (row : List UInt8) (dead : Bool) : Prop :=
  ∃ q c, w.heap[t]? = some (.cells #[.pointer (some ⟨b, 0, none⟩), .int .i64 at_, .int .i64 number, .slice q row.length c, .bool dead] 130 (0, 0)) ∧ Bytes w (.slice q row.length c) row ∧ (row ≠ [] → ∀ k, (Value.slice q row.length c).ownBlock = some k → ¬ F k) ∧ ¬ F t
section
variable {w w' : World} {t b : Nat} {F : Nat → Prop} {at_ number : Int} {row : List UInt8} {dead : Bool}
theorem RSlotAt.keeps {S : Nat → Prop} (h : RSlotAt w t b F at_ number row dead) (hk : Keeps S w w') (hS : ∀ k, S k → F k) : RSlotAt w' t b F at_ number row dead := by
  obtain ⟨q, c, h1, h2, h3, h4⟩ := h
  exact ⟨q, c, hk.at h1 (fun e => h4 (hS t e)), h2.keeps_ne hk (fun e k e' e'' => h3 e k e' (hS k e'')), h3, h4⟩
theorem RSlotAt.below (h : RSlotAt w t b F at_ number row dead) (hb : Below w.heap.size w w') : RSlotAt w' t b F at_ number row dead := h.keeps (S := fun _ => False) (Keeps.of_below hb) (fun _ e => e.elim)
theorem RSlotAt.more {G : Nat → Prop} (h : RSlotAt w t b F at_ number row dead) (hG : ∀ k, G k → w.heap.size ≤ k) : RSlotAt w t b (fun k => F k ∨ G k) at_ number row dead := by
  obtain ⟨q, c, h1, h2, h3, h4⟩ := h
  refine ⟨q, c, h1, h2, fun hn k e => ?_, ?_⟩
  · rintro (e' | e')
    · exact h3 hn k e e'
    · exact Nat.lt_irrefl _ (Nat.lt_of_lt_of_le (h2.ltS hn k e) (hG k e'))
  · rintro (e' | e')
    · exact h4 e'
    · exact Nat.lt_irrefl _ (Nat.lt_of_lt_of_le (lt_of h1) (hG t e'))
theorem RSlotAt.less {G : Nat → Prop} (h : RSlotAt w t b F at_ number row dead) (hG : ∀ k, G k → F k) : RSlotAt w t b G at_ number row dead := by
  obtain ⟨q, c, h1, h2, h3, h4⟩ := h
  exact ⟨q, c, h1, h2, fun hn k e e' => h3 hn k e (hG k e'), fun e => h4 (hG t e)⟩
theorem RSlotAt.no_byte (h : RSlotAt w t b F at_ number row dead) {a : Addr} {x : UInt8} (hc : w.cell? a = some (byteV x)) : a.block ≠ t := by
  obtain ⟨q, c, h1, _⟩ := h
  intro e
  exact cells_byte hc (e ▸ h1) (by simp)
theorem RSlotAt.cells3 (h : RSlotAt w t b F at_ number row dead) : Cells3 t b at_ number w := by
  obtain ⟨q, c, h1, _⟩ := h
  exact ⟨cell_in h1 rfl, cell_in h1 rfl, cell_in h1 rfl⟩
end
def RSavePost (w : World) (B : Nat) (A : RAd) (d : Dev) (L : Int) (t : Nat) (F : Nat → Prop) (at_ : Int) (x : SaveR) (e : Ending) (w' : World) : Prop :=
  e = .returned (.int .i64 x.err) ∧ (∃ L', L - 2 ≤ L' ∧ L' ≤ L ∧ RefAt w' B A x.dev L') ∧ RSlotAt w' t A.b F at_ x.number x.row x.dead ∧ Keeps (fun k => A.S k ∨ k = t) w w' ∧ Avoids A w w' B d x.dev (fun k => w.heap.size ≤ k)
section
variable {w : World} {B t n : Nat} {A : RAd} {d : Dev} {L at_ number : Int} {row new : List UInt8} {dead : Bool} {F : Nat → Prop} {v : Value}
theorem Avoids.refl : Avoids A w w B d d (fun k => w.heap.size ≤ k) := fun _ _ _ h1 h2 => ⟨h1, h2⟩
set_option maxRecDepth 100000 in
theorem rsave_high (h : RefAt w B A d L) (hS : RSlotAt w t A.b F at_ number row dead) (hm : most62 ≤ number) : Calls Try.prog 67 #[.pointer (some ⟨t, 0, none⟩), v] w (RSavePost w B A d L t F at_ (slotSave d at_ number row dead new)) := by
  have Hx : Hid (slotSave d at_ number row dead new = ⟨2, d, number, row, dead⟩) := Lib.hid (by unfold slotSave; rw [if_pos hm])
  have HS := Lib.hid hS
  have H := Lib.hid h
  unfold most62 at hm
  obtain ⟨_, _, c2⟩ := hS.cells3
  clear hS h
  go_enter Try.func67, Try.ntmps67
  go_wp2
  go_ret
  rw [Hx.out]
  exact ⟨rfl, ⟨L, by omega, by omega, H.out⟩, HS.out, Keeps.refl _ _, Avoids.refl⟩
set_option maxRecDepth 100000 in
theorem rsave_long (h : RefAt w B A d L) (hS : RSlotAt w t A.b F at_ number row dead) (h0 : 0 ≤ number) (hm : ¬ most62 ≤ number) (hv : Bytes w v new) (hl : 480 < new.length) : Calls Try.prog 67 #[.pointer (some ⟨t, 0, none⟩), v] w (RSavePost w B A d L t F at_ (slotSave d at_ number row dead new)) := by
  have hsec := rsector_long (number + 1) hv hl
  have Hx : Hid (slotSave d at_ number row dead new = ⟨2, d, number, row, dead⟩) := Lib.hid (by unfold slotSave; rw [if_neg hm, if_pos hl])
  have HS := Lib.hid hS
  have H := Lib.hid h
  unfold most62 at hm
  obtain ⟨_, _, c2⟩ := hS.cells3
  clear hS h hv
  go_enter Try.func67, Try.ntmps67
  go_wp2_with (go_at_call 87; (with_reducible refine hsec.mono ?_); rintro _ _ ⟨rfl, rfl⟩)
  go_ret
  rw [Hx.out]
  exact ⟨rfl, ⟨L, by omega, by omega, H.out⟩, HS.out, Keeps.refl _ _, Avoids.refl⟩
set_option maxRecDepth 100000 in
theorem rsave_dead (h : RefAt w B A d L) (hS : RSlotAt w t A.b F at_ number row true) (h0 : 0 ≤ number) (hm : ¬ most62 ≤ number) (hv : Bytes w v new) (hl : new.length ≤ 480) : Calls Try.prog 67 #[.pointer (some ⟨t, 0, none⟩), v] w (RSavePost w B A d L t F at_ (slotSave d at_ number row true new)) := by
  have Hx : Hid (slotSave d at_ number row true new = ⟨3, d, number, row, true⟩) := Lib.hid (by unfold slotSave; rw [if_neg hm, if_neg (by omega), if_pos rfl])
  have HS := Lib.hid hS
  have H := Lib.hid h
  unfold most62 at hm
  have hsec := rsector_ok (n := number + 1) (by omega) (by omega) hv hl
  obtain ⟨_, _, c2⟩ := hS.cells3
  clear hS h hv
  go_enter Try.func67, Try.ntmps67
  go_upto_region 6 with (go_at_call 87; (with_reducible refine hsec.mono ?_); rintro _ w1 ⟨v1, rfl, s1, b1⟩)
  have HS1 := Lib.hid (HS.out.below b1)
  have H1 := Lib.hid (H.out.below b1)
  have Hb1 := Lib.hid b1
  obtain ⟨q1, c1, h1, _⟩ := HS1.out
  have c4 := cell_in (o := 4) h1 rfl
  clear h1 s1 c2 b1 hsec
  go_wp2
  go_ret
  rw [Hx.out]
  exact ⟨rfl, ⟨L, by omega, by omega, H1.out⟩, HS1.out, Keeps.of_below Hb1.out, Avoids.refl.below Hb1.out⟩
end
end Go.Proofs.Ytnficiohnhodiaa
