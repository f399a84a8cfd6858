import Derived.Test.YthohijahpjmhnaaSlotS
import Derived.Deep.RegionHeld
/-
  SlotRows.
-/
namespace Go.Proofs.Ythohijahpjmhnaa
open Go.RowKit
theorem best_blank (size at_ : Int) : slotBest (Dev.new size) at_ 2 = (0, []) := by
  have hb : ∀ k : Int, (Dev.new size).now k = blank := fun _ => rfl
  unfold slotBest slotBest slotBest
  rw [hb, hb, slotRead_blank, slotRead_blank]
  rfl
section
variable {w0 w : World} {p mn ms mc n s : Nat} {d : Dev} {at_ number size : Int} {row new : List UInt8} {v : Value}
theorem open_blank (hD : DB w0 w p mn ms mc (Dev.new size) n) (h0 : 0 ≤ at_) (h1 : at_ < size - 1) :
    Calls Try.prog 13 #[.pointer (some ⟨p, 0, none⟩), .int .i64 at_] w fun e w' => e = .returned (.tuple #[.pointer none, .iface 31 (.int .i64 20)]) ∧ DB w0 w' p mn ms mc (Dev.new size) n ∧ Below w.heap.size w w' := by
  have hx : (Dev.new size).slotOpen at_ = (20, 0, []) := by
    unfold Dev.slotOpen
    rw [if_neg (by simp [fits_true (d := Dev.new size) h0 h1]), if_neg (by simp [Dev.new]), best_blank, if_pos rfl]
  refine (open_any hD at_).mono fun e w' hp => ?_
  rw [hx] at hp
  obtain ⟨hD', hB, hor⟩ := hp
  rcases hor with ⟨_, he⟩ | ⟨h0, _⟩
  · exact ⟨by rw [he]; rfl, hD', hB⟩
  · cases h0
theorem open_range (hD : DB w0 w p mn ms mc d n) (h : fitsB d at_ = false) :
    Calls Try.prog 13 #[.pointer (some ⟨p, 0, none⟩), .int .i64 at_] w fun e w' => e = .returned (.tuple #[.pointer none, .iface 31 (.int .i64 1)]) ∧ DB w0 w' p mn ms mc d n ∧ Below w.heap.size w w' := by
  have hx : d.slotOpen at_ = (1, 0, []) := by unfold Dev.slotOpen; rw [if_pos h]
  refine (open_any hD at_).mono fun e w' hp => ?_
  rw [hx] at hp
  obtain ⟨hD', hB, hor⟩ := hp
  rcases hor with ⟨_, he⟩ | ⟨h0, _⟩
  · exact ⟨by rw [he]; rfl, hD', hB⟩
  · cases h0
theorem format_range' (hD : DB w0 w p mn ms mc d n) (h : fitsB d at_ = false) :
    Calls Try.prog 14 #[.pointer (some ⟨p, 0, none⟩), .int .i64 at_, v] w fun e w' => e = .returned (.tuple #[.pointer none, .iface 31 (.int .i64 1)]) ∧ DB w0 w' p mn ms mc d (n + 3) := by
  refine (format_range (row := []) hD h).mono fun e w' hp => ?_
  have hx : d.slotFormat at_ [] = (1, d) := by unfold Dev.slotFormat; rw [if_pos h]
  rw [hx] at hp
  obtain ⟨hD', _, hor⟩ := hp
  rcases hor with ⟨_, he⟩ | ⟨h0, _⟩
  · exact ⟨by rw [he]; rfl, hD'⟩
  · cases h0
theorem format_long' (hD : DB w0 w p mn ms mc d n) (h : fitsB d at_ = true) (hv : Bytes w v row) (hl : 480 < row.length) :
    Calls Try.prog 14 #[.pointer (some ⟨p, 0, none⟩), .int .i64 at_, v] w fun e w' => e = .returned (.tuple #[.pointer none, .iface 31 (.int .i64 2)]) ∧ DB w0 w' p mn ms mc d (n + 3) := by
  refine (format_long hD h hv hl).mono fun e w' hp => ?_
  have hx : d.slotFormat at_ row = (2, d) := by unfold Dev.slotFormat; rw [if_neg (by simp [h]), if_pos hl]
  rw [hx] at hp
  obtain ⟨hD', _, hor⟩ := hp
  rcases hor with ⟨_, he⟩ | ⟨h0, _⟩
  · exact ⟨by rw [he]; rfl, hD'⟩
  · cases h0
theorem save_long' (hD : DB w0 w p mn ms mc d n) (hS : SlotAt w s p at_ number row false) (hv : Bytes w v new) (h0 : 0 ≤ number) (hm : number < most62) (hl : 480 < new.length) :
    Calls Try.prog 15 #[.pointer (some ⟨s, 0, none⟩), v] w fun e w' => e = .returned (.iface 31 (.int .i64 2)) ∧ DB w0 w' p mn ms mc d (n + 2) := by
  refine (save_long hD hS hv h0 (by omega) hl).mono fun e w' hp => ?_
  have hx : slotSave d at_ number row false new = ⟨2, d, number, row, false⟩ := by unfold slotSave; rw [if_neg (by omega), if_pos hl]
  rw [hx] at hp
  exact ⟨by rw [hp.1]; rfl, hp.2.1⟩
theorem unsynced_none (hD : DB w0 w p mn ms mc d n) (hc : ∀ j, d.chg j = false) :
    Calls Try.prog 37 #[.pointer (some ⟨p, 0, none⟩)] w fun e w' => ∃ q c, e = .returned (.slice q 0 c) ∧ Below w.heap.size w w' :=
  (unsynced_any w p mn ms mc d n hD.lay hD.ok).mono fun _ _ ⟨v, h1, h2, h3⟩ => by
    have hu : d.unsynced = [] := List.eq_nil_iff_forall_not_mem.2 fun k hk => by
      have := (mem_unsynced hD.ok).1 hk
      rw [hc] at this; cases this
    rw [hu] at h2
    obtain ⟨q, c, rfl, _⟩ := (SubRow.of_owns h2).form
    exact ⟨q, c, h1, h3⟩
end
theorem make_481 : ∃ cs : Array Value, ∀ w, (Instr.makeSlice 22 (.int .i64 481) (.int .i64 481)).run Try.prog w = .ok (.slice (some ⟨w.heap.size, 0, none⟩) 481 481) (w.alloc (.cells cs 5)) ∧ Bytes (w.alloc (.cells cs 5)) (.slice (some ⟨w.heap.size, 0, none⟩) 481 481) (List.replicate 481 0) :=
  ⟨_, fun w => ⟨make_zeros 481 (by omega) w, zeros_bytes 481 (by omega) w⟩⟩
set_option maxRecDepth 100000 in
set_option maxHeartbeats 4000000 in
theorem rows_ok (size at_ : Int) (a : Option Addr) (len cap : Nat) (row : List UInt8) (w : World) (hr : Bytes w (.slice a len cap) row) (hrl : row.length = len) (ha : -9223372036854775808 ≤ at_ ∧ at_ ≤ 9223372036854775807) :
    Calls Try.prog 7 #[.int .i64 size, .int .i64 at_, .slice a len cap] w fun e w' => e = .returned (.bool true) ∧ Below w.heap.size w w' := by
  have hal := alive_any w
  have Hr := Lib.hid hr
  clear hr
  by_cases hbad : size < 1 ∨ ¬ size < 1 ∧ 100 < size ∨ ¬ size < 1 ∧ ¬ 100 < size ∧ (4096 : Int) < (len : Int)
  · rcases hbad with h | ⟨h1, h2⟩ | ⟨h1, h2, h3⟩
    all_goals
      go_enter Try.func7, Try.ntmps7
      go_wp2_with (go_at_call 12; (with_reducible refine hal.mono ?_); rintro _ w1 ⟨rfl, hb1⟩; clear hal)
      go_ret
      exact ⟨rfl, hb1⟩
  · have s1 : ¬ size < 1 := by omega
    have s2 : ¬ 100 < size := by omega
    have l3 : ¬ (4096 : Int) < (len : Int) := by omega
    have qe : ∀ (k : Int) w, k ≠ 0 → (binOp .eql 26 (.iface 31 (.int .i64 k)) (.iface 31 (.int .i64 k))).run Try.prog w = .ok (.bool true) w := fun k w hk => by
      have := errEqK w k k hk
      rw [errV_pos hk] at this; simpa using this
    have q1 := fun w => qe 1 w (by decide)
    have q2 := fun w => qe 2 w (by decide)
    have q20 := fun w => qe 20 w (by decide)
    have m1 := makeErr 1
    have m2 := makeErr 2
    have m20 := makeErr 20
    have Hrl := Lib.hid hrl
    clear qe hbad hrl
    have hA1 : ∀ w1, Below w.heap.size w w1 → Calls Try.prog 35 #[.int .i64 size] w1 _ := fun w1 hb => new_db w w1 size (by omega) (by omega) hb
    have HA1 := Lib.hid hA1
    clear hA1
    by_cases hfit : at_ < 0 ∨ ¬ at_ < 0 ∧ size - 1 ≤ at_
    · have Hf : Hid (fitsB (Dev.new size) at_ = false) := Lib.hid (by unfold fitsB; simp; intro h; show size - 1 ≤ at_; omega)
      rcases hfit with h | ⟨h, h'⟩
      all_goals
        go_enter Try.func7, Try.ntmps7
        go_wp2_with (first
          | (go_at_call 12; (with_reducible refine hal.mono ?_); rintro _ w1 ⟨rfl, hb1⟩; clear hal; have hn := HA1.out w1 hb1; clear hb1)
          | (go_at_call 35; (with_reducible refine hn.mono ?_); rintro _ w2 ⟨p, mn, ms, mc, rfl, h2, _, _⟩; clear hn; have ho := open_range h2 Hf.out; clear h2)
          | (go_at_call 13; (with_reducible refine ho.mono ?_); rintro _ w3 ⟨rfl, h3, _⟩; clear ho; have hf := format_range' (v := .slice a len cap) h3 Hf.out; clear h3)
          | (go_at_call 14; (with_reducible refine hf.mono ?_); rintro _ w4 ⟨rfl, h4⟩; clear hf))
        go_ret
        exact ⟨rfl, h4.bel⟩
    · have a0 : ¬ at_ < 0 := by omega
      have a1 : ¬ size - 1 ≤ at_ := by omega
      have Hat : Hid (0 ≤ at_ ∧ at_ < size - 1) := Lib.hid (by omega)
      by_cases hlong : (480 : Int) < (len : Int)
      · have Hll : Hid (480 < row.length) := Lib.hid (by rw [Hrl.out]; omega)
        go_enter Try.func7, Try.ntmps7
        go_wp2_with (first
          | (go_at_call 12; (with_reducible refine hal.mono ?_); rintro _ w1 ⟨rfl, hb1⟩; clear hal; have hn := HA1.out w1 hb1; clear hb1)
          | (go_at_call 35; (with_reducible refine hn.mono ?_); rintro _ w2 ⟨p, mn, ms, mc, rfl, h2, _, _⟩; clear hn; have ho := open_blank h2 Hat.out.1 Hat.out.2; clear h2)
          | (go_at_call 13; (with_reducible refine ho.mono ?_); rintro _ w3 ⟨rfl, h3, _⟩; clear ho; have hf := format_long' h3 (fits_true (d := Dev.new size) Hat.out.1 Hat.out.2) (Hr.out.below h3.bel) Hll.out; clear h3)
          | (go_at_call 14; (with_reducible refine hf.mono ?_); rintro _ w4 ⟨rfl, h4⟩; clear hf; have hst := steps_db h4; rw [show (Dev.new size).steps = 0 from rfl] at hst)
          | (go_at_call 36; (with_reducible refine hst.mono ?_); rintro _ _ ⟨rfl, rfl⟩; clear hst))
        go_ret
        exact ⟨rfl, h4.bel⟩
      · have Hll : Hid (row.length ≤ 480) := Lib.hid (by rw [Hrl.out]; omega)
        obtain ⟨cs, hmk⟩ := make_481
        have hmk1 := fun w => (hmk w).1
        have Hmk := Lib.hid (fun w => (hmk w).2)
        clear hmk
        go_enter Try.func7, Try.ntmps7
        go_upto_region 14 with (first
          | (go_at_call 12; (with_reducible refine hal.mono ?_); rintro _ w1 ⟨rfl, hb1⟩; clear hal; have hn := HA1.out w1 hb1; clear hb1)
          | (go_at_call 35; (with_reducible refine hn.mono ?_); rintro _ w2 ⟨p, mn, ms, mc, rfl, h2, _, _⟩; clear hn; have ho := open_blank h2 Hat.out.1 Hat.out.2; clear h2)
          | (go_at_call 13; (with_reducible refine ho.mono ?_); rintro _ w3 ⟨rfl, h3, _⟩; clear ho; have hf := format_live h3 (by omega) (Live.new size) Hat.out.1 Hat.out.2 (Hr.out.below h3.bel) Hll.out; clear h3)
          | (go_at_call 14; (with_reducible refine hf.mono ?_); rintro _ w4 ⟨s, d4, rfl, h4, c4, _, _, g4, S4, _, _⟩; clear hf))
        have bd : Below w4.heap.size w4 w4.drew := (Below.refl _ _).drew
        have Hr4 := Lib.hid ((Hr.out.below h4.bel).below bd)
        have hr := row_form (S4.below bd) (by have := Hll.out; omega)
        have HS4 := Lib.hid (S4.below bd)
        have H4 := Lib.hid (h4.below bd)
        have kA := conv_bytes Hr4.out
        have G4 := Lib.hid g4
        have C4 := Lib.hid c4
        have sbt : (strB row).toList = (strB row).toList := rfl
        clear sbt h4 c4 g4 S4 bd
        generalize hst : strB row = st at kA hr
        have Hst := Lib.hid hst
        clear hst
        go_region_held (fun w' => (convert 22 9 (.slice a len cap)).run Try.prog w' = .ok (.string st) w')
          (first | exact kA | exact kA5 | exact KA6.out | exact kA7 | exact kA8)
          (first
            | (go_at_call 16; (with_reducible refine hr.mono ?_); rintro _ w5 ⟨q5, m5, cc5, rfl, _, k5, b5⟩; clear hr; have Hr5 := Lib.hid (Hr4.out.below b5); have kA5 := conv_bytes Hr5.out; rw [Hst.out] at kA5; have HS5 := Lib.hid (HS4.out.below b5); have H5 := Lib.hid (H4.out.below b5); have hnu := number_any HS5.out; have hsv := save_long' (H5.out.below ((Below.refl _ _).alloc (Nat.le_refl _) (.cells cs 5))) (HS5.out.below ((Below.refl _ _).alloc (Nat.le_refl _) (.cells cs 5))) (Hmk.out w5) (by decide) (by decide) (by rw [List.length_replicate]; omega); have KA6 : Hid ((convert 22 9 (.slice a len cap)).run Try.prog (w5.alloc (.cells cs 5)) = .ok (.string st) (w5.alloc (.cells cs 5))) := Lib.hid (by rw [← Hst.out]; exact conv_bytes (Hr5.out.alloc _)); have Hr6 := Lib.hid (Hr5.out.alloc (.cells cs 5)); clear b5)
            | (go_at_call 17; (with_reducible refine hnu.mono ?_); rintro _ _ ⟨rfl, rfl⟩)
            | (go_at_call 15; (with_reducible refine hsv.mono ?_); rintro _ w7 ⟨rfl, h7⟩; clear hsv; have kA7 := conv_bytes (Hr.out.below h7.bel); rw [Hst.out] at kA7; have hun := unsynced_none h7 G4.out)
            | (go_at_call 37; (with_reducible refine hun.mono ?_); rintro _ w8 ⟨q8, c8, rfl, b8⟩; clear hun; have kA8 := conv_bytes ((Hr.out.below h7.bel).below b8); rw [Hst.out] at kA8))
        go_wp2
        go_ret
        exact ⟨rfl, h7.bel.trans (b8.mono h7.bel.size)⟩
theorem slotRows_walk (size at_ : Int) (a : Option Addr) (len cap : Nat) (zs : List Int) (w : World) (_ : (Lit.int .i64 size).wf = true) (ha : (Lit.int .i64 at_).wf = true) (hz : IsRow .u8 w a len cap zs) (_ : len * 1 ≤ 140737488351232) :
    Calls Try.prog 7 #[.int .i64 size, .int .i64 at_, .slice a len cap] w fun e w' => e = .returned (.bool true) ∧ Below w.heap.size w w' := by
  obtain ⟨l, hl, hb⟩ := bytes_of_row hz
  exact rows_ok size at_ a len cap l w hb hl (int_wf ha)
end Go.Proofs.Ythohijahpjmhnaa
