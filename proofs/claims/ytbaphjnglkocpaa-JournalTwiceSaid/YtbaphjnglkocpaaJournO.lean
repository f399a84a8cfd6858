import Derived.Test.YtbaphjnglkocpaaJournN
/-
  The journal's laws: the chapter's example.
-/
namespace Go.Proofs.Ytbaphjnglkocpaa
open Go.RowKit
theorem make_468 : ∃ cs : Array Value, ∀ w, (Instr.makeSlice 39 (.int .i64 468) (.int .i64 468)).run Try.prog w = .ok (.slice (some ⟨w.heap.size, 0, none⟩) 468 468) (w.alloc (.cells cs 5)) ∧ Bytes (w.alloc (.cells cs 5)) (.slice (some ⟨w.heap.size, 0, none⟩) 468 468) (List.replicate 468 0) := make_n 468 (by omega)
theorem make_469 : ∃ cs : Array Value, ∀ w, (Instr.makeSlice 39 (.int .i64 469) (.int .i64 469)).run Try.prog w = .ok (.slice (some ⟨w.heap.size, 0, none⟩) 469 469) (w.alloc (.cells cs 5)) ∧ Bytes (w.alloc (.cells cs 5)) (.slice (some ⟨w.heap.size, 0, none⟩) 469 469) (List.replicate 469 0) := make_n 469 (by omega)
def exM1 : JM := (JM.new 1 2).add (List.replicate 468 0)
theorem exM1_at0 : exM1.at0 1 = 470 := by
  have h1 : exM1.recs.take 1 = [List.replicate 468 0] := by unfold exM1 JM.add JM.new; rw [List.nil_append, List.take_succ_cons, List.take_nil]
  have h2 : exM1.pre = [] := rfl
  unfold JM.at0
  rw [h1, h2, recsB_one, recB_len, List.length_replicate, List.length_nil]
theorem exM1_stream : exM1.stream.length = 470 := by
  unfold exM1
  rw [JM.add_stream, List.length_append, recB_len, List.length_replicate]; rfl
def exM2 (g : Int → Int) (num : Int) : JM := (exM1.flushed' g).cutTo 1 2 [120] num false
theorem exM2_free (g : Int → Int) (num : Int) : (exM2 g num).free = 940 := by
  unfold exM2
  rw [free_cut]
  show 2 * 470 - (exM1.stream.length : Int) + ((0 * 470 + (exM1.at0 1 : Int)) / 470 - 0) * 470 = 940
  rw [exM1_at0, exM1_stream]
  decide
theorem exM2_recs (g : Int → Int) (num : Int) : (exM2 g num).recs = [] := by
  show List.drop 1 ((JM.new 1 2).recs ++ [List.replicate 468 0]) = []
  rfl
theorem neErr (a k : Int) (ha : a ≠ 0) (hk : k ≠ 0) (w : World) : (binOp .neq 27 (.iface 40 (.int .i64 a)) (.iface 40 (.int .i64 k))).run Try.prog w = .ok (.bool (a != k)) w := by
  have := errNeK w a k hk
  rwa [errV_pos ha] at this
theorem eqErr (a k : Int) (ha : a ≠ 0) (hk : k ≠ 0) (w : World) : (binOp .eql 27 (.iface 40 (.int .i64 a)) (.iface 40 (.int .i64 k))).run Try.prog w = .ok (.bool (a == k)) w := by
  have := errEqK w a k hk
  rwa [errV_pos ha] at this
set_option maxRecDepth 100000 in
set_option maxHeartbeats 2000000 in
theorem alive_ok (w : World) : Calls Try.prog 10 #[] w fun e w' => e = .returned (.bool true) ∧ Below w.heap.size w w' := by
  obtain ⟨c8, hk8⟩ := make_468
  obtain ⟨c9, hk9⟩ := make_469
  have hm8 := fun w => (hk8 w).1
  have hm9 := fun w => (hk9 w).1
  have Hk8 := Lib.hid (fun w => (hk8 w).2)
  have Hk9 := Lib.hid (fun w => (hk9 w).2)
  have hm5 := makeErr 5
  have kc0 := fun (w : World) (C : Array Value) (n c : Nat) => Lib.run_convert_bytes_const (P := Try.prog) w 39 5 C n c Try.underlying39 Try.underlying5
  have kc1 := fun w => kc0 w #[.int .u8 120] 1 1
  have kc2 := fun w => kc0 w #[.int .u8 97] 1 1
  clear kc0
  have hne := neErr 5 5 (by decide) (by decide)
  have hnw := new_db w w 8 (by omega) (by omega) (Below.refl _ _)
  clear hk8 hk9
  go_enter Try.func10, Try.ntmps10
  go_upto_region 7 with (first
    | (go_at_call 20; (with_reducible refine hnw.mono ?_); rintro _ w1 ⟨p, mn, ms, mc, rfl, h1, b1, _⟩; clear hnw; have hfm := jformat_live (at_ := 1) (n := 2) h1 (by omega) ⟨rfl, rfl⟩ (by omega) (by omega) (by omega) (by show (1 : Int) ≤ 8 - 2 - 2; omega); clear h1 b1)
    | (go_at_call 50; (with_reducible refine hfm.mono ?_); rintro _ w2 ⟨A, d1, rfl, _, h2, fr2, _, _⟩; clear hfm; have hfr := jfree_any h2.at_ h2.ok; rw [show (JM.new 1 2).free = 940 from rfl] at hfr; have H2 := Lib.hid h2; have Hfr2 := Lib.hid fr2; clear h2 fr2)
    | (go_at_call 13; (with_reducible refine hfr.mono ?_); rintro _ w3 ⟨rfl, b3⟩; clear hfr; have H3 := Lib.hid (H2.out.below b3); clear b3 H2))
  have e1 : (JM.new 1 2).put (List.replicate 468 0) 0 = (1, 0, exM1) := put_add rfl (by rw [List.length_replicate]; omega) (by rw [List.length_replicate]; omega) (by rw [List.length_replicate]; show (468 : Nat) + (2 : Int) ≤ 2 * 470 - (0 : Nat) - 0; omega)
  have hap1 := japp_new H3.out (by omega) (List.length_replicate) (Hk8.out w3) (Nat.le_refl _) e1
  rw [errV_zero] at hap1
  go_upto_region 8 with (go_at_call 12; (with_reducible refine hap1.mono ?_); rintro _ w4 ⟨rfl, A4, h4, _, E4⟩; clear hap1)
  have e2 : exM1.put (List.replicate 469 0) 0 = (0, 5, exM1) := put_full rfl (by rw [List.length_replicate]; omega) (by rw [List.length_replicate]; omega) (by rw [List.length_replicate]; unfold JM.free; rw [exM1_stream]; show (2 : Int) * 470 - (470 : Nat) - 0 < (469 : Nat) + 2; omega)
  have hap2 := japp_new h4 (by omega) (List.length_replicate) (Hk9.out w4) (Nat.le_refl _) e2
  rw [E4.2.2.2.2, errV_pos (by decide)] at hap2
  clear H3
  go_upto_region 9 with (go_at_call 12; (with_reducible refine hap2.mono ?_); rintro _ w5 ⟨rfl, A5, h5, _, E5⟩; clear hap2)
  have hfr2 := jfree_any h5.at_ h5.ok
  rw [show exM1.free = 470 from by unfold JM.free; rw [exM1_stream]; rfl, E5.2.2.2.2] at hfr2
  have H5 := Lib.hid h5
  have hflu : ∀ w6, Below w5.heap.size w5 w6 → Calls Try.prog 40 #[.pointer (some ⟨A.j, 0, none⟩)] w6 fun e w' => e = .returned .nilIface ∧ ∃ d7 g7, JB w w' A5 d7 (exM1.flushed' g7) 6002 ∧ Live d7 := fun w6 b6 => by
    obtain ⟨d7, g7, ef, hl7, hs7⟩ := flush_live H5.out.ok Hfr2.out.live rfl
    have := jflush_any (H5.out.below b6) (by omega)
    rw [E5.2.2.2.2] at this
    refine this.mono fun e w' hp => ?_
    rw [ef] at hp
    exact ⟨hp.1, d7, g7, hp.2.1, hl7⟩
  have htr : ∀ w7 d7 g7, JB w w7 A5 d7 (exM1.flushed' g7) 6002 → Live d7 → Calls Try.prog 14 #[.pointer (some ⟨A.j, 0, none⟩), .int .i64 2, .slice (some ⟨w7.heap.size, 0, none⟩) 1 1] (w7.alloc (.cells #[.int .u8 120] 5 (1, 2))) fun e w' => e = .returned .nilIface ∧ ∃ A8 d8 g8 num8, JB w w' A8 d8 (exM2 g8 num8) 10002 ∧ Live d8 ∧ A8.j = A.j := fun w7 d7 g7 h7 hl7 => by
    obtain ⟨d8, g8, num8, et, hl8, _⟩ := trim_live h7.ok (by omega) hl7 rfl rfl (lsn := 2) (note := [120]) (by show (1 : Int) ≤ 2; omega) (by show (2 : Int) ≤ 1 + ((0 + 1 : Nat) : Int); omega) (by simp)
    have hal : Below w7.heap.size w7 (w7.alloc (.cells #[.int .u8 120] 5 (1, 2))) := (Below.refl _ _).alloc (Nat.le_refl _) _
    have := jtrim_any (lsn := 2) (h7.below hal) (by omega) (lit_one w7 120 5 (1, 2)) (fun _ k e => (h7.new (by cases e; exact Nat.le_refl _)).1)
    rw [E5.2.2.2.2] at this
    refine this.mono fun e w' hp => ?_
    rw [et] at hp
    obtain ⟨he, A8, h8, _, hE⟩ := hp
    exact ⟨he, A8, d8, g8, num8, h8, hl8, by rw [hE.2.2.2.2, E5.2.2.2.2]⟩
  clear h5 h4
  go_upto_region 11 with (first
    | (go_at_call 13; (with_reducible refine hfr2.mono ?_); rintro _ w6 ⟨rfl, b6⟩; clear hfr2; have hflu1 := hflu w6 b6; clear hflu b6)
    | (go_at_call 40; (with_reducible refine hflu1.mono ?_); rintro _ w7 ⟨rfl, d7, g7, h7, l7⟩; clear hflu1; have htr1 := htr w7 d7 g7 h7 l7; clear htr h7)
    | (go_at_call 14; (with_reducible refine htr1.mono ?_); rintro _ w8 ⟨rfl, A8, d8, g8, num8, h8, l8, E8⟩; clear htr1; have hfr3 := jfree_any h8.at_ h8.ok; rw [exM2_free, E8] at hfr3; have H8 := Lib.hid h8; clear h8)
    | (go_at_call 13; (with_reducible refine hfr3.mono ?_); rintro _ w9 ⟨rfl, b9⟩; clear hfr3; have H9 := Lib.hid (H8.out.below b9); clear b9))
  have e3 : (exM2 g8 num8).put [97] (exM2 g8 num8).booked = (2, 0, (exM2 g8 num8).add [97]) := put_add rfl (by simp) (by simp) (by rw [exM2_free]; show (1 : Nat) + (2 : Int) ≤ 940 - 0; omega)
  have hap3 := japp_new H9.out (by omega) (o := .cells #[.int .u8 97] 5 (1, 2)) (n := 1) rfl (lit_one w9 97 5 (1, 2)) (Nat.le_refl _) e3
  rw [E8, errV_zero] at hap3
  go_upto_region 12 with (go_at_call 12; (with_reducible refine hap3.mono ?_); rintro _ w10 ⟨rfl, A10, h10, _, E10⟩; clear hap3)
  have hj : A10.j = A.j := E10.2.2.2.2
  have sb := strB_toList [120]
  have hfi := jfirst_any h10.at_
  have hnx := jnext_any h10.at_ h10.ok (by omega)
  have H10 := Lib.hid h10
  rw [show ((exM2 g8 num8).add [97]).first = 2 from rfl, hj] at hfi
  rw [show ((exM2 g8 num8).add [97]).next = 3 from by show (2 : Int) + (((exM2 g8 num8).recs ++ [[97]]).length : Int) = 3; rw [exM2_recs]; rfl, hj] at hnx
  have hnt : ∀ w11, Below w10.heap.size w10 w11 → Calls Try.prog 43 #[.pointer (some ⟨A.j, 0, none⟩)] w11 fun e w' => ∃ q k, e = .returned (.slice q 1 k) ∧ (convert 39 9 (.slice q 1 k)).run Try.prog w' = .ok (.string (strB [120])) w' ∧ Below w11.heap.size w11 w' := fun w11 b11 => by
    have := jnote_any (H10.out.below b11)
    rw [hj] at this
    exact this.mono fun e w' ⟨q, k, he, hs, hb⟩ => ⟨q, k, he, conv_bytes (Bytes.of_sub hs), hb⟩
  clear h10 H9
  go_wp2_with (first
    | (go_at_call 16; (with_reducible refine hfi.mono ?_); rintro _ _ ⟨rfl, rfl⟩)
    | (go_at_call 15; (with_reducible refine hnx.mono ?_); rintro _ w11 ⟨rfl, b11⟩; have hnt1 := hnt w11 b11)
    | (go_at_call 43; (with_reducible refine hnt1.mono ?_); rintro _ w12 ⟨q12, k12, rfl, hc12, b12⟩))
  go_ret
  exact ⟨rfl, ((H10.out.below b11).below b12).db.bel⟩
end Go.Proofs.Ytbaphjnglkocpaa
