import Derived.Test.YthohijahpjmhnaaSlotQ
import Derived.Test.YthohijahpjmhnaaBase
/-
  The statements' fixed fact; SlotNone.
-/
namespace Go.Proofs.Ythohijahpjmhnaa
open Go.RowKit
theorem toList_one (b : UInt8) : (ByteArray.mk #[b]).toList = [b] := ByteArray.toList_mk [b]
theorem Live.new (size : Int) : Live (Dev.new size) := ⟨rfl, rfl⟩
set_option maxRecDepth 100000 in
set_option maxHeartbeats 4000000 in
theorem alive_any (w : World) : Calls Try.prog 12 #[] w fun e w' => e = .returned (.bool true) ∧ Below w.heap.size w w' := by
  have hn := new_db w w 4 (by decide) (by decide) (Below.refl _ _)
  have kc := fun (w : World) (C : Array Value) (n c : Nat) => Lib.run_convert_bytes_const (P := Try.prog) w 22 5 C n c Try.underlying22 Try.underlying5
  have al := fun (w : World) (o : Obj) => (Below.refl w.heap.size w).alloc (Nat.le_refl _) o
  have Al := Lib.hid al
  clear al
  have sb := strB_toList [99]
  go_enter Try.func12, Try.ntmps12
  go_wp2_with (first
    | (go_at_call 35; (with_reducible refine hn.mono ?_); rintro _ w1 ⟨p, mn, ms, mc, rfl, h1, _, _⟩; clear hn; have hf := format_live (h1.below (Al.out w1 (.cells #[.int .u8 97] 5 (1, 2)))) (by omega) (Live.new 4) (at_ := 0) (by decide) (by decide) (lit_one w1 97 5 (1, 2)) (by simp); have lo1 := Nat.le_trans h1.bel.size (Al.out w1 (.cells #[.int .u8 97] 5 (1, 2))).size; clear h1)
    | (go_at_call 14; (with_reducible refine hf.mono ?_); rintro _ w2 ⟨s, d2, rfl, h2, c2, _, _, _, S2, l2, k2⟩; clear hf; have lo2 := Lib.hid (Nat.le_trans lo1 l2); have hs1 := save_ok' (h2.below (Al.out w2 (.cells #[.int .u8 98] 5 (1, 2)))) (by omega) c2 (S2.below (Al.out w2 (.cells #[.int .u8 98] 5 (1, 2)))) lo2.out (by decide) (lit_one w2 98 5 (1, 2)) (by simp); clear h2 c2 S2 l2 k2 lo1)
    | (go_at_call 15; (with_reducible refine hs1.mono ?_); rintro _ w3 ⟨rfl, d3, h3, c3, S3, _⟩; clear hs1; have hs2 := save_ok' (h3.below (Al.out w3 (.cells #[.int .u8 99] 5 (1, 2)))) (by omega) c3 (S3.below (Al.out w3 (.cells #[.int .u8 99] 5 (1, 2)))) lo2.out (by decide) (lit_one w3 99 5 (1, 2)) (by simp); clear h3 c3 S3)
    | (go_at_call 15; (with_reducible refine hs2.mono ?_); rintro _ w4 ⟨rfl, d4, h4, c4, S4, _⟩; clear hs2; have ho := open_ok h4 c4; clear h4 c4)
    | (go_at_call 13; (with_reducible refine ho.mono ?_); rintro _ w5 ⟨s5, rfl, h5, T5, _, b5⟩; clear ho; have S5 := S4.below b5; clear S4 b5; have hnu := number_any T5)
    | (go_at_call 17; (with_reducible refine hnu.mono ?_); rintro _ _ ⟨rfl, rfl⟩; clear hnu; have hr1 := row_form T5 (by simp); clear T5)
    | (go_at_call 16; (with_reducible refine hr1.mono ?_); rintro _ w6 ⟨q6, m6, cc6, rfl, _, k6, b6⟩; clear hr1; have hr2 := row_form (S5.below b6) (by simp); have h6 := h5.below b6; clear S5 h5 b6)
    | (go_at_call 16; (with_reducible refine hr2.mono ?_); rintro _ w7 ⟨q7, m7, cc7, rfl, _, k7, b7⟩; clear hr2; have h7 := h6.below b7; clear h6 b7))
  go_ret
  exact ⟨rfl, h7.bel⟩
set_option maxRecDepth 100000 in
set_option maxHeartbeats 1000000 in
theorem slotNone_walk (a : Option Addr) (len cap : Nat) (zs : List Int) (at_ : Int) (w : World) (_ : IsRow .u8 w a len cap zs) (_ : len * 1 ≤ 140737488351232) (_ : (Lit.int .i64 at_).wf = true) :
    Calls Try.prog 3 #[.slice a len cap, .int .i64 at_] w fun e w' => e = .returned (.bool true) ∧ Below w.heap.size w w' := by
  have hal := alive_any w
  have q3 : ∀ w, (binOp .eql 26 (.iface 31 (.int .i64 3)) (.iface 31 (.int .i64 3))).run Try.prog w = .ok (.bool true) w := fun w => errEqK w 3 3 (by decide)
  have q1 : ∀ w, (binOp .eql 26 (.iface 31 (.int .i64 1)) (.iface 31 (.int .i64 1))).run Try.prog w = .ok (.bool true) w := fun w => errEqK w 1 1 (by decide)
  have m1 := makeErr 1
  have m3 := makeErr 3
  have e3 : errV 3 = .iface 31 (.int .i64 3) := errV_pos (by decide)
  have e1 : errV 1 = .iface 31 (.int .i64 1) := errV_pos (by decide)
  go_enter Try.func3, Try.ntmps3
  go_wp2_with (first
    | (go_at_call 12; (with_reducible refine hal.mono ?_); rintro _ w1 ⟨rfl, hb1⟩; clear hal)
    | (go_at_call 13; (with_reducible refine (open_nil _ _).mono ?_); rintro _ _ ⟨rfl, rfl⟩; rw [e1])
    | (go_at_call 14; (with_reducible refine (format_nil _ _ _).mono ?_); rintro _ _ ⟨rfl, rfl⟩; rw [e1])
    | (go_at_call 15; (with_reducible refine (save_nil _ _).mono ?_); rintro _ _ ⟨rfl, rfl⟩; rw [e3])
    | (go_at_call 16; (with_reducible refine (row_nil _).mono ?_); rintro _ _ ⟨rfl, rfl⟩)
    | (go_at_call 17; (with_reducible refine (number_nil _).mono ?_); rintro _ _ ⟨rfl, rfl⟩))
  go_ret
  exact ⟨rfl, hb1⟩
end Go.Proofs.Ythohijahpjmhnaa
