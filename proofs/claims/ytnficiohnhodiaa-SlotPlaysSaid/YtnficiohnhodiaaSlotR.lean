import Derived.Test.YtnficiohnhodiaaSlotQ
import Derived.Test.YtnficiohnhodiaaBase
/-
  The statements' fixed fact; SlotNone.
-/
namespace Go.Proofs.Ytnficiohnhodiaa
open Go.RowKit
theorem toList_one (b : UInt8) : (ByteArray.mk #[b]).toList = [b] := ByteArray.toList_mk [b]
theorem Live.new (size : Int) : Live (Dev.new size) := ⟨rfl, rfl⟩
set_option maxRecDepth 100000 in
set_option maxHeartbeats 4000000 in
theorem alive_any (w : World) : Calls Try.prog 33 #[] w fun e w' => e = .returned (.bool true) ∧ Below w.heap.size w w' := by
  have hn := new_db w w 4 (by decide) (by decide) (Below.refl _ _)
  have kc := fun (w : World) (C : Array Value) (n c : Nat) => Lib.run_convert_bytes_const (P := Try.prog) w 52 5 C n c Try.underlying52 Try.underlying5
  have al := fun (w : World) (o : Obj) => (Below.refl w.heap.size w).alloc (Nat.le_refl _) o
  have Al := Lib.hid al
  clear al
  have sb := strB_toList [99]
  go_enter Try.func33, Try.ntmps33
  go_wp2_with (first
    | (go_at_call 22; (with_reducible refine hn.mono ?_); rintro _ w1 ⟨p, mn, ms, mc, rfl, h1, _, _⟩; clear hn; have hf := format_live (h1.below (Al.out w1 (.cells #[.int .u8 97] 5 (1, 2)))) (by omega) (Live.new 4) (at_ := 0) (by decide) (by decide) (lit_one w1 97 5 (1, 2)) (by simp); have lo1 := Nat.le_trans h1.bel.size (Al.out w1 (.cells #[.int .u8 97] 5 (1, 2))).size; clear h1)
    | (go_at_call 60; (with_reducible refine hf.mono ?_); rintro _ w2 ⟨s, d2, rfl, h2, c2, _, _, _, S2, l2, k2⟩; clear hf; have lo2 := Lib.hid (Nat.le_trans lo1 l2); have hs1 := save_ok' (h2.below (Al.out w2 (.cells #[.int .u8 98] 5 (1, 2)))) (by omega) c2 (S2.below (Al.out w2 (.cells #[.int .u8 98] 5 (1, 2)))) lo2.out (by decide) (lit_one w2 98 5 (1, 2)) (by simp); clear h2 c2 S2 l2 k2 lo1)
    | (go_at_call 61; (with_reducible refine hs1.mono ?_); rintro _ w3 ⟨rfl, d3, h3, c3, S3, _⟩; clear hs1; have hs2 := save_ok' (h3.below (Al.out w3 (.cells #[.int .u8 99] 5 (1, 2)))) (by omega) c3 (S3.below (Al.out w3 (.cells #[.int .u8 99] 5 (1, 2)))) lo2.out (by decide) (lit_one w3 99 5 (1, 2)) (by simp); clear h3 c3 S3)
    | (go_at_call 61; (with_reducible refine hs2.mono ?_); rintro _ w4 ⟨rfl, d4, h4, c4, S4, _⟩; clear hs2; have ho := open_ok h4 c4; clear h4 c4)
    | (go_at_call 62; (with_reducible refine ho.mono ?_); rintro _ w5 ⟨s5, rfl, h5, T5, _, b5⟩; clear ho; have S5 := S4.below b5; clear S4 b5; have hnu := number_any T5)
    | (go_at_call 63; (with_reducible refine hnu.mono ?_); rintro _ _ ⟨rfl, rfl⟩; clear hnu; have hr1 := row_form T5 (by simp); clear T5)
    | (go_at_call 64; (with_reducible refine hr1.mono ?_); rintro _ w6 ⟨q6, m6, cc6, rfl, _, k6, b6⟩; clear hr1; have hr2 := row_form (S5.below b6) (by simp); have h6 := h5.below b6; clear S5 h5 b6)
    | (go_at_call 64; (with_reducible refine hr2.mono ?_); rintro _ w7 ⟨q7, m7, cc7, rfl, _, k7, b7⟩; clear hr2; have h7 := h6.below b7; clear h6 b7))
  go_ret
  exact ⟨rfl, h7.bel⟩
end Go.Proofs.Ytnficiohnhodiaa
