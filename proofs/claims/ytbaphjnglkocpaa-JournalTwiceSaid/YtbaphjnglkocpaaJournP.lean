import Derived.Test.YtbaphjnglkocpaaJournO
import Derived.Test.YtbaphjnglkocpaaBase
/-
  A nil journal.
-/
namespace Go.Proofs.Ytbaphjnglkocpaa
open Go.RowKit
section
variable (w : World) (v : Value) (k : Int)
theorem jdead_nil : Calls Try.prog 41 #[.pointer none] w fun e w' => e = .returned (.bool true) ∧ w = w' := by
  go_enter Try.func41, Try.ntmps41
  go_wp2
  go_ret
  exact ⟨rfl, rfl⟩
theorem jbooked_nil : Calls Try.prog 44 #[.pointer none] w fun e w' => e = .returned (.int .i64 0) ∧ w = w' := by
  go_enter Try.func44, Try.ntmps44
  go_wp2
  go_ret
  exact ⟨rfl, rfl⟩
theorem jfirst_nil : Calls Try.prog 16 #[.pointer none] w fun e w' => e = .returned (.int .i64 0) ∧ w = w' := by
  go_enter Try.func16, Try.ntmps16
  go_wp2
  go_ret
  exact ⟨rfl, rfl⟩
theorem jnext_nil : Calls Try.prog 15 #[.pointer none] w fun e w' => e = .returned (.int .i64 0) ∧ w = w' := by
  go_enter Try.func15, Try.ntmps15
  go_wp2
  go_ret
  exact ⟨rfl, rfl⟩
theorem jflushed_nil : Calls Try.prog 42 #[.pointer none] w fun e w' => e = .returned (.int .i64 0) ∧ w = w' := by
  go_enter Try.func42, Try.ntmps42
  go_wp2
  go_ret
  exact ⟨rfl, rfl⟩
theorem jfree_nil : Calls Try.prog 13 #[.pointer none] w fun e w' => e = .returned (.int .i64 0) ∧ w = w' := by
  go_enter Try.func13, Try.ntmps13
  go_wp2
  go_ret
  exact ⟨rfl, rfl⟩
theorem jnote_nil : Calls Try.prog 43 #[.pointer none] w fun e w' => e = .returned (.slice none 0 0) ∧ w = w' := by
  go_enter Try.func43, Try.ntmps43
  go_wp2
  go_ret
  exact ⟨rfl, rfl⟩
set_option maxRecDepth 100000 in
theorem jflush_nil : Calls Try.prog 40 #[.pointer none] w fun e w' => e = .returned (.iface 40 (.int .i64 3)) ∧ w = w' := by
  have hm := makeErr 3
  have hd := jdead_nil w
  go_enter Try.func40, Try.ntmps40
  go_wp2_with (go_at_call 41; (with_reducible refine hd.mono ?_); rintro _ _ ⟨rfl, rfl⟩)
  go_ret
  exact ⟨rfl, rfl⟩
set_option maxRecDepth 100000 in
theorem jtrim_nil : Calls Try.prog 14 #[.pointer none, .int .i64 k, v] w fun e w' => e = .returned (.iface 40 (.int .i64 3)) ∧ w = w' := by
  have hm := makeErr 3
  have hd := jdead_nil w
  go_enter Try.func14, Try.ntmps14
  go_wp2_with (go_at_call 41; (with_reducible refine hd.mono ?_); rintro _ _ ⟨rfl, rfl⟩)
  go_ret
  exact ⟨rfl, rfl⟩
theorem jput_nil : Calls Try.prog 51 #[.pointer none, v, .int .i64 k] w fun e w' => e = .returned (.tuple #[.int .i64 0, .iface 40 (.int .i64 3)]) ∧ w = w' := by
  have hm := makeErr 3
  have hd := jdead_nil w
  go_enter Try.func51, Try.ntmps51
  go_wp2_with (go_at_call 41; (with_reducible refine hd.mono ?_); rintro _ _ ⟨rfl, rfl⟩)
  go_ret2
  exact ⟨rfl, rfl⟩
theorem japp_nil : Calls Try.prog 12 #[.pointer none, v] w fun e w' => e = .returned (.tuple #[.int .i64 0, .iface 40 (.int .i64 3)]) ∧ w = w' := by
  have hb := jbooked_nil w
  have hp := jput_nil w v 0
  go_enter Try.func12, Try.ntmps12
  go_wp2_with (first | (go_at_call 44; (with_reducible refine hb.mono ?_); rintro _ _ ⟨rfl, rfl⟩) | (go_at_call 51; (with_reducible refine hp.mono ?_); rintro _ _ ⟨rfl, rfl⟩))
  go_ret2
  exact ⟨rfl, rfl⟩
theorem jspend_nil : Calls Try.prog 18 #[.pointer none, v] w fun e w' => e = .returned (.tuple #[.int .i64 0, .iface 40 (.int .i64 3)]) ∧ w = w' := by
  have hp := jput_nil w v 0
  go_enter Try.func18, Try.ntmps18
  go_wp2_with (go_at_call 51; (with_reducible refine hp.mono ?_); rintro _ _ ⟨rfl, rfl⟩)
  go_ret2
  exact ⟨rfl, rfl⟩
theorem jget_nil : Calls Try.prog 37 #[.pointer none, .int .i64 k] w fun e w' => e = .returned (.tuple #[.slice none 0 0, .iface 40 (.int .i64 6)]) ∧ w = w' := by
  have hm := makeErr 6
  go_enter Try.func37, Try.ntmps37
  go_wp2
  go_ret2
  exact ⟨rfl, rfl⟩
theorem junbook_nil : Calls Try.prog 38 #[.pointer none, .int .i64 k] w fun e w' => e = .returned (.tuple #[]) ∧ w = w' := by
  go_enter Try.func38, Try.ntmps38
  go_wp2
  go_end0
  exact ⟨rfl, rfl⟩
theorem jopen_nil : Calls Try.prog 39 #[.pointer none, .int .i64 0, .int .i64 2] w fun e w' => e = .returned (.tuple #[.pointer none, .iface 40 (.int .i64 1)]) ∧ Below w.heap.size w w' := by
  have hal0 : Below w.heap.size w (w.alloc (.cells #[.pointer none, .int .i64 0, .int .i64 2] 90)) := (Below.refl _ _).alloc (Nat.le_refl _) _
  have hm := makeErr 1
  have hrf := rfits_nil (w := w.alloc (.cells #[.pointer none, .int .i64 0, .int .i64 2] 90)) 0 2
  have Hal := Lib.hid hal0
  clear hal0
  go_enter Try.func39, Try.ntmps39
  go_wp2_with (go_at_call 70; (with_reducible refine hrf.mono ?_); rintro _ w1 ⟨rfl, b1⟩; clear hrf)
  go_ret2
  exact ⟨rfl, Hal.out.trans (b1.mono (by simp))⟩
end
set_option maxRecDepth 100000 in
set_option maxHeartbeats 2000000 in
theorem none_ok (a : Option Addr) (len cap : Nat) (n : Int) (w : World) : Calls Try.prog 7 #[.slice a len cap, .int .i64 n] w fun e w' => e = .returned (.bool true) ∧ Below w.heap.size w w' := by
  have hal := alive_ok w
  have h1 := fun w => japp_nil w (.slice a len cap)
  have h2 := fun w => jspend_nil w (.slice a len cap)
  have h3 := fun w => jget_nil w n
  have h4 := fun w => junbook_nil w n
  have h5 := fun w => jtrim_nil w (.slice a len cap) n
  have q3 := eqErr 3 3 (by decide) (by decide)
  have q6 := eqErr 6 6 (by decide) (by decide)
  have q1 := eqErr 1 1 (by decide) (by decide)
  have m3 := makeErr 3
  have m6 := makeErr 6
  have m1 := makeErr 1
  go_enter Try.func7, Try.ntmps7
  go_wp2_with (first
    | (go_at_call 10; (with_reducible refine hal.mono ?_); rintro _ w1 ⟨rfl, b1⟩; clear hal)
    | (go_at_call 12; (with_reducible refine (h1 _).mono ?_); rintro _ _ ⟨rfl, rfl⟩)
    | (go_at_call 18; (with_reducible refine (h2 _).mono ?_); rintro _ _ ⟨rfl, rfl⟩)
    | (go_at_call 37; (with_reducible refine (h3 _).mono ?_); rintro _ _ ⟨rfl, rfl⟩)
    | (go_at_call 38; (with_reducible refine (h4 _).mono ?_); rintro _ _ ⟨rfl, rfl⟩)
    | (go_at_call 39; (with_reducible refine (jopen_nil _).mono ?_); rintro _ w2 ⟨rfl, b2⟩)
    | (go_at_call 40; (with_reducible refine (jflush_nil _).mono ?_); rintro _ _ ⟨rfl, rfl⟩)
    | (go_at_call 14; (with_reducible refine (h5 _).mono ?_); rintro _ _ ⟨rfl, rfl⟩)
    | (go_at_call 41; (with_reducible refine (jdead_nil _).mono ?_); rintro _ _ ⟨rfl, rfl⟩)
    | (go_at_call 16; (with_reducible refine (jfirst_nil _).mono ?_); rintro _ _ ⟨rfl, rfl⟩)
    | (go_at_call 15; (with_reducible refine (jnext_nil _).mono ?_); rintro _ _ ⟨rfl, rfl⟩)
    | (go_at_call 42; (with_reducible refine (jflushed_nil _).mono ?_); rintro _ _ ⟨rfl, rfl⟩)
    | (go_at_call 43; (with_reducible refine (jnote_nil _).mono ?_); rintro _ _ ⟨rfl, rfl⟩)
    | (go_at_call 13; (with_reducible refine (jfree_nil _).mono ?_); rintro _ _ ⟨rfl, rfl⟩)
    | (go_at_call 44; (with_reducible refine (jbooked_nil _).mono ?_); rintro _ _ ⟨rfl, rfl⟩))
  go_ret
  exact ⟨rfl, b1.trans (b2.mono b1.size)⟩
theorem journalNone_walk (a : Option Addr) (len cap : Nat) (zs : List Int) (n : Int) (w : World) (_ : IsRow .u8 w a len cap zs) (_ : len * 1 ≤ 140737488351232) (_ : (Lit.int .i64 n).wf = true) :
    Calls Try.prog 7 #[.slice a len cap, .int .i64 n] w fun e w' => e = .returned (.bool true) ∧ Below w.heap.size w w' := none_ok a len cap n w
end Go.Proofs.Ytbaphjnglkocpaa
