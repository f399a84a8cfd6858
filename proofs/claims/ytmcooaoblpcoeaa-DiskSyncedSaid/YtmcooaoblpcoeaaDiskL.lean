import Derived.Test.YtmcooaoblpcoeaaDiskJa
/-
  DiskNone: what a nil device answers.
-/
namespace Go.Proofs.Ytmcooaoblpcoeaa
open Go.RowKit
def Alive : Prop := ∀ w, Calls Try.prog 9 #[] w fun e w' => e = .returned (.bool true) ∧ Below w.heap.size w w'
theorem size_nil (w : World) : Calls Try.prog 29 #[.pointer none] w fun e w' => e = .returned (.int .i64 0) ∧ w = w' := by
  go_enter Try.func29, Try.ntmps29
  go_wp2
  go_ret
  exact ⟨rfl, rfl⟩
theorem steps_nil (w : World) : Calls Try.prog 19 #[.pointer none] w fun e w' => e = .returned (.int .i64 0) ∧ w = w' := by
  go_enter Try.func19, Try.ntmps19
  go_wp2
  go_ret
  exact ⟨rfl, rfl⟩
theorem syncs_nil (w : World) : Calls Try.prog 26 #[.pointer none] w fun e w' => e = .returned (.int .i64 0) ∧ w = w' := by
  go_enter Try.func26, Try.ntmps26
  go_wp2
  go_ret
  exact ⟨rfl, rfl⟩
theorem down_nil (w : World) : Calls Try.prog 27 #[.pointer none] w fun e w' => e = .returned (.bool false) ∧ w = w' := by
  go_enter Try.func27, Try.ntmps27
  go_wp2
  go_ret
  exact ⟨rfl, rfl⟩
theorem unsynced_nil (w : World) : Calls Try.prog 18 #[.pointer none] w fun e w' => e = .returned (.slice none 0 0) ∧ w = w' := by
  go_enter Try.func18, Try.ntmps18
  go_wp2
  go_ret
  exact ⟨rfl, rfl⟩
theorem sync_nil (w : World) : Calls Try.prog 15 #[.pointer none] w fun e w' => e = .returned (errV 3) ∧ w = w' := by
  have hm := makeErr 3
  rw [errV_pos (by decide)]
  go_enter Try.func15, Try.ntmps15
  go_wp2
  go_ret
  exact ⟨rfl, rfl⟩
theorem arm_nil (n : Int) (w : World) : Calls Try.prog 30 #[.pointer none, .int .i64 n] w fun e w' => e = .returned (errV 1) ∧ w = w' := by
  have hm := makeErr 1
  rw [errV_pos (by decide)]
  go_enter Try.func30, Try.ntmps30
  go_wp2
  go_ret
  exact ⟨rfl, rfl⟩
theorem read_nil (n : Int) (w : World) : Calls Try.prog 17 #[.pointer none, .int .i64 n] w fun e w' => e = .returned (.tuple #[.slice none 0 0, errV 1]) ∧ w = w' := by
  have hm := makeErr 1
  rw [errV_pos (by decide)]
  by_cases h0 : n < 0
  · go_enter Try.func17, Try.ntmps17
    go_wp2
    go_ret2
    exact ⟨rfl, rfl⟩
  · have h1 : 0 ≤ n := by omega
    go_enter Try.func17, Try.ntmps17
    go_wp2_with (go_at_call 29; (with_reducible refine (size_nil _).mono ?_); rintro _ _ ⟨rfl, rfl⟩)
    go_ret2
    exact ⟨rfl, rfl⟩
theorem write_nil (n : Int) (v : Value) (w : World) : Calls Try.prog 13 #[.pointer none, .int .i64 n, v] w fun e w' => e = .returned (errV 1) ∧ w = w' := by
  have hm := makeErr 1
  rw [errV_pos (by decide)]
  by_cases h0 : n < 0
  · go_enter Try.func13, Try.ntmps13
    go_wp2
    go_ret
    exact ⟨rfl, rfl⟩
  · have h1 : 0 ≤ n := by omega
    go_enter Try.func13, Try.ntmps13
    go_wp2_with (go_at_call 29; (with_reducible refine (size_nil _).mono ?_); rintro _ _ ⟨rfl, rfl⟩)
    go_ret
    exact ⟨rfl, rfl⟩
set_option maxRecDepth 100000 in
set_option maxHeartbeats 4000000 in
theorem diskNone_of (hal : Alive) (a n : Int) (w : World) : Calls Try.prog 8 #[.int .i64 a, .int .i64 n] w fun e w' => e = .returned (.bool true) ∧ Below w.heap.size w w' := by
  have hal := hal w
  have q1 : ∀ w, (binOp .eql 28 (.iface 45 (.int .i64 1)) (.iface 45 (.int .i64 1))).run Try.prog w = .ok (.bool true) w := fun w => errEqK w 1 1 (by decide)
  have q3 : ∀ w, (binOp .eql 28 (.iface 45 (.int .i64 3)) (.iface 45 (.int .i64 3))).run Try.prog w = .ok (.bool true) w := fun w => errEqK w 3 3 (by decide)
  have hm1 := makeErr 1
  have hm3 := makeErr 3
  go_enter Try.func8, Try.ntmps8
  go_wp2_with (first
    | (go_at_call 9; (with_reducible refine hal.mono ?_); rintro _ w1 ⟨rfl, hb1⟩; clear hal)
    | (go_at_call 17; (with_reducible refine (read_nil _ _).mono ?_); rintro _ _ ⟨rfl, rfl⟩; rw [errV_pos (by decide)])
    | (go_at_call 16; (with_reducible refine (crash_nil _ _).mono ?_); rintro _ _ ⟨rfl, rfl⟩)
    | (go_at_call 14; (with_reducible refine (full_any _ _).mono ?_); rintro _ w2 ⟨g, m, rfl, hs, hb2⟩)
    | (go_at_call 13; (with_reducible refine (write_nil _ _ _).mono ?_); rintro _ _ ⟨rfl, rfl⟩; rw [errV_pos (by decide)])
    | (go_at_call 15; (with_reducible refine (sync_nil _).mono ?_); rintro _ _ ⟨rfl, rfl⟩; rw [errV_pos (by decide)])
    | (go_at_call 30; (with_reducible refine (arm_nil _ _).mono ?_); rintro _ _ ⟨rfl, rfl⟩; rw [errV_pos (by decide)])
    | (go_at_call 29; (with_reducible refine (size_nil _).mono ?_); rintro _ _ ⟨rfl, rfl⟩)
    | (go_at_call 19; (with_reducible refine (steps_nil _).mono ?_); rintro _ _ ⟨rfl, rfl⟩)
    | (go_at_call 26; (with_reducible refine (syncs_nil _).mono ?_); rintro _ _ ⟨rfl, rfl⟩)
    | (go_at_call 27; (with_reducible refine (down_nil _).mono ?_); rintro _ _ ⟨rfl, rfl⟩)
    | (go_at_call 18; (with_reducible refine (unsynced_nil _).mono ?_); rintro _ _ ⟨rfl, rfl⟩))
  go_ret
  refine ⟨rfl, ?_⟩
  have k1 := hb1.alloc (w := w1) (o := .cells #[.int .i64 a] 3) hb1.size
  exact (k1.trans (hb2.mono (by have := hb1.size; simp; omega))).alloc (by have := hb1.size; have := hb2.size; simp at this; omega) _
end Go.Proofs.Ytmcooaoblpcoeaa
