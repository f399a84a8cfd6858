import Derived.Test.YtkoopbaopidpnaaLockT
/-
  LockNone: what a nil table answers.
-/
namespace Go.Proofs.Ytkoopbaopidpnaa
open Go.RowKit
theorem take_nil (a b c : Int) (w : World) : Calls Try.prog 13 #[.pointer none, .int .i64 a, .int .i64 b, .int .i64 c] w fun e w' => e = .returned (errV (if c < 1 ∨ 3 < c then 2 else 15)) ∧ w = w' := by
  by_cases h1 : c < 1
  · rw [if_pos (.inl h1)]
    go_enter Try.func13, Try.ntmps13
    go_wp2
    go_ret
    exact ⟨rfl, rfl⟩
  · by_cases h3 : 3 < c
    · rw [if_pos (.inr h3)]
      go_enter Try.func13, Try.ntmps13
      go_wp2
      go_ret
      exact ⟨rfl, rfl⟩
    · rw [if_neg (by omega)]
      go_enter Try.func13, Try.ntmps13
      go_wp2
      go_ret
      exact ⟨rfl, rfl⟩
theorem release_nil (a : Int) (w : World) : Calls Try.prog 12 #[.pointer none, .int .i64 a] w fun e w' => e = .returned (.int .i64 0) ∧ w = w' := by
  go_enter Try.func12, Try.ntmps12
  go_wp2
  go_ret
  exact ⟨rfl, rfl⟩
theorem holds_nil (a b : Int) (w : World) : Calls Try.prog 17 #[.pointer none, .int .i64 a, .int .i64 b] w fun e w' => e = .returned (.int .i64 0) ∧ w = w' := by
  go_enter Try.func17, Try.ntmps17
  go_wp2
  go_ret
  exact ⟨rfl, rfl⟩
theorem len_nil (w : World) : Calls Try.prog 16 #[.pointer none] w fun e w' => e = .returned (.int .i64 0) ∧ w = w' := by
  go_enter Try.func16, Try.ntmps16
  go_wp2
  go_ret
  exact ⟨rfl, rfl⟩
theorem holders_nil (a : Int) (w : World) : Calls Try.prog 18 #[.pointer none, .int .i64 a] w fun e w' => e = .returned (.slice none 0 0) ∧ w = w' := by
  go_enter Try.func18, Try.ntmps18
  go_wp2
  go_ret
  exact ⟨rfl, rfl⟩
theorem waits_nil (a : Int) (w : World) : Calls Try.prog 14 #[.pointer none, .int .i64 a] w fun e w' => e = .returned (.slice none 0 0) ∧ w = w' := by
  go_enter Try.func14, Try.ntmps14
  go_wp2
  go_ret
  exact ⟨rfl, rfl⟩
theorem box_cells {w w1 : World} {v0 v1 v2 v3 : Value} {T : Nat} (hb : Below (w.alloc (.cells #[v0, v1, v2, v3] T)).heap.size (w.alloc (.cells #[v0, v1, v2, v3] T)) w1) :
    w1.cell? ⟨w.heap.size, 0, none⟩ = some v0 ∧ w1.cell? ⟨w.heap.size, 1, none⟩ = some v1 ∧ w1.cell? ⟨w.heap.size, 2, none⟩ = some v2 ∧ w1.cell? ⟨w.heap.size, 3, none⟩ = some v3 := by
  have h := (hb.block w.heap.size (by simp)).trans (heap_alloc_new w (.cells #[v0, v1, v2, v3] T))
  exact ⟨cell_in h rfl, cell_in h rfl, cell_in h rfl, cell_in h rfl⟩
set_option maxRecDepth 100000 in
set_option maxHeartbeats 4000000 in
theorem lockNone_low (k txn page mode : Int) (w : World) (h1 : mode < 1) :
    Calls Try.prog 8 #[.agg #[.int .i64 k, .int .i64 txn, .int .i64 page, .int .i64 mode]] w fun e w' => e = .returned (.bool true) ∧ Below w.heap.size w w' := by
  have hal := alive_any (w.alloc (.cells #[.int .i64 k, .int .i64 txn, .int .i64 page, .int .i64 mode] 27))
  have q2 : ∀ w, (binOp .eql 30 (errV 2) (.iface 32 (.int .i64 2))).run Try.prog w = .ok (.bool true) w := fun w => errEqK w 2 2 (by decide)
  have q15 : ∀ w, (binOp .eql 30 (errV 15) (.iface 32 (.int .i64 15))).run Try.prog w = .ok (.bool true) w := fun w => errEqK w 15 15 (by decide)
  rw [errV_pos (by decide)] at q2 q15
  have ht := take_nil txn page mode
  rw [if_pos (.inl h1), errV_pos (by decide)] at ht
  go_enter Try.func8, Try.ntmps8
  go_wp2_with (first
    | (go_at_call 10; (with_reducible refine hal.mono ?_); rintro _ w1 ⟨rfl, hb1⟩; clear hal; obtain ⟨c0, c1, c2, c3⟩ := box_cells hb1)
    | (go_at_call 13; (with_reducible refine (ht _).mono ?_); rintro _ _ ⟨rfl, rfl⟩)
    | (go_at_call 12; (with_reducible refine (release_nil _ _).mono ?_); rintro _ _ ⟨rfl, rfl⟩)
    | (go_at_call 17; (with_reducible refine (holds_nil _ _ _).mono ?_); rintro _ _ ⟨rfl, rfl⟩)
    | (go_at_call 18; (with_reducible refine (holders_nil _ _).mono ?_); rintro _ _ ⟨rfl, rfl⟩)
    | (go_at_call 14; (with_reducible refine (waits_nil _ _).mono ?_); rintro _ _ ⟨rfl, rfl⟩)
    | (go_at_call 16; (with_reducible refine (len_nil _).mono ?_); rintro _ _ ⟨rfl, rfl⟩))
  go_ret
  exact ⟨rfl, ((Below.refl _ _).alloc (Nat.le_refl _) _).trans (hb1.mono (by simp))⟩
set_option maxRecDepth 100000 in
set_option maxHeartbeats 4000000 in
theorem lockNone_high (k txn page mode : Int) (w : World) (h1 : ¬ mode < 1) (h3 : 3 < mode) :
    Calls Try.prog 8 #[.agg #[.int .i64 k, .int .i64 txn, .int .i64 page, .int .i64 mode]] w fun e w' => e = .returned (.bool true) ∧ Below w.heap.size w w' := by
  have hal := alive_any (w.alloc (.cells #[.int .i64 k, .int .i64 txn, .int .i64 page, .int .i64 mode] 27))
  have q2 : ∀ w, (binOp .eql 30 (errV 2) (.iface 32 (.int .i64 2))).run Try.prog w = .ok (.bool true) w := fun w => errEqK w 2 2 (by decide)
  have q15 : ∀ w, (binOp .eql 30 (errV 15) (.iface 32 (.int .i64 15))).run Try.prog w = .ok (.bool true) w := fun w => errEqK w 15 15 (by decide)
  rw [errV_pos (by decide)] at q2 q15
  have ht := take_nil txn page mode
  rw [if_pos (.inr h3), errV_pos (by decide)] at ht
  go_enter Try.func8, Try.ntmps8
  go_wp2_with (first
    | (go_at_call 10; (with_reducible refine hal.mono ?_); rintro _ w1 ⟨rfl, hb1⟩; clear hal; obtain ⟨c0, c1, c2, c3⟩ := box_cells hb1)
    | (go_at_call 13; (with_reducible refine (ht _).mono ?_); rintro _ _ ⟨rfl, rfl⟩)
    | (go_at_call 12; (with_reducible refine (release_nil _ _).mono ?_); rintro _ _ ⟨rfl, rfl⟩)
    | (go_at_call 17; (with_reducible refine (holds_nil _ _ _).mono ?_); rintro _ _ ⟨rfl, rfl⟩)
    | (go_at_call 18; (with_reducible refine (holders_nil _ _).mono ?_); rintro _ _ ⟨rfl, rfl⟩)
    | (go_at_call 14; (with_reducible refine (waits_nil _ _).mono ?_); rintro _ _ ⟨rfl, rfl⟩)
    | (go_at_call 16; (with_reducible refine (len_nil _).mono ?_); rintro _ _ ⟨rfl, rfl⟩))
  go_ret
  exact ⟨rfl, ((Below.refl _ _).alloc (Nat.le_refl _) _).trans (hb1.mono (by simp))⟩
set_option maxRecDepth 100000 in
set_option maxHeartbeats 4000000 in
theorem lockNone_mid (k txn page mode : Int) (w : World) (h1 : ¬ mode < 1) (h3 : ¬ 3 < mode) :
    Calls Try.prog 8 #[.agg #[.int .i64 k, .int .i64 txn, .int .i64 page, .int .i64 mode]] w fun e w' => e = .returned (.bool true) ∧ Below w.heap.size w w' := by
  have hal := alive_any (w.alloc (.cells #[.int .i64 k, .int .i64 txn, .int .i64 page, .int .i64 mode] 27))
  have q2 : ∀ w, (binOp .eql 30 (errV 2) (.iface 32 (.int .i64 2))).run Try.prog w = .ok (.bool true) w := fun w => errEqK w 2 2 (by decide)
  have q15 : ∀ w, (binOp .eql 30 (errV 15) (.iface 32 (.int .i64 15))).run Try.prog w = .ok (.bool true) w := fun w => errEqK w 15 15 (by decide)
  rw [errV_pos (by decide)] at q2 q15
  have ht := take_nil txn page mode
  rw [if_neg (by omega), errV_pos (by decide)] at ht
  go_enter Try.func8, Try.ntmps8
  go_wp2_with (first
    | (go_at_call 10; (with_reducible refine hal.mono ?_); rintro _ w1 ⟨rfl, hb1⟩; clear hal; obtain ⟨c0, c1, c2, c3⟩ := box_cells hb1)
    | (go_at_call 13; (with_reducible refine (ht _).mono ?_); rintro _ _ ⟨rfl, rfl⟩)
    | (go_at_call 12; (with_reducible refine (release_nil _ _).mono ?_); rintro _ _ ⟨rfl, rfl⟩)
    | (go_at_call 17; (with_reducible refine (holds_nil _ _ _).mono ?_); rintro _ _ ⟨rfl, rfl⟩)
    | (go_at_call 18; (with_reducible refine (holders_nil _ _).mono ?_); rintro _ _ ⟨rfl, rfl⟩)
    | (go_at_call 14; (with_reducible refine (waits_nil _ _).mono ?_); rintro _ _ ⟨rfl, rfl⟩)
    | (go_at_call 16; (with_reducible refine (len_nil _).mono ?_); rintro _ _ ⟨rfl, rfl⟩))
  go_ret
  exact ⟨rfl, ((Below.refl _ _).alloc (Nat.le_refl _) _).trans (hb1.mono (by simp))⟩
theorem lockNone_walk (k txn page mode : Int) (w : World) (_ : (Lit.int .i64 k).wf = true) (_ : (Lit.int .i64 txn).wf = true) (_ : (Lit.int .i64 page).wf = true) (_ : (Lit.int .i64 mode).wf = true) :
    Calls Try.prog 8 #[.agg #[.int .i64 k, .int .i64 txn, .int .i64 page, .int .i64 mode]] w fun e w' => e = .returned (.bool true) ∧ Below w.heap.size w w' := by
  by_cases h1 : mode < 1
  · exact lockNone_low k txn page mode w h1
  · by_cases h3 : 3 < mode
    · exact lockNone_high k txn page mode w h1 h3
    · exact lockNone_mid k txn page mode w h1 h3
end Go.Proofs.Ytkoopbaopidpnaa
