import Derived.Test.YtkoopbaopidpnaaLockU
namespace Go.Proofs.Ytkoopbaopidpnaa
open Go.RowKit
set_option maxRecDepth 100000 in
set_option maxHeartbeats 4000000 in
theorem lockModes_bad (w : World) (a b page : Int) (h : a < 1 ∨ 3 < a) : Calls Try.prog 4 #[.int .i64 a, .int .i64 b, .int .i64 page] w fun e w' => e = .returned (.bool true) ∧ Below w.heap.size w w' := by
  have hal := alive_any w
  have e2 : errV 2 = .iface 32 (.int .i64 2) := rfl
  have q2 : ∀ w, (binOp .eql 30 (.iface 32 (.int .i64 2)) (.iface 32 (.int .i64 2))).run Try.prog w = .ok (.bool true) w := fun w => errEqK w 2 2 (by decide)
  rcases h with h | h
  all_goals
    have hx := fun m => x7 7 page a (by omega) m LT.empty
    have hd1 : decide (a < 1) = decide (a < 1) := rfl
    go_enter Try.func4, Try.ntmps4
    go_wp2_with (first
      | (go_at_call 10; (with_reducible refine hal.mono ?_); rintro _ w1 ⟨rfl, hb1⟩; clear hal; have hn := new_tb w w1 hb1)
      | (go_at_call 11; (with_reducible refine hn.mono ?_); rintro _ w2 ⟨p, mp, mw, rfl, h1, _, _⟩; clear hn; have g1 := takes_to (k := 2) (t' := fun _ => LT.empty) h1 fit0 hx)
      | (go_at_call 13; (with_reducible refine g1.mono ?_); rintro _ w3 ⟨m, rfl, h2⟩; clear g1 h1))
    go_ret
    exact ⟨ret_bool (by simp <;> omega), h2.bel⟩
set_option maxRecDepth 100000 in
set_option maxHeartbeats 4000000 in
theorem lockModes_bad2 (w : World) (a b page : Int) (h1 : 1 ≤ a) (h3 : a ≤ 3) (h : b < 1 ∨ 3 < b) : Calls Try.prog 4 #[.int .i64 a, .int .i64 b, .int .i64 page] w fun e w' => e = .returned (.bool true) ∧ Below w.heap.size w w' := by
  have hal := alive_any w
  have e0 : errV 0 = .nilIface := rfl
  have q2 : ∀ w, (binOp .eql 30 .nilIface (.iface 32 (.int .i64 2))).run Try.prog w = .ok (.bool false) w := fun w => errEqK w 0 2 (by decide)
  have hx := x1 7 page a h1 h3
  have n1 : ¬ a < 1 := by omega
  have n3 : ¬ a > 3 := by omega
  rcases h with h | h
  all_goals
    go_enter Try.func4, Try.ntmps4
    go_wp2_with (first
      | (go_at_call 10; (with_reducible refine hal.mono ?_); rintro _ w1 ⟨rfl, hb1⟩; clear hal; have hn := new_tb w w1 hb1)
      | (go_at_call 11; (with_reducible refine hn.mono ?_); rintro _ w2 ⟨p, mp, mw, rfl, h1, _, _⟩; clear hn; have g1 := takes_to h1 fit0 hx)
      | (go_at_call 13; (with_reducible refine g1.mono ?_); rintro _ w3 ⟨m, rfl, h2⟩; clear g1 h1))
    go_ret
    exact ⟨ret_bool (by simp <;> omega), h2.bel⟩
theorem frees_any (page : Int) (txn : Int) (m : Nat) : LT.empty.take txn page 3 m = (0, ⟨[(page, (m, [(txn, 3)]))], [], 1⟩) := x1 txn page 3 (by decide) (by decide) m
set_option maxRecDepth 100000 in
set_option maxHeartbeats 8000000 in
theorem lockModes_good (w : World) (a b page : Int) (h1 : 1 ≤ a) (h3 : a ≤ 3) (k1 : 1 ≤ b) (k3 : b ≤ 3) : Calls Try.prog 4 #[.int .i64 a, .int .i64 b, .int .i64 page] w fun e w' => e = .returned (.bool true) ∧ Below w.heap.size w w' := by
  have hal := alive_any w
  have e0 : errV 0 = .nilIface := rfl
  have e17 : errV 17 = .iface 32 (.int .i64 17) := rfl
  have q17 : ∀ w, (binOp .neq 30 (.iface 32 (.int .i64 17)) (.iface 32 (.int .i64 17))).run Try.prog w = .ok (.bool false) w := fun w => errNeK w 17 17 (by decide)
  have n1 : ¬ a < 1 := by omega
  have n3 : ¬ a > 3 := by omega
  have m1 : ¬ b < 1 := by omega
  have m3 : ¬ b > 3 := by omega
  have hxa := x1 1 page a h1 h3
  have hx2 := fun m m' (h : a = b ∧ a ≠ 3) => x2 page a b k1 k3 m m' h
  have hx3 := fun m m' (h : ¬ (a = b ∧ a ≠ 3)) => x3 page a b k1 k3 m m' h
  have hx4 := fun m m' => x4 page a b h1 k1 k3 m m'
  have hj0 : joinI a b ≠ 0 := by unfold joinI; split <;> omega
  have hjv : (a = b → joinI a b = a) ∧ (a ≠ b → joinI a b = 3) := by
    refine ⟨fun e => by subst e; simp [joinI], fun e => ?_⟩
    unfold joinI; rw [if_neg (by omega)]
  have hx5 := fun m => x5 page m (joinI a b) hj0
  have hx6 := fun m => x6 page m (joinI a b)
  generalize hjj : joinI a b = j at hx4 hx5 hx6 hjv hj0
  by_cases hf : a = b ∧ a ≠ 3
  · have hy2 := fun m m' => hx2 m m' hf
    clear hx3 hx2
    obtain ⟨rfl, hf⟩ := hf
    have hj := hjv.1 rfl
    rw [hj] at hx4 hx5 hx6
    have hfb : (a != 3) = true := by simpa using hf
    clear hjv hj hjj hj0
    go_enter Try.func4, Try.ntmps4
    go_wp2_with (first
      | (go_at_call 10; (with_reducible refine hal.mono ?_); rintro _ w1 ⟨rfl, hb1⟩; clear hal; have hn := new_tb w w1 hb1)
      | (go_at_call 11; (with_reducible refine hn.mono ?_); rintro _ w2 ⟨p, mp, mw, rfl, h2, _, _⟩; clear hn; have g1 := takes_to h2 fit0 hxa)
      | (go_at_call 13; (with_reducible refine g1.mono ?_); rintro _ w3 ⟨m, rfl, h4⟩; clear g1 h2; have g2 := takes_to h4 (fitX page m _) (hy2 m))
      | (go_at_call 13; (with_reducible refine g2.mono ?_); rintro _ w4 ⟨m', rfl, h5⟩; clear g2 h4; have hn2 := new_tb w w4 h5.bel)
      | (go_at_call 11; (with_reducible refine hn2.mono ?_); rintro _ w5 ⟨p2, mp2, mw2, rfl, h6, _, _⟩; clear hn2; have g3 := takes_to h6 fit0 hxa)
      | (go_at_call 13; (with_reducible refine g3.mono ?_); rintro _ w6 ⟨m5, rfl, h7⟩; clear g3 h6; have g4 := takes_to h7 (fitX page m5 _) (hx4 m5))
      | (go_at_call 13; (with_reducible refine g4.mono ?_); rintro _ w7 ⟨m6, rfl, h8⟩; clear g4 h7; have g5 := len_tb h8; have g6 := holds_tb 1 page h8; rw [hx6] at g6; have g7 := release_tb 1 h8 (fitX page m5 _); rw [(hx5 m5).1, (hx5 m5).2] at g7)
      | (go_at_call 16; (with_reducible refine g5.mono ?_); rintro _ _ ⟨rfl, rfl⟩)
      | (go_at_call 17; (with_reducible refine g6.mono ?_); rintro _ _ ⟨rfl, rfl⟩)
      | (go_at_call 12; (with_reducible refine g7.mono ?_); rintro _ w8 ⟨rfl, h9⟩; have g8 := len_tb h9; have g9 := takes_to h9 fit0 (frees_any page 2))
      | (go_at_call 16; (with_reducible refine g8.mono ?_); rintro _ _ ⟨rfl, rfl⟩)
      | (go_at_call 13; (with_reducible refine g9.mono ?_); rintro _ w9 ⟨m9, rfl, h10⟩))
    go_ret
    exact ⟨rfl, h10.bel⟩
  · have hy3 := fun m m' => hx3 m m' hf
    clear hx3 hx2
    by_cases hab : a = b
    · subst hab
      have ha3 : a = 3 := by omega
      subst ha3
      have hj := hjv.1 rfl
      rw [hj] at hx4 hx5 hx6
      clear hjv hj hjj hj0 hf
      go_enter Try.func4, Try.ntmps4
      go_wp2_with (first
        | (go_at_call 10; (with_reducible refine hal.mono ?_); rintro _ w1 ⟨rfl, hb1⟩; clear hal; have hn := new_tb w w1 hb1)
        | (go_at_call 11; (with_reducible refine hn.mono ?_); rintro _ w2 ⟨p, mp, mw, rfl, h2, _, _⟩; clear hn; have g1 := takes_to h2 fit0 hxa)
        | (go_at_call 13; (with_reducible refine g1.mono ?_); rintro _ w3 ⟨m, rfl, h4⟩; clear g1 h2; have g2 := takes_to h4 (fitX page m _) (hy3 m))
        | (go_at_call 13; (with_reducible refine g2.mono ?_); rintro _ w4 ⟨m', rfl, h5⟩; clear g2 h4; have hn2 := new_tb w w4 h5.bel)
        | (go_at_call 11; (with_reducible refine hn2.mono ?_); rintro _ w5 ⟨p2, mp2, mw2, rfl, h6, _, _⟩; clear hn2; have g3 := takes_to h6 fit0 hxa)
        | (go_at_call 13; (with_reducible refine g3.mono ?_); rintro _ w6 ⟨m5, rfl, h7⟩; clear g3 h6; have g4 := takes_to h7 (fitX page m5 _) (hx4 m5))
        | (go_at_call 13; (with_reducible refine g4.mono ?_); rintro _ w7 ⟨m6, rfl, h8⟩; clear g4 h7; have g5 := len_tb h8; have g6 := holds_tb 1 page h8; rw [hx6] at g6; have g7 := release_tb 1 h8 (fitX page m5 _); rw [(hx5 m5).1, (hx5 m5).2] at g7)
        | (go_at_call 16; (with_reducible refine g5.mono ?_); rintro _ _ ⟨rfl, rfl⟩)
        | (go_at_call 17; (with_reducible refine g6.mono ?_); rintro _ _ ⟨rfl, rfl⟩)
        | (go_at_call 12; (with_reducible refine g7.mono ?_); rintro _ w8 ⟨rfl, h9⟩; have g8 := len_tb h9; have g9 := takes_to h9 fit0 (frees_any page 2))
        | (go_at_call 16; (with_reducible refine g8.mono ?_); rintro _ _ ⟨rfl, rfl⟩)
        | (go_at_call 13; (with_reducible refine g9.mono ?_); rintro _ w9 ⟨m9, rfl, h10⟩))
      go_ret
      exact ⟨rfl, h10.bel⟩
    · have hj := hjv.2 hab
      have hab1 : (a == b) = false := by simpa using hab
      have hab2 : (a != b) = true := by simpa using hab
      rw [hj] at hx4 hx5 hx6
      clear hjv hj hjj hj0 hf
      go_enter Try.func4, Try.ntmps4
      go_wp2_with (first
        | (go_at_call 10; (with_reducible refine hal.mono ?_); rintro _ w1 ⟨rfl, hb1⟩; clear hal; have hn := new_tb w w1 hb1)
        | (go_at_call 11; (with_reducible refine hn.mono ?_); rintro _ w2 ⟨p, mp, mw, rfl, h2, _, _⟩; clear hn; have g1 := takes_to h2 fit0 hxa)
        | (go_at_call 13; (with_reducible refine g1.mono ?_); rintro _ w3 ⟨m, rfl, h4⟩; clear g1 h2; have g2 := takes_to h4 (fitX page m _) (hy3 m))
        | (go_at_call 13; (with_reducible refine g2.mono ?_); rintro _ w4 ⟨m', rfl, h5⟩; clear g2 h4; have hn2 := new_tb w w4 h5.bel)
        | (go_at_call 11; (with_reducible refine hn2.mono ?_); rintro _ w5 ⟨p2, mp2, mw2, rfl, h6, _, _⟩; clear hn2; have g3 := takes_to h6 fit0 hxa)
        | (go_at_call 13; (with_reducible refine g3.mono ?_); rintro _ w6 ⟨m5, rfl, h7⟩; clear g3 h6; have g4 := takes_to h7 (fitX page m5 _) (hx4 m5))
        | (go_at_call 13; (with_reducible refine g4.mono ?_); rintro _ w7 ⟨m6, rfl, h8⟩; clear g4 h7; have g5 := len_tb h8; have g6 := holds_tb 1 page h8; rw [hx6] at g6; have g7 := release_tb 1 h8 (fitX page m5 _); rw [(hx5 m5).1, (hx5 m5).2] at g7)
        | (go_at_call 16; (with_reducible refine g5.mono ?_); rintro _ _ ⟨rfl, rfl⟩)
        | (go_at_call 17; (with_reducible refine g6.mono ?_); rintro _ _ ⟨rfl, rfl⟩)
        | (go_at_call 12; (with_reducible refine g7.mono ?_); rintro _ w8 ⟨rfl, h9⟩; have g8 := len_tb h9; have g9 := takes_to h9 fit0 (frees_any page 2))
        | (go_at_call 16; (with_reducible refine g8.mono ?_); rintro _ _ ⟨rfl, rfl⟩)
        | (go_at_call 13; (with_reducible refine g9.mono ?_); rintro _ w9 ⟨m9, rfl, h10⟩))
      go_ret
      exact ⟨rfl, h10.bel⟩
theorem lockModes_walk (a b page : Int) (w : World) (_ : (Lit.int .i64 a).wf = true) (_ : (Lit.int .i64 b).wf = true) (_ : (Lit.int .i64 page).wf = true) : Calls Try.prog 4 #[.int .i64 a, .int .i64 b, .int .i64 page] w fun e w' => e = .returned (.bool true) ∧ Below w.heap.size w w' := by
  by_cases h : a < 1 ∨ 3 < a
  · exact lockModes_bad w a b page h
  · by_cases h' : b < 1 ∨ 3 < b
    · exact lockModes_bad2 w a b page (by omega) (by omega) h'
    · exact lockModes_good w a b page (by omega) (by omega) (by omega) (by omega)
end Go.Proofs.Ytkoopbaopidpnaa
