import Derived.Test.YtnficiohnhodiaaLockS
namespace Go.Proofs.Ytnficiohnhodiaa
open Go.RowKit
def TakesTo (w0 w : World) (p mp mw : Nat) (args : Array Value) (r : Value) (t' : Nat → LT) : Prop := Calls Try.prog 11 args w fun e w' => ∃ m, e = .returned r ∧ TB w0 w' p mp mw (t' m)
theorem takes_to {w0 w : World} {p mp mw : Nat} {t : LT} {txn page mode k : Int} {t' : Nat → LT} (h : TB w0 w p mp mw t) (hf : t.fit) (ht : ∀ m, t.take txn page mode m = (k, t' m)) :
    Calls Try.prog 11 #[.pointer (some ⟨p, 0, none⟩), .int .i64 txn, .int .i64 page, .int .i64 mode] w fun e w' => ∃ m, e = .returned (errV k) ∧ TB w0 w' p mp mw (t' m) :=
  (take_tb txn page mode h hf).mono fun _ _ ⟨m, he, hb⟩ => ⟨m, by rw [ht] at he; exact he, by rw [ht] at hb; exact hb⟩
theorem fitA (m : Nat) : (tA m).fit := fit_of (by simp [tA]) (by simp [tA]) (by simp [tA]) (by simp [tA]) (by simp [tA])
theorem fitB (m : Nat) : (tB m).fit := fit_of (by simp [tB]) (by simp [tB]) (by simp [tB]) (by simp [tB]) (by simp [tB])
theorem fitC (m : Nat) : (tC m).fit := fit_of (by simp [tC]) (by simp [tC]) (by simp [tC]) (by simp [tC]) (by simp [tC])
theorem fitD (m : Nat) : (tD m).fit := fit_of (by simp [tD]) (by simp [tD]) (by simp [tD]) (by simp [tD]) (by simp [tD])
theorem fit0 : LT.empty.fit := fit_of (by simp [LT.empty]) (by simp [LT.empty]) (by simp [LT.empty]) (by simp [LT.empty]) (by simp [LT.empty])
set_option maxRecDepth 100000 in
set_option maxHeartbeats 4000000 in
theorem alive_any (w : World) : Calls Try.prog 6 #[] w fun e w' => e = .returned (.bool true) ∧ Below w.heap.size w w' := by
  have hn := new_tb w w (Below.refl _ _)
  have e17 : errV 17 = .iface 74 (.int .i64 17) := rfl
  have e18 : errV 18 = .iface 74 (.int .i64 18) := rfl
  have q17 : ∀ w, (binOp .eql 35 (.iface 74 (.int .i64 17)) (.iface 74 (.int .i64 17))).run Try.prog w = .ok (.bool true) w := fun w => errEqK w 17 17 (by decide)
  have q18 : ∀ w, (binOp .eql 35 (.iface 74 (.int .i64 18)) (.iface 74 (.int .i64 18))).run Try.prog w = .ok (.bool true) w := fun w => errEqK w 18 18 (by decide)
  go_enter Try.func6, Try.ntmps6
  go_wp2_with (first
    | (go_at_call 7; (with_reducible refine hn.mono ?_); rintro _ w1 ⟨p, mp, mw, rfl, h1, _, _⟩; clear hn; have g1 := takes_to h1 fit0 a1)
    | (go_at_call 11; (with_reducible refine g1.mono ?_); rintro _ w2 ⟨m, rfl, h2⟩; clear g1 h1; rw [errV_zero]; have g2 := takes_to h2 (fitA m) (a2 m))
    | (go_at_call 11; (with_reducible refine g2.mono ?_); rintro _ w3 ⟨m2, rfl, h3⟩; clear g2 h2; rw [errV_zero]; have g3 := takes_to h3 (fitB m) (a3 m))
    | (go_at_call 11; (with_reducible refine g3.mono ?_); rintro _ w4 ⟨m3, rfl, h4⟩; clear g3 h3; have g4 := takes_to h4 (fitC m) (a4 m))
    | (go_at_call 11; (with_reducible refine g4.mono ?_); rintro _ w5 ⟨m4, rfl, h5⟩; clear g4 h4; have g5 := release_tb 2 h5 (fitC m); rw [(a5 m).1, (a5 m).2] at g5)
    | (go_at_call 8; (with_reducible refine g5.mono ?_); rintro _ w6 ⟨rfl, h6⟩; clear g5 h5; have g6 := takes_to h6 (fitD m) (a6 m))
    | (go_at_call 11; (with_reducible refine g6.mono ?_); rintro _ w7 ⟨m6, rfl, h7⟩; clear g6 h6; rw [errV_zero]; have g7 := holds_tb 1 5 h7; rw [a7 m] at g7)
    | (go_at_call 14; (with_reducible refine g7.mono ?_); rintro _ _ ⟨rfl, rfl⟩))
  go_ret
  exact ⟨rfl, h7.bel⟩
end Go.Proofs.Ytnficiohnhodiaa
