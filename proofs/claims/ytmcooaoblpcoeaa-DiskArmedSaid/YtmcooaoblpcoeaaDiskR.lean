import Derived.Test.YtmcooaoblpcoeaaDiskQ
/-
  DiskArmed: every n.
-/
namespace Go.Proofs.Ytmcooaoblpcoeaa
open Go.RowKit
set_option maxRecDepth 100000 in
set_option maxHeartbeats 4000000 in
theorem armed_neg (a : Option Addr) (len cap : Nat) (n : Int) (w : World) (hn : n < 0) :
    Calls Try.prog 7 #[.slice a len cap, .int .i64 n] w fun e w' => e = .returned (.bool true) ∧ Below w.heap.size w w' := by
  have hal := alive_any w
  go_enter Try.func7, Try.ntmps7
  go_wp2_with (go_at_call 9; (with_reducible refine hal.mono ?_); rintro _ w1 ⟨rfl, hb1⟩; clear hal)
  go_ret
  exact ⟨rfl, hb1⟩
theorem diskArmed_walk (a : Option Addr) (len cap : Nat) (zs : List OpD) (n : Int) (w : World) (hz : IsOps w a len cap zs) (hw : (Lit.int .i64 n).wf = true) :
    Calls Try.prog 7 #[.slice a len cap, .int .i64 n] w fun e w' => e = .returned (.bool true) ∧ Below w.heap.size w w' := by
  by_cases hn : n < 0
  · exact armed_neg a len cap n w hn
  · refine armed_ok a len cap zs n w hz (by omega) ?_
    simp [Lit.wf, IntKind.min, IntKind.max, IntKind.signed, IntKind.bits] at hw
    omega
end Go.Proofs.Ytmcooaoblpcoeaa
