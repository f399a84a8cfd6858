import Derived.Test.YtnficiohnhodiaaRefI
/-
  New's other end; palimpsestnum: Num, Copy, Kept.
-/
namespace Go.Proofs.Ytnficiohnhodiaa
open Go.RowKit
set_option maxRecDepth 100000 in
theorem rnew_none (w : World) (n : Int) (h : n < 1 ∨ 4096 < n) : Calls Try.prog 23 #[.int .i64 n] w fun e w' => e = .returned (.tuple #[.pointer none, .int .i64 1]) ∧ w = w' := by
  by_cases h1 : n < 1
  · have e0 : decide (n < 1) = true := by simp; omega
    go_enter Try.func23, Try.ntmps23
    go_wp2
    go_ret2
    exact ⟨rfl, rfl⟩
  · have e0 : decide (n < 1) = false := by simp; omega
    have e1 : decide (n > 4096) = true := by simp; omega
    go_enter Try.func23, Try.ntmps23
    go_wp2
    go_ret2
    exact ⟨rfl, rfl⟩
theorem ta_errno (v : Value) (w : World) : (Instr.typeAssert (.iface 74 v) 35 74 true).run Try.prog w = .ok (.tuple #[v, .bool true]) w := by kernel_rfl
set_option maxRecDepth 100000 in
theorem num_any (x : Int) (w : World) (h : 0 ≤ x) : Calls Try.prog 10 #[errV x] w fun e w' => e = .returned (.int .i64 x) ∧ w = w' := by
  by_cases h0 : x = 0
  · subst h0
    rw [errV_zero]
    go_enter Try.func10, Try.ntmps10
    go_wp2
    go_ret
    exact ⟨rfl, rfl⟩
  · rw [errV_pos h0]
    have e0 : decide (x = 0) = false := by simp; omega
    have e1 : (x == 0) = false := by simp; omega
    have hta := ta_errno (.int .i64 x)
    go_enter Try.func10, Try.ntmps10
    go_wp2
    go_ret
    exact ⟨rfl, rfl⟩
end Go.Proofs.Ytnficiohnhodiaa
