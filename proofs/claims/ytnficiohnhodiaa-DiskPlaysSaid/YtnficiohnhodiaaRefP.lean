import Derived.Test.YtnficiohnhodiaaRefO
/-
  play: Arm below nought; Read that fails.
-/
namespace Go.Proofs.Ytnficiohnhodiaa
open Go.RowKit
section
variable {w0 w w' : World} {A : RAd} {d d' : Dev} {L L' : Int} {p mn ms mc n m : Nat}
set_option maxRecDepth 100000 in
set_option maxHeartbeats 2000000 in
theorem play_armbad (h : Both w0 w p mn ms mc A d L n) (at_ x : Int) (hx : x < 0) (bs ks : Value) :
    Calls Try.prog 25 #[.pointer (some ⟨p, 0, none⟩), .pointer (some ⟨A.b, 0, none⟩), .agg #[.int .i64 4, .int .i64 at_, .int .i64 x, bs, ks]] w fun e w' => e = .returned (.bool true) ∧ Both w0 w' p mn ms mc A d L n ∧ Keeps (fun k => DFoot p mn ms mc k ∨ A.S k) w w' := by
  have hal : Below w.heap.size w (w.alloc (.cells #[.int .i64 4, .int .i64 at_, .int .i64 x, bs, ks] 54)) := (Below.refl _ _).alloc (Nat.le_refl _) _
  have hh := heap_alloc_new w (.cells #[.int .i64 4, .int .i64 at_, .int .i64 x, bs, ks] 54)
  have H1 := Lib.hid (h.below hal)
  have Hal := Lib.hid hal
  have e0 : decide (x < 0) = true := by simp; omega
  have hb := fun w => arm_bad w p x hx
  have hnum := fun w => num_any 1 w (by omega)
  have hcell : (w.alloc (.cells #[.int .i64 4, .int .i64 at_, .int .i64 x, bs, ks] 54)).cell? ⟨w.heap.size, 2, none⟩ = some (.int .i64 x) := cell_in hh rfl
  clear h hal hh
  go_enter Try.func25, Try.ntmps25
  go_wp2_with (first
    | (go_at_call 56; (with_reducible refine (hb _).mono ?_); rintro _ _ ⟨rfl, rfl⟩; clear hb)
    | (go_at_call 10; (with_reducible refine (hnum _).mono ?_); rintro _ _ ⟨rfl, rfl⟩; clear hnum))
  go_ret
  exact ⟨rfl, H1.out, Keeps.of_below Hal.out⟩
end
end Go.Proofs.Ytnficiohnhodiaa
