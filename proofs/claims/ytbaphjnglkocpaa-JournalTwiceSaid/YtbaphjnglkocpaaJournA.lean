import Derived.Test.YtbaphjnglkocpaaSlotF
import Derived.Test.YtbaphjnglkocpaaDevL
import Derived.Deep.RegionHeld3
/-
  The journal's ring: whether it fits, a piece's sector, the slots' row.
-/
namespace Go.Proofs.Ytbaphjnglkocpaa
open Go.RowKit
theorem below_drewN {B : Nat} {a b : World} (h : Below B a b) (n : Nat) : Below B a (b.drewN n) := ⟨h.os, h.tape, h.output, h.size, h.block⟩
def ringFits (d : Dev) (at_ n : Int) : Bool := decide (0 ≤ at_ ∧ 2 ≤ n ∧ n ≤ 2048 ∧ at_ ≤ d.size - 2 - n)
theorem rfits_dev {w0 w : World} {p mn ms mc m : Nat} {d : Dev} (h : DB w0 w p mn ms mc d m) (at_ n : Int) :
    Calls Try.prog 70 #[.agg #[.pointer (some ⟨p, 0, none⟩), .int .i64 at_, .int .i64 n]] w fun e w' => e = .returned (.bool (ringFits d at_ n)) ∧ Below w.heap.size w w' := by
  have hal : Below w.heap.size w (w.alloc (.cells #[.pointer (some ⟨p, 0, none⟩), .int .i64 at_, .int .i64 n] 90)) := (Below.refl _ _).alloc (Nat.le_refl _) _
  have hz1 := h.ok.z1
  have hz2 := h.ok.z2
  have HD := Lib.hid (h.below hal)
  have hblk := heap_alloc_new w (.cells #[.pointer (some ⟨p, 0, none⟩), .int .i64 at_, .int .i64 n] 90)
  clear h
  by_cases c1 : at_ < 0
  · have hf : ringFits d at_ n = false := by unfold ringFits; simp; omega
    have e0 : decide (0 ≤ at_) = false := by simp; omega
    rw [hf]
    go_enter Try.func70, Try.ntmps70
    go_wp2_with fail
    go_quiet (fail)
    go_wp2
    go_ret
    exact ⟨rfl, below_drewN hal _⟩
  · have e1 : decide (0 ≤ at_) = true := by simp; omega
    by_cases c2 : n < 2
    · have e2 : decide (2 ≤ n) = false := by simp; omega
      have hf : ringFits d at_ n = false := by unfold ringFits; simp; omega
      rw [hf]
      go_enter Try.func70, Try.ntmps70
      go_wp2_with fail
      go_quiet (fail)
      go_wp2
      go_ret
      exact ⟨rfl, below_drewN hal _⟩
    · have e2 : decide (2 ≤ n) = true := by simp; omega
      by_cases c3 : 2048 < n
      · have e3 : decide (n ≤ 2048) = false := by simp; omega
        have hf : ringFits d at_ n = false := by unfold ringFits; simp; omega
        rw [hf]
        go_enter Try.func70, Try.ntmps70
        go_wp2_with fail
        go_quiet (fail)
        go_wp2
        go_ret
        exact ⟨rfl, below_drewN hal _⟩
      · have e3 : decide (n ≤ 2048) = true := by simp; omega
        have hf : ringFits d at_ n = decide (at_ ≤ d.size - 2 - n) := by
          have c1' : 0 ≤ at_ := by omega
          have c2' : 2 ≤ n := by omega
          have c3' : n ≤ 2048 := by omega
          unfold ringFits; simp [*]
        rw [hf]
        clear hf
        go_enter Try.func70, Try.ntmps70
        go_wp2_with fail
        have HB := Lib.hid hal
        generalize w.alloc (.cells #[.pointer (some ⟨p, 0, none⟩), .int .i64 at_, .int .i64 n] 90) = w1 at HD HB hblk ⊢
        have k0 := cell_in (o := 0) hblk rfl
        have k1 := cell_in (o := 1) hblk rfl
        have k2 := cell_in (o := 2) hblk rfl
        have hs := size_any _ p mn ms mc d (HD.out.below (Below.refl _ _).drew).lay
        have k3 : IntKind.i64.wrap (d.size - 2) = d.size - 2 := by rw [IntKind.wrap_i64]; omega
        have k4 : IntKind.i64.wrap (d.size - 2 - n) = d.size - 2 - n := by rw [IntKind.wrap_i64]; omega
        clear hblk
        go_region_held3 (fun w' => w'.cell? ⟨w.heap.size, 0, none⟩ = some (.pointer (some ⟨p, 0, none⟩)) ∧ w'.cell? ⟨w.heap.size, 1, none⟩ = some (.int .i64 at_) ∧ w'.cell? ⟨w.heap.size, 2, none⟩ = some (.int .i64 n))
          (first | exact ⟨k0, k1, k2⟩)
          (first | (go_at_call 36; (with_reducible refine hs.mono ?_); rintro _ _ ⟨rfl, rfl⟩))
        go_wp2
        go_ret
        exact ⟨rfl, HB.out.drew⟩
theorem rfits_nil {w : World} (at_ n : Int) :
    Calls Try.prog 70 #[.agg #[.pointer none, .int .i64 at_, .int .i64 n]] w fun e w' => e = .returned (.bool false) ∧ Below w.heap.size w w' := by
  have hal : Below w.heap.size w (w.alloc (.cells #[.pointer none, .int .i64 at_, .int .i64 n] 90)) := (Below.refl _ _).alloc (Nat.le_refl _) _
  have hblk := heap_alloc_new w (.cells #[.pointer none, .int .i64 at_, .int .i64 n] 90)
  by_cases c1 : at_ < 0
  · have e0 : decide (0 ≤ at_) = false := by simp; omega
    go_enter Try.func70, Try.ntmps70
    go_wp2_with fail
    go_quiet (fail)
    go_wp2
    go_ret
    exact ⟨rfl, below_drewN hal _⟩
  · have e1 : decide (0 ≤ at_) = true := by simp; omega
    by_cases c2 : n < 2
    · have e2 : decide (2 ≤ n) = false := by simp; omega
      go_enter Try.func70, Try.ntmps70
      go_wp2_with fail
      go_quiet (fail)
      go_wp2
      go_ret
      exact ⟨rfl, below_drewN hal _⟩
    · have e2 : decide (2 ≤ n) = true := by simp; omega
      by_cases c3 : 2048 < n
      · have e3 : decide (n ≤ 2048) = false := by simp; omega
        go_enter Try.func70, Try.ntmps70
        go_wp2_with fail
        go_quiet (fail)
        go_wp2
        go_ret
        exact ⟨rfl, below_drewN hal _⟩
      · have e3 : decide (n ≤ 2048) = true := by simp; omega
        go_enter Try.func70, Try.ntmps70
        go_wp2_with fail
        have HB := Lib.hid hal
        generalize w.alloc (.cells #[.pointer none, .int .i64 at_, .int .i64 n] 90) = w1 at HB hblk ⊢
        have k0 := cell_in (o := 0) hblk rfl
        have k1 := cell_in (o := 1) hblk rfl
        have k2 := cell_in (o := 2) hblk rfl
        have hs := size_nil w1.drew
        have k4 : IntKind.i64.wrap (-2 - n) = -2 - n := by rw [IntKind.wrap_i64]; omega
        have k5 : decide (at_ ≤ -2 - n) = false := by simp; omega
        clear hblk
        go_region_held3 (fun w' => w'.cell? ⟨w.heap.size, 0, none⟩ = some (.pointer none) ∧ w'.cell? ⟨w.heap.size, 1, none⟩ = some (.int .i64 at_) ∧ w'.cell? ⟨w.heap.size, 2, none⟩ = some (.int .i64 n))
          (first | exact ⟨k0, k1, k2⟩)
          (first | (go_at_call 36; (with_reducible refine hs.mono ?_); rintro _ _ ⟨rfl, rfl⟩))
        go_wp2
        go_ret
        exact ⟨ret_bool (by rw [show IntKind.i64.wrap (-2) = -2 from by decide, k4]; exact k5), HB.out.drew⟩
def ringSec (at_ n seq : Int) : Int := at_ + 2 + seq % n
theorem rsector_any {w : World} {q : Option Addr} {at_ n seq : Int} (h0 : 0 ≤ at_) (h1 : at_ ≤ 4096) (h2 : 2 ≤ n) (h3 : n ≤ 2048) (h4 : 0 ≤ seq) :
    Calls Try.prog 103 #[.agg #[.pointer q, .int .i64 at_, .int .i64 n], .int .i64 seq] w fun e w' => e = .returned (.int .i64 (ringSec at_ n seq)) ∧ Below w.heap.size w w' := by
  have hal : Below w.heap.size w (w.alloc (.cells #[.pointer q, .int .i64 at_, .int .i64 n] 90)) := (Below.refl _ _).alloc (Nat.le_refl _) _
  have hm0 : 0 ≤ seq % n := Int.emod_nonneg _ (by omega)
  have hm1 : seq % n < n := Int.emod_lt_of_pos _ (by omega)
  have e1 : IntKind.i64.wrap (at_ + 2) = at_ + 2 := by rw [IntKind.wrap_i64]; omega
  have e2 : seq.tmod n = seq % n := Int.tmod_eq_emod_of_nonneg h4
  have e3 : IntKind.i64.wrap (at_ + 2 + seq % n) = at_ + 2 + seq % n := by rw [IntKind.wrap_i64]; omega
  have e4 : (n == 0) = false := by simp; omega
  have e5 : n ≠ 0 := by omega
  have HR : Hid (ringSec at_ n seq = at_ + 2 + seq % n) := Lib.hid rfl
  go_enter Try.func103, Try.ntmps103
  go_wp2_with fail
  go_quiet (fail)
  go_wp2
  go_ret
  rw [HR.out]
  exact ⟨rfl, below_drewN hal _⟩
def jrow (start first ahead : Int) (note : List UInt8) : List UInt8 := nums [start, first, ahead] ++ rowB note
theorem jrow_any {w : World} {start first ahead : Int} {v : Value} {note : List UInt8} (hv : Bytes w v note) (h1 : int64 start) (h2 : int64 first) (h3 : int64 ahead) (hl : note.length ≤ 1000000000) :
    Calls Try.prog 53 #[.int .i64 start, .int .i64 first, .int .i64 ahead, v] w fun e w' => ∃ q c, e = .returned (.slice q (jrow start first ahead note).length c) ∧ Bytes w' (.slice q (jrow start first ahead note).length c) (jrow start first ahead note) ∧ Below w.heap.size w w' := by
  have hal : Below w.heap.size w (w.alloc (.cells #[.int .i64 start, .int .i64 first, .int .i64 ahead] 3)) := (Below.refl _ _).alloc (Nat.le_refl _) _
  have hp := put_any Bytes.nil (ints_three (w := w) start first ahead 3) (fun x hx => by simp at hx; rcases hx with rfl | rfl | rfl <;> assumption) (by simp) (by simp)
  rw [List.nil_append] at hp
  have Hv := Lib.hid hv
  have Hln : Hid ((nums [start, first, ahead]).length ≤ 30) := Lib.hid (by unfold nums; simp; have := num_len start; have := num_len first; have := num_len ahead; omega)
  have HX : Hid (jrow start first ahead note = nums [start, first, ahead] ++ rowB note) := Lib.hid rfl
  generalize jrow start first ahead note = X at HX
  generalize nums [start, first, ahead] = N at hp Hln HX
  clear hv h1 h2 h3
  go_enter Try.func53, Try.ntmps53
  go_wp2_with (first
    | (go_at_call 89; (with_reducible refine hp.mono ?_); rintro _ w1 ⟨v1, rfl, s1, b1⟩; clear hp; have hb1 : Below w.heap.size w w1 := hal.trans (b1.mono (by simp)); have hrw := putRow_any (Bytes.of_sub s1) (Hv.out.below hb1) (by have := Hln.out; omega) hl; clear b1 s1)
    | (go_at_call 88; (with_reducible refine hrw.mono ?_); rintro _ w2 ⟨v2, rfl, s2, b2⟩; clear hrw; have hb2 := hb1.trans (b2.mono hb1.size)))
  go_ret
  obtain ⟨q2, c2, rfl, _, _⟩ := s2.form
  rw [bytesV_len] at s2 ⊢
  rw [HX.out]
  exact ⟨q2, c2, rfl, Bytes.of_sub s2, hb2⟩
end Go.Proofs.Ytbaphjnglkocpaa
