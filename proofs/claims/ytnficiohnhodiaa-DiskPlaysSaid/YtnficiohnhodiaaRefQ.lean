import Derived.Test.YtnficiohnhodiaaRefP
/-
  play: Read.
-/
namespace Go.Proofs.Ytnficiohnhodiaa
open Go.RowKit
set_option maxRecDepth 100000 in
theorem over_nil (w : World) : Calls Try.prog 53 #[.slice none 0 0] w fun e w' => e = .returned (.tuple #[]) ∧ w = w' := by
  go_enter Try.func53, Try.ntmps53
  go_wp2
  go_loopw [5] (fun i wr => i = .int .i64 0 ∧ wr = w) (fun _ _ => 0)
  case atStart => exact ⟨rfl, rfl⟩
  case round =>
    obtain ⟨rfl, rfl⟩ := hrel
    go_wp2
    go_end0
    exact ⟨rfl, rfl⟩
section
variable {w0 w w' : World} {A : RAd} {d d' : Dev} {L L' : Int} {p mn ms mc n m : Nat}
set_option maxRecDepth 100000 in
set_option maxHeartbeats 2000000 in
theorem play_readbad (h : Both w0 w p mn ms mc A d L n) (at_ x c : Int) (hc : 0 ≤ c) (hrd : ∀ w1, DevAt w1 p mn ms mc d → Calls Try.prog 32 #[.pointer (some ⟨p, 0, none⟩), .int .i64 at_] w1 fun e w' => e = .returned (.tuple #[.slice none 0 0, errV c]) ∧ w1 = w') (hX : rdR d at_ = ([], c)) (bs ks : Value) :
    Calls Try.prog 25 #[.pointer (some ⟨p, 0, none⟩), .pointer (some ⟨A.b, 0, none⟩), .agg #[.int .i64 2, .int .i64 at_, .int .i64 x, bs, ks]] w fun e w' => e = .returned (.bool true) ∧ Both w0 w' p mn ms mc A d L n ∧ Keeps (fun k => DFoot p mn ms mc k ∨ A.S k) w w' := by
  have hal : Below w.heap.size w (w.alloc (.cells #[.int .i64 2, .int .i64 at_, .int .i64 x, bs, ks] 54)) := (Below.refl _ _).alloc (Nat.le_refl _) _
  have H1 := Lib.hid (h.below hal)
  have Hal := Lib.hid hal
  have hrd1 := hrd _ H1.out.dev.lay
  have hrr := rread_any H1.out.ref H1.out.dev.ok.z1 H1.out.dev.ok.z2 at_ [] c hX
  have hnum := num_any c (w.alloc (.cells #[.int .i64 2, .int .i64 at_, .int .i64 x, bs, ks] 54)) hc
  have hov := over_nil (w.alloc (.cells #[.int .i64 2, .int .i64 at_, .int .i64 x, bs, ks] 54))
  have hcv := conv_bytes (Bytes.nil (w := w.alloc (.cells #[.int .i64 2, .int .i64 at_, .int .i64 x, bs, ks] 54)))
  clear h hal hrd
  go_enter Try.func25, Try.ntmps25
  go_wp2_with (first
    | (go_at_call 32; (with_reducible refine hrd1.mono ?_); rintro _ _ ⟨rfl, rfl⟩; clear hrd1)
    | (go_at_call 54; (with_reducible refine hrr.mono ?_); rintro _ _ ⟨⟨q, cq, rfl, hb⟩, rfl⟩; have hcv2 := conv_bytes hb; rw [List.length_nil] at hcv2; clear hrr hb)
    | (go_at_call 10; (with_reducible refine hnum.mono ?_); rintro _ _ ⟨rfl, rfl⟩; clear hnum)
    | (go_at_call 53; (with_reducible refine hov.mono ?_); rintro _ _ ⟨rfl, rfl⟩; clear hov))
  go_ret
  exact ⟨by simp, H1.out, Keeps.of_below Hal.out⟩
set_option maxRecDepth 100000 in
set_option maxHeartbeats 2000000 in
theorem play_readok (h : Both w0 w p mn ms mc A d L n) (at_ x : Int) (h0 : 0 ≤ at_) (h1 : at_ < d.size) (hdn : d.down = false) (bs ks : Value) :
    Calls Try.prog 25 #[.pointer (some ⟨p, 0, none⟩), .pointer (some ⟨A.b, 0, none⟩), .agg #[.int .i64 2, .int .i64 at_, .int .i64 x, bs, ks]] w fun e w' => e = .returned (.bool true) ∧ Both w0 w' p mn ms mc A d L n ∧ Keeps (fun k => DFoot p mn ms mc k ∨ A.S k) w w' := by
  have hal : Below w.heap.size w (w.alloc (.cells #[.int .i64 2, .int .i64 at_, .int .i64 x, bs, ks] 54)) := (Below.refl _ _).alloc (Nat.le_refl _) _
  have hh := heap_alloc_new w (.cells #[.int .i64 2, .int .i64 at_, .int .i64 x, bs, ks] 54)
  have hcell : (w.alloc (.cells #[.int .i64 2, .int .i64 at_, .int .i64 x, bs, ks] 54)).cell? ⟨w.heap.size, 1, none⟩ = some (.int .i64 at_) := cell_in hh rfl
  have H1 := Lib.hid (h.below hal)
  have Hal := Lib.hid hal
  have hlen := h.dev.ok.lens at_
  have Hlen := Lib.hid hlen.1
  have hX : rdR d at_ = (d.now at_, 0) := by unfold rdR; rw [if_neg (by omega), hdn]; rfl
  have HX := Lib.hid hX
  clear h hal hh hlen hX
  go_enter Try.func25, Try.ntmps25
  go_upto_region 11 with fail
  generalize w.alloc (.cells #[.int .i64 2, .int .i64 at_, .int .i64 x, bs, ks] 54) = w1 at hcell H1 Hal ⊢
  have hrd1 := read_db H1.out.dev at_ h0 h1 hdn
  go_wp2_with (first
    | (go_at_call 32; (with_reducible refine hrd1.mono ?_); rintro _ w2 ⟨v2, rfl, s2, b2⟩; clear hrd1; (obtain ⟨g2, o2, c2, e2, l1, l2⟩ := rowForm s2 (by rw [Hlen.out]; omega)); (rw [Hlen.out] at e2); subst e2; have S2 := Lib.hid s2; have B2 := Lib.hid b2; have hcell2 := (Keeps.of_below (S := fun _ => False) b2).cell hcell (fun e => e); have hcv := conv_bytes (Bytes.of_sub s2); have hrr := rread_any (H1.out.ref.below b2) H1.out.dev.ok.z1 H1.out.dev.ok.z2 at_ _ 0 HX.out; have hnum := num_any 0 w2 (by omega); rw [errV_zero] at hnum; have hov := over_any w2 w1.heap.size g2 o2 512 c2 (d.now at_) Hlen.out (by omega) s2; have Hl1 := Lib.hid l1; clear s2 b2 l1 l2)
    | (go_at_call 54; (with_reducible refine hrr.mono ?_); rintro _ _ ⟨⟨q, cq, rfl, hb⟩, rfl⟩; have hcv2 := conv_bytes hb; (rw [Hlen.out] at hcv2 ⊢); clear hrr hb)
    | (go_at_call 10; (with_reducible refine hnum.mono ?_); rintro _ _ ⟨rfl, rfl⟩; clear hnum)
    | (go_at_call 53; (with_reducible refine hov.mono ?_); rintro _ w3 ⟨rfl, l5, hl5, s5, k5⟩; clear hov; (have B3 : Hid (Below w1.heap.size w1 w3) := Lib.hid (B2.out.trans (k5.below B2.out.size (fun k hk e => by have h1 : k = g2 := e; have h2 := Hl1.out; omega)))); clear hl5 s5 k5))
  go_ret
  exact ⟨by simp, H1.out.below B3.out, (Keeps.of_below Hal.out).trans (Keeps.of_below B3.out)⟩
end
end Go.Proofs.Ytnficiohnhodiaa
