import Derived.Test.YtnficiohnhodiaaRefQ
/-
  play: Arm.
-/
namespace Go.Proofs.Ytnficiohnhodiaa.Pre
open Go.RowKit
section
variable {w0 w w' : World} {A : RAd} {d d' : Dev} {L L' : Int} {p mn ms mc n m : Nat}
set_option maxRecDepth 100000 in
set_option maxHeartbeats 2000000 in
theorem play_arm (h : Both w0 w p mn ms mc A d L n) (at_ x : Int) (hx : 0 ≤ x) (hx2 : x < 9223372036854775808) (bs ks : Value) :
    Calls Try.prog 25 #[.pointer (some ⟨p, 0, none⟩), .pointer (some ⟨A.b, 0, none⟩), .agg #[.int .i64 4, .int .i64 at_, .int .i64 x, bs, ks]] w fun e w' => e = .returned (.bool true) ∧ Both w0 w' p mn ms mc A { d with armed := true, left := x } x n ∧ Keeps (fun k => DFoot p mn ms mc k ∨ A.S k) w w' := by
  have hal : Below w.heap.size w (w.alloc (.cells #[.int .i64 4, .int .i64 at_, .int .i64 x, bs, ks] 54)) := (Below.refl _ _).alloc (Nat.le_refl _) _
  have hh := heap_alloc_new w (.cells #[.int .i64 4, .int .i64 at_, .int .i64 x, bs, ks] 54)
  have hcell : (w.alloc (.cells #[.int .i64 4, .int .i64 at_, .int .i64 x, bs, ks] 54)).cell? ⟨w.heap.size, 2, none⟩ = some (.int .i64 x) := cell_in hh rfl
  have H1 := Lib.hid (h.below hal)
  have Hal := Lib.hid hal
  have Hlt : Hid (A.b < w.heap.size) := Lib.hid (h.ref.lt A.b (.inl rfl))
  have e0 : decide (x < 0) = false := by simp; omega
  clear h hal hh
  go_enter Try.func25, Try.ntmps25
  go_upto_region 22 with fail
  generalize w.alloc (.cells #[.int .i64 4, .int .i64 at_, .int .i64 x, bs, ks] 54) = w1 at hcell H1 Hal ⊢
  have hself := H1.out.ref.self
  refine wp_region_textP [6] (fun m k => m = 6 ∧ k = A.b) (fun w' => Keeps (· = A.b) w1 w' ∧ w'.cell? ⟨w.heap.size, 2, none⟩ = some (.int .i64 x)) [⟨6, fun w' => w'.heap[A.b]? = some (.cells #[A.vn, A.vs, A.vc, .int .i64 d.steps, .int .i64 d.syncs, .bool d.armed, .int .i64 L, .bool d.down] 59 (0, 0))⟩] 9 (by kernel_rfl) ?_ ?_ (by kernel_rfl) ⟨(Keeps.refl _ _).drew, hcell⟩ ?_ ?_
  · intro q hq; simp at hq; subst hq; rfl
  · intro q hq m wa wb hm hs hk
    simp at hq
    subst hq
    exact hk.at hs (fun e => hm e.1)
  · intro q hq; simp at hq; subst hq; exact hself
  simp only [List.take_succ_cons, List.take_zero, List.drop_succ_cons, List.drop_zero]
  repeat (first | (refine text_pure (v := ?_) (by rfl) (fun w' => ?_) ?_; rotate_left; (focus ( go_simp; first | done | with_reducible rfl)); simp only [Act.put, List.setIfInBounds_toArray, List.set_cons_zero, List.set_cons_succ]) | (refine text_skip (by rfl) ?_; simp only [Act.put, List.setIfInBounds_toArray, List.set_cons_zero, List.set_cons_succ]))
  (refine text_read (v := ?_) (by rfl) (by kernel_rfl) (fun w' hB hm => ?_) ?_; rotate_left; (focus (have hcA := hB.1.2; (try clear hm); (try clear hB); go_simp; first | done | with_reducible rfl)); simp only [Act.put, List.setIfInBounds_toArray, List.set_cons_zero, List.set_cons_succ])
  repeat (first | (refine text_pure (v := ?_) (by rfl) (fun w' => ?_) ?_; rotate_left; (focus ( go_simp; first | done | with_reducible rfl)); simp only [Act.put, List.setIfInBounds_toArray, List.set_cons_zero, List.set_cons_succ]) | (refine text_skip (by rfl) ?_; simp only [Act.put, List.setIfInBounds_toArray, List.set_cons_zero, List.set_cons_succ]))
  refine text_known undef (fun w' => w'.heap[A.b]? = some (.cells #[A.vn, A.vs, A.vc, .int .i64 d.steps, .int .i64 d.syncs, .bool true, .int .i64 L, .bool d.down] 59 (0, 0))) (by rfl) (by kernel_rfl) (keepKStable fun m wa wb hm h k => k.at h (fun e => hm e.1)) (fun w' hB hm K hK => ?_) ?_
  · have hp : w'.heap[A.b]? = some (.cells #[A.vn, A.vs, A.vc, .int .i64 d.steps, .int .i64 d.syncs, .bool d.armed, .int .i64 L, .bool d.down] 59 (0, 0)) := hB.2 ⟨6, fun w' => w'.heap[A.b]? = some (.cells #[A.vn, A.vs, A.vc, .int .i64 d.steps, .int .i64 d.syncs, .bool d.armed, .int .i64 L, .bool d.down] 59 (0, 0))⟩ (by show _ ∈ [_]; simp) rfl
    have cst : w'.cell? ⟨A.b, 5, none⟩ = some (.bool d.armed) := cell_in hp rfl
    have fst : w'.frozen? ⟨A.b, 5, none⟩ = false := free_in hp
    have hk : Keeps (· = A.b) w' (w'.setCell ⟨A.b, 5, none⟩ (.bool true)) := Keeps.cellAt (S := (· = A.b)) rfl _
    unfold gives
    go_simp
    refine hK _ ⟨hk.mono (fun k _ e => ⟨rfl, e⟩), fun h => ⟨h.1.trans hk, hk.cell h.2 (fun e => by have e' : w.heap.size = A.b := e; have := Hlt.out; omega)⟩⟩ ?_
    rw [heap_setCell _ _ _ _ _ _ _ hp]; rfl
  simp only [Act.put, List.setIfInBounds_toArray, List.set_cons_zero, List.set_cons_succ]
  repeat (first | (refine text_pure (v := ?_) (by rfl) (fun w' => ?_) ?_; rotate_left; (focus ( go_simp; first | done | with_reducible rfl)); simp only [Act.put, List.setIfInBounds_toArray, List.set_cons_zero, List.set_cons_succ]) | (refine text_skip (by rfl) ?_; simp only [Act.put, List.setIfInBounds_toArray, List.set_cons_zero, List.set_cons_succ]))
  refine text_nil fun w8 hB hF => ?_
  have h8 : w8.heap[A.b]? = some (.cells #[A.vn, A.vs, A.vc, .int .i64 d.steps, .int .i64 d.syncs, .bool true, .int .i64 L, .bool d.down] 59 (0, 0)) := hF.1
  have HB8 := Lib.hid hB.1
  have cst : w8.cell? ⟨A.b, 6, none⟩ = some (.int .i64 L) := cell_in h8 rfl
  have fst : w8.frozen? ⟨A.b, 6, none⟩ = false := free_in h8
  have HR : Hid (RefAt (w8.setCell ⟨A.b, 6, none⟩ (.int .i64 x)) w0.heap.size A { d with armed := true, left := x } x) := Lib.hid (H1.out.ref.upd (HB8.out.trans (Keeps.cellAt (S := (· = A.b)) rfl _)) (by rw [heap_setCell _ _ _ _ _ _ _ h8]; rfl) rfl rfl rfl rfl (fun _ => rfl) (by omega))
  have hk8 : Keeps (· = A.b) w1 (w8.setCell ⟨A.b, 6, none⟩ (.int .i64 x)) := HB8.out.trans (Keeps.cellAt (S := (· = A.b)) rfl _)
  have hc9 := hk8.cell hcell (fun e => by have e' : w.heap.size = A.b := e; have := Hlt.out; omega)
  have hD9 := DB.oth H1.out.dev hk8 (fun k hk e => H1.out.off k hk (.inl e)) (fun k e => H1.out.low k (.inl e))
  have HD9 := Lib.hid hD9
  have HK9 := Lib.hid hk8
  clear hF hB h8 hself hk8 hD9
  go_wp2
  refine Calm.normal ?_
  clear cst fst
  generalize w8.setCell ⟨A.b, 6, none⟩ (.int .i64 x) = w9 at HR hc9 HD9 HK9 ⊢
  have har := arm_ok w9 p mn ms mc d x HD9.out.lay hx
  go_wp2_with (first
    | (go_at_call 56; (with_reducible refine har.mono ?_); rintro _ w10 ⟨rfl, h2, k2⟩; clear har; have H2 := Lib.hid h2; have K2 := Lib.hid k2; have hnum := num_any 0 w10 (by omega); rw [errV_zero] at hnum; clear h2 k2)
    | (go_at_call 10; (with_reducible refine hnum.mono ?_); rintro _ _ ⟨rfl, rfl⟩; clear hnum))
  go_ret
  have k3 : Keeps (DFoot p mn ms mc) w9 w10 := K2.out.mono (fun _ _ e => .inl e)
  exact ⟨by simp, ⟨HD9.out.step H2.out { HD9.out.ok with l0 := hx, l1 := hx2 } k3, ((RefX.of HR.out HD9.out.lay HD9.out.ok.lens).keeps k3 (fun _ e => e) H1.out.off).ref, H1.out.off, H1.out.low⟩, (Keeps.of_below Hal.out).trans ((HK9.out.mono (fun _ _ e => .inr (.inl e))).trans (k3.mono (fun _ _ e => .inl e)))⟩
end
end Go.Proofs.Ytnficiohnhodiaa.Pre
