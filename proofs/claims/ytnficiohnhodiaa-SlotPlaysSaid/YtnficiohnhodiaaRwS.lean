import Derived.Test.YtnficiohnhodiaaRwR
import Derived.Test.YtnficiohnhodiaaGrowP
/-
  The law of the slots, play: Arm; a whole call.
-/
namespace Go.Proofs.Ytnficiohnhodiaa.Pre
open Go.RowKit
section
variable {w0 w w1 w2 w' : World} {p mn ms mc j n m : Nat} {A : RAd} {d d' : Dev} {L L' : Int} {sq tq : Option Addr} {x : Option SV} {G : Nat → Prop}
set_option maxRecDepth 100000 in
set_option maxHeartbeats 1000000 in
theorem play_noarm (h : PB w0 w p mn ms mc A j d L n sq tq) (hS : SlotsP w0 w p mn ms mc A j (fun _ => False) sq tq x) (at_ : Int) (ha : at_ < 0) (r k : Value) :
    Calls Try.prog 34 #[.pointer (some ⟨j, 0, none⟩), .agg #[.int .i64 3, .int .i64 at_, r, k]] w fun e w' => e = .returned (.bool true) ∧ PI w0 w' p mn ms mc A j (n + 3) := by
  have hal : Below w.heap.size w (w.alloc (.cells #[.int .i64 3, .int .i64 at_, r, k] 71)) := (Below.refl _ _).alloc (Nat.le_refl _) _
  have H1 := Lib.hid (h.below hal)
  have Hs1 := Lib.hid (hS.below hal)
  have e0 : decide (at_ ≥ 0) = false := by simp; omega
  have e1 : decide (0 ≤ at_) = false := by simp; omega
  clear h hS hal
  go_enter Try.func34, Try.ntmps34
  go_wp2
  go_ret
  exact ⟨rfl, d, L, sq, tq, x, H1.out.more (by omega), Hs1.out⟩
set_option maxRecDepth 100000 in
set_option maxHeartbeats 2000000 in
theorem play_armS (h : PB w0 w p mn ms mc A j d L n sq tq) (hS : SlotsP w0 w p mn ms mc A j (fun _ => False) sq tq x) (at_ : Int) (ha : 0 ≤ at_) (ha2 : at_ < 9223372036854775808) (r k : Value) :
    Calls Try.prog 34 #[.pointer (some ⟨j, 0, none⟩), .agg #[.int .i64 3, .int .i64 at_, r, k]] w fun e w' => e = .returned (.bool true) ∧ PI w0 w' p mn ms mc A j (n + 3) := by
  have hal : Below w.heap.size w (w.alloc (.cells #[.int .i64 3, .int .i64 at_, r, k] 71)) := (Below.refl _ _).alloc (Nat.le_refl _) _
  have hh := heap_alloc_new w (.cells #[.int .i64 3, .int .i64 at_, r, k] 71)
  have c1 := cell_in (o := 1) (u := .int .i64 at_) hh rfl
  have H1 := Lib.hid (h.below hal)
  have Hs1 := Lib.hid (hS.below hal)
  have Hlt := Lib.hid h.lt
  have Ha2 := Lib.hid ha2
  clear h hS hal hh ha2
  go_enter Try.func34, Try.ntmps34
  go_upto_region 25 with fail
  generalize w.alloc (.cells #[.int .i64 3, .int .i64 at_, r, k] 71) = w1 at H1 Hs1 c1 ⊢
  have hD : Below w1.heap.size w1 w1.drew := (Below.refl _ _).drew
  have H2 := Lib.hid (H1.out.below hD)
  have Hs2 := Lib.hid (Hs1.out.below hD)
  have har := arm_ok w1.drew p mn ms mc d at_ H2.out.dev.lay ha
  have c1' : w1.drew.cell? ⟨w.heap.size, 1, none⟩ = some (.int .i64 at_) := c1
  have p0 := cell_in (o := 0) H2.out.pair rfl
  clear c1 hD
  go_region_held3 (fun w' => w'.cell? ⟨j, 0, none⟩ = some (.pointer (some ⟨p, 0, none⟩)) ∧ w'.cell? ⟨w.heap.size, 1, none⟩ = some (.int .i64 at_))
    (first | exact ⟨p0, c1'⟩ | exact K3.out)
    (first | (go_at_call 56; (with_reducible refine har.mono ?_); rintro _ w3 ⟨rfl, h3, k3'⟩; have k3 : Keeps (DFoot p mn ms mc) w1.drew w3 := k3'.mono (fun _ _ e => .inl e); have K3 := Lib.hid (And.intro (k3.cell p0 H2.out.jd) (k3.cell c1' (fun e => Nat.lt_irrefl _ (Hlt.out _ (.inr (.inl e)))))); have B3 := Lib.hid k3; have H3 : Hid (DB w0 w3 p mn ms mc { d with armed := true, left := at_ } n) := Lib.hid (H2.out.dev.step h3 { H2.out.dev.ok with l0 := ha, l1 := Ha2.out } k3); clear h3 k3 k3'))
  have hr3 := H2.out.ahead B3.out
  have hself := hr3.self
  have HR3 := Lib.hid hr3
  have hp3 := B3.out.at H2.out.pair H2.out.jd
  have HP3 := Lib.hid hp3
  have c1'' : w3.cell? ⟨w.heap.size, 1, none⟩ = some (.int .i64 at_) := K3.out.2
  have Hjb : Hid (j ≠ A.b ∧ w.heap.size ≠ A.b) := Lib.hid ⟨fun e => H2.out.ja (.inl e), fun e => Nat.lt_irrefl _ (Hlt.out _ (.inl (.inl e)))⟩
  have p1 := cell_in (o := 1) hp3 rfl
  clear hr3 hp3 har p0 c1'
  go_upto_region 26 with fail
  refine wp_region_textP [12] (fun m k => m = 12 ∧ k = A.b) (fun w' => Keeps (· = A.b) w3 w' ∧ w'.cell? ⟨w.heap.size, 1, none⟩ = some (.int .i64 at_) ∧ w'.cell? ⟨j, 1, none⟩ = some (.pointer (some ⟨A.b, 0, none⟩))) [⟨12, fun w' => w'.heap[A.b]? = some (.cells #[A.vn, A.vs, A.vc, .int .i64 d.steps, .int .i64 d.syncs, .bool d.armed, .int .i64 L, .bool d.down] 59 (0, 0))⟩] 15 (by kernel_rfl) ?_ ?_ (by kernel_rfl) ⟨(Keeps.refl _ _).drew, c1'', p1⟩ ?_ ?_
  · intro q hq; simp at hq; subst hq; rfl
  · intro q hq m wa wb hm hs hk
    simp at hq
    subst hq
    exact hk.at hs (fun e => hm e.1)
  · intro q hq; simp at hq; subst hq; exact hself
  simp only [List.take_succ_cons, List.take_zero, List.drop_succ_cons, List.drop_zero]
  repeat (first | (refine text_pure (v := ?_) (by rfl) (fun w' => ?_) ?_; rotate_left; (focus ( go_simp; first | done | with_reducible rfl)); simp only [Act.put, List.setIfInBounds_toArray, List.set_cons_zero, List.set_cons_succ]) | (refine text_skip (by rfl) ?_; simp only [Act.put, List.setIfInBounds_toArray, List.set_cons_zero, List.set_cons_succ]))
  (refine text_read (v := ?_) (by rfl) (by kernel_rfl) (fun w' hB hm => ?_) ?_; rotate_left; (focus (have hcA := hB.1.2.2; (try clear hm); (try clear hB); go_simp; first | done | with_reducible rfl)); simp only [Act.put, List.setIfInBounds_toArray, List.set_cons_zero, List.set_cons_succ])
  repeat (first | (refine text_pure (v := ?_) (by rfl) (fun w' => ?_) ?_; rotate_left; (focus ( go_simp; first | done | with_reducible rfl)); simp only [Act.put, List.setIfInBounds_toArray, List.set_cons_zero, List.set_cons_succ]) | (refine text_skip (by rfl) ?_; simp only [Act.put, List.setIfInBounds_toArray, List.set_cons_zero, List.set_cons_succ]))
  (refine text_read (v := ?_) (by rfl) (by kernel_rfl) (fun w' hB hm => ?_) ?_; rotate_left; (focus (have hcA := hB.1.2.2; (try clear hm); (try clear hB); go_simp; first | done | with_reducible rfl)); simp only [Act.put, List.setIfInBounds_toArray, List.set_cons_zero, List.set_cons_succ])
  repeat (first | (refine text_pure (v := ?_) (by rfl) (fun w' => ?_) ?_; rotate_left; (focus ( go_simp; first | done | with_reducible rfl)); simp only [Act.put, List.setIfInBounds_toArray, List.set_cons_zero, List.set_cons_succ]) | (refine text_skip (by rfl) ?_; simp only [Act.put, List.setIfInBounds_toArray, List.set_cons_zero, List.set_cons_succ]))
  (refine text_read (v := ?_) (by rfl) (by kernel_rfl) (fun w' hB hm => ?_) ?_; rotate_left; (focus (have hcA := hB.1.2.1; (try clear hm); (try clear hB); go_simp; first | done | with_reducible rfl)); simp only [Act.put, List.setIfInBounds_toArray, List.set_cons_zero, List.set_cons_succ])
  repeat (first | (refine text_pure (v := ?_) (by rfl) (fun w' => ?_) ?_; rotate_left; (focus ( go_simp; first | done | with_reducible rfl)); simp only [Act.put, List.setIfInBounds_toArray, List.set_cons_zero, List.set_cons_succ]) | (refine text_skip (by rfl) ?_; simp only [Act.put, List.setIfInBounds_toArray, List.set_cons_zero, List.set_cons_succ]))
  refine text_known undef (fun w' => w'.heap[A.b]? = some (.cells #[A.vn, A.vs, A.vc, .int .i64 d.steps, .int .i64 d.syncs, .bool true, .int .i64 L, .bool d.down] 59 (0, 0))) (by rfl) (by kernel_rfl) (keepKStable fun m wa wb hm h k => k.at h (fun e => hm e.1)) (fun w' hB hm K hK => ?_) ?_
  · have hp : w'.heap[A.b]? = some (.cells #[A.vn, A.vs, A.vc, .int .i64 d.steps, .int .i64 d.syncs, .bool d.armed, .int .i64 L, .bool d.down] 59 (0, 0)) := hB.2 ⟨12, fun w' => w'.heap[A.b]? = some (.cells #[A.vn, A.vs, A.vc, .int .i64 d.steps, .int .i64 d.syncs, .bool d.armed, .int .i64 L, .bool d.down] 59 (0, 0))⟩ (by show _ ∈ [_]; simp) rfl
    have cst : w'.cell? ⟨A.b, 5, none⟩ = some (.bool d.armed) := cell_in hp rfl
    have fst : w'.frozen? ⟨A.b, 5, none⟩ = false := free_in hp
    have hk : Keeps (· = A.b) w' (w'.setCell ⟨A.b, 5, none⟩ (.bool true)) := Keeps.cellAt (S := (· = A.b)) rfl _
    unfold gives
    go_simp
    refine hK _ ⟨hk.mono (fun k _ e => ⟨rfl, e⟩), fun h => ⟨h.1.trans hk, hk.cell h.2.1 (fun e => Hjb.out.2 e), hk.cell h.2.2 (fun e => Hjb.out.1 e)⟩⟩ ?_
    rw [heap_setCell _ _ _ _ _ _ _ hp]; rfl
  simp only [Act.put, List.setIfInBounds_toArray, List.set_cons_zero, List.set_cons_succ]
  repeat (first | (refine text_pure (v := ?_) (by rfl) (fun w' => ?_) ?_; rotate_left; (focus ( go_simp; first | done | with_reducible rfl)); simp only [Act.put, List.setIfInBounds_toArray, List.set_cons_zero, List.set_cons_succ]) | (refine text_skip (by rfl) ?_; simp only [Act.put, List.setIfInBounds_toArray, List.set_cons_zero, List.set_cons_succ]))
  refine text_nil fun w8 hB hF => ?_
  have h8 : w8.heap[A.b]? = some (.cells #[A.vn, A.vs, A.vc, .int .i64 d.steps, .int .i64 d.syncs, .bool true, .int .i64 L, .bool d.down] 59 (0, 0)) := hF.1
  have HB8 := Lib.hid hB.1
  have cst : w8.cell? ⟨A.b, 6, none⟩ = some (.int .i64 L) := cell_in h8 rfl
  have fst : w8.frozen? ⟨A.b, 6, none⟩ = false := free_in h8
  have hk8 : Keeps (· = A.b) w3 (w8.setCell ⟨A.b, 6, none⟩ (.int .i64 at_)) := HB8.out.trans (Keeps.cellAt (S := (· = A.b)) rfl _)
  have HR : Hid (RefAt (w8.setCell ⟨A.b, 6, none⟩ (.int .i64 at_)) w0.heap.size A { d with armed := true, left := at_ } at_) := Lib.hid (HR3.out.upd hk8 (by rw [heap_setCell _ _ _ _ _ _ _ h8]; rfl) rfl rfl rfl rfl (fun _ => rfl) (by omega))
  have HK9 : Hid (Keeps A.S w3 (w8.setCell ⟨A.b, 6, none⟩ (.int .i64 at_))) := Lib.hid (hk8.mono (fun k _ e => .inl e))
  clear hF hB h8 hself hk8
  go_wp2
  refine Calm.normal ?_
  clear cst fst
  generalize w8.setCell ⟨A.b, 6, none⟩ (.int .i64 at_) = w9 at HR HK9 ⊢
  go_wp2
  go_ret
  exact ⟨rfl, _, at_, sq, tq, x, (H2.out.step H3.out B3.out HR.out HK9.out (by omega) (by have := Ha2.out; omega)).more (by omega), (Hs2.out.dev H2.out.dev.lay B3.out).refd HK9.out⟩
end
end Go.Proofs.Ytnficiohnhodiaa.Pre
