import Derived.Test.YtbaphjnglkocpaaOwnC
import Derived.Test.YtbaphjnglkocpaaDiskK
import Derived.Test.YtbaphjnglkocpaaGrow
/-
  DiskOwns: sectors are the device's own, and answers new memory.
-/
namespace Go.Proofs.Ytbaphjnglkocpaa
open Go.RowKit
theorem DB.other' {S : Nat → Prop} {w0 w w' : World} {p mn ms mc n : Nat} {d : Dev} (h : DB w0 w p mn ms mc d n) (hk : Keeps S w w') (h1 : ∀ k, DFoot p mn ms mc k → ¬ S k) (h2 : ∀ k, S k → w0.heap.size ≤ k) : DB w0 w' p mn ms mc d n :=
  ⟨h.lay.keeps hk h1, h.ok, h.low, h.bel.trans (hk.below h.bel.size (fun k hk' hf' => by have := h2 k hf'; omega))⟩
theorem row_form {w : World} {B : Nat} {v : Value} {l : List UInt8} (h : SubRow w B v (bytesV l)) (hl : 1 ≤ l.length) : ∃ g o c, v = .slice (some ⟨g, o, none⟩) l.length c ∧ B ≤ g ∧ g < w.heap.size := by
  rcases h with ⟨_, e⟩ | ⟨g, o, c, e, h1, h2, _⟩
  · have := congrArg List.length e; rw [bytesV_len] at this; simp only [List.length_nil] at this; omega
  · rw [bytesV_len] at e; exact ⟨g, o, c, e, h1, h2⟩
set_option maxRecDepth 100000 in
set_option maxHeartbeats 4000000 in
theorem owns_ok (n : Int) (w : World) : Calls Try.prog 5 #[.int .i64 n] w fun e w' => e = .returned (.bool true) ∧ Below w.heap.size w w' := by
  have hal := alive_any w
  go_enter Try.func5, Try.ntmps5
  go_upto_region 5 with (first
    | (go_at_call 19; (with_reducible refine hal.mono ?_); rintro _ w1 ⟨rfl, b1⟩; clear hal; have hnw := new_db w w1 2 (by omega) (by omega) b1)
    | (go_at_call 20; (with_reducible refine hnw.mono ?_); rintro _ w2 ⟨p, mn, ms, mc, rfl, h2, b2, _⟩; clear hnw; have HD2 := Lib.hid h2; have hfl := full_any n w2; clear h2 b2 b1)
    | (go_at_call 21; (with_reducible refine hfl.mono ?_); rintro _ w3 ⟨gb, m, rfl, s3, b3⟩; clear hfl))
  have hm : (fullB n).length = m := by
    obtain ⟨_, _, e, _⟩ := s3.form
    rw [bytesV_len] at e
    injection e with _ e _
    exact e.symm
  have Hm := Lib.hid hm
  have Hm1 : Hid (1 ≤ m ∧ m ≤ 100000) := Lib.hid (by rw [← hm, fullB_len]; omega)
  have HD3 := Lib.hid (HD2.out.below b3)
  have Hgb : Hid ((∀ k, DFoot p mn ms mc k → k < gb) ∧ w.heap.size ≤ gb ∧ gb < w3.heap.size) := Lib.hid (by
    have h1 := s3.lt gb rfl
    exact ⟨fun k hk => by have := HD2.out.lay.lt k hk; omega, by have := HD2.out.bel.size; omega, h1.2⟩)
  have HS3 : Hid (SubRow w3 w.heap.size (.slice (some ⟨gb, 0, none⟩) m m) (bytesV (fullB n))) := Lib.hid (s3.weaken HD2.out.bel.size)
  have hwr : (Dev.new 2).write 1 (fullB n) = (0, (Dev.new 2).step.2.put 1 (fullB n)) := by unfold Dev.write; rw [if_neg (by show ¬ ((1 : Int) < 0 ∨ (2 : Int) ≤ 1); omega), if_neg (by rw [fullB_len]; decide)]; rfl
  have hw := write_one HD3.out (by omega) 1 (Bytes.of_sub s3) 39 (by rw [fullB_len]; omega)
  rw [hwr, errV_zero] at hw
  have Hd4 : Hid (((Dev.new 2).step.2.put 1 (fullB n)).now 1 = fullB n ∧ ((Dev.new 2).step.2.put 1 (fullB n)).down = false ∧ ((Dev.new 2).step.2.put 1 (fullB n)).size = 2) := Lib.hid ⟨rfl, rfl, rfl⟩
  generalize (Dev.new 2).step.2.put 1 (fullB n) = d4 at hw Hd4
  clear hwr hm s3 b3
  go_upto_region 10 with (first
    | (go_at_call 22; (with_reducible refine hw.mono ?_); rintro _ w4 ⟨rfl, h4, k4⟩; clear hw; have HD4 := Lib.hid h4; have HS4 : Hid (SubRow w4 w.heap.size (.slice (some ⟨gb, 0, none⟩) m m) (bytesV (fullB n))) := Lib.hid (HS3.out.block_keeps k4 (fun k e hk => by cases e; exact absurd (Hgb.out.1 _ hk) (Nat.lt_irrefl _))); have hov := over_any w4 w.heap.size gb 0 m m (fullB n) Hm.out (by have := Hm1.out; omega) HS4.out; clear h4 k4)
    | (go_at_call 23; (with_reducible refine hov.mono ?_); rintro _ w5 ⟨rfl, l5, hl5, s5, k5⟩; clear hov; have Hl5 := Lib.hid hl5; have HS5 := Lib.hid s5; have HD5 := Lib.hid (HD4.out.other' k5 (fun k hk e => by have h1 : k = gb := e; have h2 := Hgb.out.1 k hk; omega) (fun k e => by have h1 : k = gb := e; have h2 := Hgb.out.2.1; omega)); have hr1 := read_db HD5.out 1 (by omega) (by rw [Hd4.out.2.2]; omega) Hd4.out.2.1; rw [Hd4.out.1] at hr1; clear hl5 s5 k5)
    | (go_at_call 24; (with_reducible refine hr1.mono ?_); rintro _ w6 ⟨vx, rfl, sx, bx⟩; clear hr1; (obtain ⟨gx, ox, cx, ex, lx1, lx2⟩ := row_form sx (by rw [Hm.out]; exact Hm1.out.1)); rw [Hm.out] at ex; subst ex; have HSx := Lib.hid sx; have HD6 := Lib.hid (HD5.out.below bx); have HS6 := Lib.hid (HS5.out.below bx); have Hx1 := Lib.hid (And.intro lx1 lx2); have hr2 := read_db HD6.out 1 (by omega) (by rw [Hd4.out.2.2]; omega) Hd4.out.2.1; rw [Hd4.out.1] at hr2; clear sx bx lx1 lx2)
    | (go_at_call 24; (with_reducible refine hr2.mono ?_); rintro _ w7 ⟨vy, rfl, sy, by7⟩; clear hr2; (obtain ⟨gy, oy, cy, ey, ly1, ly2⟩ := row_form sy (by rw [Hm.out]; exact Hm1.out.1)); rw [Hm.out] at ey; subst ey; have HSy := Lib.hid sy; have HD7 := Lib.hid (HD6.out.below by7); have HS7 := Lib.hid (HS6.out.below by7); have HSx7 := Lib.hid (HSx.out.below by7); have Hy1 := Lib.hid (And.intro ly1 ly2); clear sy by7 ly1 ly2))
  refine wp_region_text [10] (fun _ => False) (fun w' => Keeps (fun _ => False) w7 w') 18 (by kernel_rfl) (fun _ _ h k => h.trans k) (by kernel_rfl) (Keeps.refl _ _).drew ?_
  simp only [List.take_succ_cons, List.take_zero, List.drop_succ_cons, List.drop_zero]
  repeat (first | (refine text_pure (v := ?_) (by rfl) (fun w' => ?_) ?_; rotate_left; (focus ( go_simp; first | done | with_reducible rfl)); simp only [Act.put, List.setIfInBounds_toArray, List.set_cons_zero, List.set_cons_succ]) | (refine text_skip (by rfl) ?_; simp only [Act.put, List.setIfInBounds_toArray, List.set_cons_zero, List.set_cons_succ]))
  (refine text_read (v := ?_) (by rfl) (by kernel_rfl) (fun w' hB hm => ?_) ?_; rotate_left; (focus (have hc := conv_bytes ((Bytes.of_sub HSx7.out).keeps hB (fun _ _ e => e)); (try clear hm); (try clear hB); go_simp; first | done | with_reducible rfl)); simp only [Act.put, List.setIfInBounds_toArray, List.set_cons_zero, List.set_cons_succ])
  repeat (first | (refine text_pure (v := ?_) (by rfl) (fun w' => ?_) ?_; rotate_left; (focus ( go_simp; first | done | with_reducible rfl)); simp only [Act.put, List.setIfInBounds_toArray, List.set_cons_zero, List.set_cons_succ]) | (refine text_skip (by rfl) ?_; simp only [Act.put, List.setIfInBounds_toArray, List.set_cons_zero, List.set_cons_succ]))
  refine text_call (f := 21) (args := #[.int .i64 n]) (fun b : Nat => .slice (some ⟨b, 0, none⟩) m m) (fun b w' => SubRow w' w7.heap.size (.slice (some ⟨b, 0, none⟩) m m) (bytesV (fullB n))) (by rfl) (by kernel_rfl) (by kernel_rfl) (by kernel_rfl)
    (fun x y h => by injection h with h; injection h with h; injection h) (fun x => keepStable fun _ _ h k => h.block_keeps k (fun _ _ e => e)) (fun w' => ?_) (fun w' hB hm => ?_) (fun b => ?_)
  · go_simp
  · refine (full_any n w').mono fun e w'' ⟨g, m', he, s, hb⟩ => ?_
    obtain ⟨_, _, e2, _⟩ := s.form
    rw [bytesV_len, Hm.out] at e2
    injection e2 with _ e2 _
    subst e2
    exact ⟨g, he, Keeps.of_below hb, s.weaken hB.size⟩
  simp only [Act.put, List.setIfInBounds_toArray, List.set_cons_zero, List.set_cons_succ]
  (refine text_read (v := ?_) (by rfl) (by kernel_rfl) (fun w' hB hm => ?_) ?_; rotate_left; (focus (have hf := hm.1 (by kernel_rfl); have hc := conv_bytes (Bytes.of_sub hf); (try clear hm); (try clear hB); go_simp; first | done | with_reducible rfl)); simp only [Act.put, List.setIfInBounds_toArray, List.set_cons_zero, List.set_cons_succ])
  repeat (first | (refine text_pure (v := ?_) (by rfl) (fun w' => ?_) ?_; rotate_left; (focus ( go_simp; first | done | with_reducible rfl)); simp only [Act.put, List.setIfInBounds_toArray, List.set_cons_zero, List.set_cons_succ]) | (refine text_skip (by rfl) ?_; simp only [Act.put, List.setIfInBounds_toArray, List.set_cons_zero, List.set_cons_succ]))
  refine text_nil fun w8 hB hF => ?_
  have HK8 := Lib.hid hB
  have Hsz8 : Hid (w7.heap.size ≤ w8.heap.size) := Lib.hid hB.size
  clear hF hB
  have hRw : Rw m (fun i => match i with | 0 => gx | 1 => gy | _ => gb) (fun i => match i with | 0 => ox | 1 => oy | _ => 0) (fun i => match i with | 0 => cx | 1 => cy | _ => m) (w8.alloc (.cells #[.slice (some ⟨gx, ox, none⟩) m cx, .slice (some ⟨gy, oy, none⟩) m cy, .slice (some ⟨gb, 0, none⟩) m m] 39)) w.heap.size w8.heap.size (fun i => match i with | 0 => fullB n | 1 => fullB n | _ => l5) := by
    have hal : Below w8.heap.size w8 (w8.alloc (.cells #[.slice (some ⟨gx, ox, none⟩) m cx, .slice (some ⟨gy, oy, none⟩) m cy, .slice (some ⟨gb, 0, none⟩) m m] 39)) := (Below.refl _ _).alloc (Nat.le_refl _) _
    have K := HK8.out.trans (Keeps.of_below hal)
    have hw5 := HD5.out.bel.size
    have hw6 := HD6.out.bel.size
    refine ⟨heap_alloc_new _ _, fun i hi => ?_, fun i hi => ?_⟩
    · match i, hi with
      | 0, _ => exact ((HSx7.out.block_keeps K (fun _ _ e => e)).weaken hw5)
      | 1, _ => exact ((HSy.out.block_keeps K (fun _ _ e => e)).weaken hw6)
      | 2, _ => exact (HS7.out.block_keeps K (fun _ _ e => e))
    · match i, hi with
      | 0, _ => exact Hm.out
      | 1, _ => exact Hm.out
      | 2, _ => exact Hl5.out
  have hbx := (HS5.out.lt gb rfl).2
  have hdis : ∀ i j, i < 3 → j < 3 → i ≠ j → (match i with | 0 => gx | 1 => gy | _ => gb) ≠ (match j with | 0 => gx | 1 => gy | _ => gb) := by
    have h1 := Hx1.out
    have h2 := Hy1.out
    intro i j hi hj hij
    match i, j, hi, hj with
    | 0, 0, _, _ => exact absurd rfl hij
    | 0, 1, _, _ => show gx ≠ gy; omega
    | 0, 2, _, _ => show gx ≠ gb; omega
    | 1, 0, _, _ => show gy ≠ gx; omega
    | 1, 1, _, _ => exact absurd rfl hij
    | 1, 2, _, _ => show gy ≠ gb; omega
    | 2, 0, _, _ => show gb ≠ gx; omega
    | 2, 1, _, _ => show gb ≠ gy; omega
    | 2, 2, _, _ => exact absurd rfl hij
  have hlt3 : ∀ i, i < 3 → (match i with | 0 => gx | 1 => gy | _ => gb) < w7.heap.size := by
    have h1 := Hx1.out
    have h2 := Hy1.out
    intro i hi
    match i, hi with
    | 0, _ => show gx < _; omega
    | 1, _ => show gy < _; omega
    | 2, _ => show gb < _; omega
  have hap := apart_any hRw hdis (fun i hi => by have h1 := hlt3 i hi; have h2 := Hsz8.out; omega) Hm1.out.2 Hm1.out.1
  have Hlt3 := Lib.hid hlt3
  have Hlow3 : Hid (∀ i, i < 3 → w.heap.size ≤ (match i with | 0 => gx | 1 => gy | _ => gb)) := Lib.hid (fun i hi => (hRw.row i hi).lt _ rfl |>.1)
  have Hnd : Hid (∀ k, DFoot p mn ms mc k → ∀ i, i < 3 → k ≠ (match i with | 0 => gx | 1 => gy | _ => gb)) := Lib.hid (fun k hk i hi => by
    have h1 := HD5.out.lay.lt k hk
    have h2 := Hx1.out
    have h3 := Hy1.out
    have h4 := Hgb.out.1 k hk
    match i, hi with
    | 0, _ => show k ≠ gx; omega
    | 1, _ => show k ≠ gy; omega
    | 2, _ => show k ≠ gb; omega)
  clear hRw hdis hlt3 hbx
  go_wp2_with (go_at_call 25; (with_reducible refine hap.mono ?_); rintro _ w9 ⟨rfl, k9⟩; clear hap)
  refine Calm.normal ?_
  have hD8 := HD7.out.other' HK8.out (fun _ _ e => e) (fun _ e => e.elim)
  have hal : Below w8.heap.size w8 (w8.alloc (.cells #[.slice (some ⟨gx, ox, none⟩) m cx, .slice (some ⟨gy, oy, none⟩) m cy, .slice (some ⟨gb, 0, none⟩) m m] 39)) := (Below.refl _ _).alloc (Nat.le_refl _) _
  have HD9 := Lib.hid ((hD8.below hal).other' k9 (fun k hk ⟨i, hi, e⟩ => Hnd.out k hk i hi e) (fun k ⟨i, hi, e⟩ => by rw [e]; exact Hlow3.out i hi))
  have hr3 := read_db HD9.out 1 (by omega) (by rw [Hd4.out.2.2]; omega) Hd4.out.2.1
  rw [Hd4.out.1] at hr3
  clear hD8 hal k9
  go_upto_region 13 with (go_at_call 24; (with_reducible refine hr3.mono ?_); rintro _ w10 ⟨vz, rfl, sz, bz⟩; clear hr3; (obtain ⟨gz, oz, cz, ez, _, _⟩ := row_form sz (by rw [Hm.out]; exact Hm1.out.1)); rw [Hm.out] at ez; subst ez; have HSz := Lib.hid sz; have HD10 := Lib.hid (HD9.out.below bz); clear sz bz)
  refine wp_region_text [6] (fun _ => False) (fun w' => Keeps (fun _ => False) w10 w') 10 (by kernel_rfl) (fun _ _ h k => h.trans k) (by kernel_rfl) (Keeps.refl _ _).drew ?_
  simp only [List.take_succ_cons, List.take_zero, List.drop_succ_cons, List.drop_zero]
  repeat (first | (refine text_pure (v := ?_) (by rfl) (fun w' => ?_) ?_; rotate_left; (focus ( go_simp; first | done | with_reducible rfl)); simp only [Act.put, List.setIfInBounds_toArray, List.set_cons_zero, List.set_cons_succ]) | (refine text_skip (by rfl) ?_; simp only [Act.put, List.setIfInBounds_toArray, List.set_cons_zero, List.set_cons_succ]))
  (refine text_read (v := ?_) (by rfl) (by kernel_rfl) (fun w' hB hm => ?_) ?_; rotate_left; (focus (have hc := conv_bytes ((Bytes.of_sub HSz.out).keeps hB (fun _ _ e => e)); (try clear hm); (try clear hB); go_simp; first | done | with_reducible rfl)); simp only [Act.put, List.setIfInBounds_toArray, List.set_cons_zero, List.set_cons_succ])
  repeat (first | (refine text_pure (v := ?_) (by rfl) (fun w' => ?_) ?_; rotate_left; (focus ( go_simp; first | done | with_reducible rfl)); simp only [Act.put, List.setIfInBounds_toArray, List.set_cons_zero, List.set_cons_succ]) | (refine text_skip (by rfl) ?_; simp only [Act.put, List.setIfInBounds_toArray, List.set_cons_zero, List.set_cons_succ]))
  refine text_call (f := 21) (args := #[.int .i64 n]) (fun b : Nat => .slice (some ⟨b, 0, none⟩) m m) (fun b w' => SubRow w' w10.heap.size (.slice (some ⟨b, 0, none⟩) m m) (bytesV (fullB n))) (by rfl) (by kernel_rfl) (by kernel_rfl) (by kernel_rfl)
    (fun x y h => by injection h with h; injection h with h; injection h) (fun x => keepStable fun _ _ h k => h.block_keeps k (fun _ _ e => e)) (fun w' => ?_) (fun w' hB hm => ?_) (fun b => ?_)
  · go_simp
  · refine (full_any n w').mono fun e w'' ⟨g, m', he, s, hb⟩ => ?_
    obtain ⟨_, _, e2, _⟩ := s.form
    rw [bytesV_len, Hm.out] at e2
    injection e2 with _ e2 _
    subst e2
    exact ⟨g, he, Keeps.of_below hb, s.weaken hB.size⟩
  simp only [Act.put, List.setIfInBounds_toArray, List.set_cons_zero, List.set_cons_succ]
  (refine text_read (v := ?_) (by rfl) (by kernel_rfl) (fun w' hB hm => ?_) ?_; rotate_left; (focus (have hf := hm.1 (by kernel_rfl); have hc := conv_bytes (Bytes.of_sub hf); (try clear hm); (try clear hB); go_simp; first | done | with_reducible rfl)); simp only [Act.put, List.setIfInBounds_toArray, List.set_cons_zero, List.set_cons_succ])
  repeat (first | (refine text_pure (v := ?_) (by rfl) (fun w' => ?_) ?_; rotate_left; (focus ( go_simp; first | done | with_reducible rfl)); simp only [Act.put, List.setIfInBounds_toArray, List.set_cons_zero, List.set_cons_succ]) | (refine text_skip (by rfl) ?_; simp only [Act.put, List.setIfInBounds_toArray, List.set_cons_zero, List.set_cons_succ]))
  refine text_nil fun w11 hB hF => ?_
  have HD11 := Lib.hid (HD10.out.other' hB (fun _ _ e => e) (fun _ e => e.elim))
  clear hF hB
  go_wp2
  refine Calm.normal ?_
  go_wp2
  go_ret
  exact ⟨rfl, HD11.out.bel⟩
theorem diskOwns_walk (n : Int) (w : World) (_ : (Lit.int .i64 n).wf = true) : Calls Try.prog 5 #[.int .i64 n] w fun e w' => e = .returned (.bool true) ∧ Below w.heap.size w w' := owns_ok n w
end Go.Proofs.Ytbaphjnglkocpaa
