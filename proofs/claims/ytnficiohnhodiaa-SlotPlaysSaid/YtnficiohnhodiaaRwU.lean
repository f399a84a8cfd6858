import Derived.Test.YtnficiohnhodiaaRwT
/-
  The law of the slots: same.
-/
namespace Go.Proofs.Ytnficiohnhodiaa
open Go.RowKit
theorem over_row {w : World} {B n cap : Nat} {q : Option Addr} {l : List UInt8} (hS : SubRow w B (.slice q n cap) (bytesV l)) (hl : l.length ≤ 1000000000) (hB : B ≤ w.heap.size) : Calls Try.prog 53 #[.slice q n cap] w fun e w' => e = .returned (.tuple #[]) ∧ Below B w w' := by
  have hS' := hS
  rcases hS with ⟨e, _⟩ | ⟨g, off, c, e, h1, h2, _⟩
  · injection e with e1 e2 e3
    subst e1; subst e2; subst e3
    go_enter Try.func53, Try.ntmps53
    go_wp2
    go_loopw [5] (fun i wr => i = .int .i64 0 ∧ wr = w) (fun _ _ => 0)
    case atStart => exact ⟨rfl, rfl⟩
    case round =>
      obtain ⟨rfl, rfl⟩ := hrel
      go_wp2
      go_end0
      exact ⟨by simp, Below.refl _ _⟩
  · injection e with e1 e2 e3
    subst e1; subst e3
    rw [bytesV_len] at e2
    subst e2
    exact (over_any w B g off l.length cap l rfl hl hS').mono fun _ _ ⟨he, _, _, _, hk⟩ => ⟨he, hk.below hB (fun k h e => by omega)⟩
end Go.Proofs.Ytnficiohnhodiaa
namespace Go.Proofs.Ytnficiohnhodiaa.Pre
open Go.RowKit
section
variable {w0 w w1 w2 w' : World} {p mn ms mc j n m : Nat} {A : RAd} {d d' : Dev} {L L' : Int} {sq tq : Option Addr} {x : Option SV} {G : Nat → Prop}
set_option maxRecDepth 100000 in
set_option maxHeartbeats 2000000 in
theorem same_none (h : PB w0 w p mn ms mc A j d L n none none) :
    Calls Try.prog 35 #[.pointer (some ⟨j, 0, none⟩)] w fun e w' => e = .returned (.bool true) ∧ Below w.heap.size w w' := by
  have H := Lib.hid h
  have p2' := cell_in (o := 2) h.pair rfl
  have p3' := cell_in (o := 3) h.pair rfl
  clear h
  go_enter Try.func35, Try.ntmps35
  go_upto_region 1 with fail
  go_quiet (fail)
  have B9 : Hid (Below w.heap.size w (w.drewN nq)) := Lib.hid (((Keeps.refl (fun _ => False) w).drewN nq).below (Nat.le_refl _) (fun _ _ e => e))
  generalize w.drewN nq = w9 at B9 ⊢
  clear p2' p3'
  have HP9 := Lib.hid (H.out.below B9.out)
  have d1 := cell_in (o := 1) HP9.out.pair rfl
  have d0 := cell_in (o := 0) HP9.out.pair rfl
  have d3 := cell_in (o := 3) HP9.out.pair rfl
  have hcd := HP9.out.ref.cells.c7
  have hdw : ∀ w', Below w9.heap.size w9 w' → Calls Try.prog 28 #[.pointer (some ⟨p, 0, none⟩)] w' fun e w'' => e = .returned (.bool d.down) ∧ w' = w'' := fun w' hb => (down_any w' p mn ms mc d (HP9.out.below hb).dev.lay).mono fun e w'' ⟨he, hw⟩ => ⟨he, by first | exact hw | exact hw.symm⟩
  have Hdw := Lib.hid hdw
  clear hdw
  cases hdn : d.down
  · rw [hdn] at hcd Hdw
    have Hdn := Lib.hid hdn
    obtain ⟨N, hN⟩ : ∃ N : Nat, d.size = (N : Int) := ⟨d.size.toNat, by have := HP9.out.dev.ok.z1; omega⟩
    have HN := Lib.hid hN
    have hN2 : N ≤ 4096 := by have := HP9.out.dev.ok.z2; omega
    obtain ⟨g, o, c46, _, _, e46, _⟩ := HP9.out.ref.now.at (i := 0) (by have := HP9.out.dev.ok.z1; omega)
    rw [show d.size.toNat = N from by rw [hN]; rfl] at e46
    have E46 := Lib.hid e46
    have hcn := HP9.out.ref.cells.c0
    rw [e46] at hcn
    clear hN e46 hdn
    go_wp2_with (go_at_call 28; (with_reducible refine (Hdw.out _ (Below.refl _ _)).mono ?_); rintro _ _ ⟨rfl, rfl⟩)
    clear hcd hcn d0 d1 d3
    go_loopw [92] (fun i wr => ∃ j : Nat, i = .int .i64 j ∧ j ≤ N ∧ Below w.heap.size w wr) (fun i _ => N - (intOf i).toNat)
    case atStart => exact ⟨0, rfl, by omega, B9.out⟩
    case round =>
      clear HP9 Hdw B9
      obtain ⟨i, rfl, hi, hB⟩ := hrel
      by_cases h1 : i < N
      · have HB := Lib.hid hB
        have HP := Lib.hid (H.out.below hB)
        have hrd := read_db HP.out.dev (i : Int) (by omega) (by rw [HN.out]; omega) Hdn.out
        obtain ⟨n8, h8⟩ : ∃ n8, (d.now (i : Int)).length = n8 := ⟨_, rfl⟩
        obtain ⟨g', o', c, q3, c3, e3, hc3, _, hb3, hn3, _⟩ := HP.out.ref.now.at (i := i) (by rw [HN.out]; exact h1)
        obtain ⟨e3a, e3b⟩ : g = g' ∧ o = o' := by
          rw [E46.out] at e3
          injection e3 with e3 _ _
          injection e3 with e3
          injection e3 with a b _
          exact ⟨a, b⟩
        subst e3a; subst e3b
        clear e3
        rw [h8] at hc3 hb3
        have d0 := cell_in (o := 0) HP.out.pair rfl
        have Hc3 := Lib.hid hb3
        obtain ⟨st, hst⟩ : ∃ st, strB (d.now (i : Int)) = st := ⟨_, rfl⟩
        have Hst := Lib.hid hst
        have H8 := Lib.hid h8
        clear hB hb3 hst h8 hn3
        go_upto_region 14 with (go_at_call 32; (with_reducible refine hrd.mono ?_); rintro _ w2 ⟨v2, rfl, s2, b2⟩; clear hrd)
        obtain ⟨q2, c2, e2, _, _⟩ := s2.form
        rw [bytesV_len, H8.out] at e2
        subst e2
        have hv1 := conv_bytes (Bytes.of_sub s2)
        have hv2 := conv_bytes (Hc3.out.below b2)
        rw [Hst.out] at hv1 hv2
        have HB2 := Lib.hid (HB.out.trans (b2.mono HB.out.size))
        clear s2 b2 hc3 d0
        go_wp2
        go_roundw
        case rel => exact ⟨i + 1, by go_num, by omega, HB2.out⟩
        case measure => simp [intOf]; omega
      · have HB := Lib.hid hB
        clear hB
        go_wp2
        go_ret
        exact ⟨rfl, HB.out⟩
  · rw [hdn] at hcd Hdw
    clear hdn
    go_upto_region 9 with fail
    have hcd' : w9.drew.cell? ⟨A.b, 7, none⟩ = some (.bool true) := hcd
    have d0' : w9.drew.cell? ⟨j, 0, none⟩ = some (.pointer (some ⟨p, 0, none⟩)) := d0
    have d1' : w9.drew.cell? ⟨j, 1, none⟩ = some (.pointer (some ⟨A.b, 0, none⟩)) := d1
    have hdw := Hdw.out w9.drew (Below.refl _ _).drew
    clear hcd d0 d1 d3
    go_region_held3 (fun w' => w'.cell? ⟨A.b, 7, none⟩ = some (.bool true) ∧ w'.cell? ⟨j, 0, none⟩ = some (.pointer (some ⟨p, 0, none⟩)) ∧ w'.cell? ⟨j, 1, none⟩ = some (.pointer (some ⟨A.b, 0, none⟩)))
      (first | exact ⟨hcd', d0', d1'⟩)
      (first | (go_at_call 28; (with_reducible refine hdw.mono ?_); rintro _ _ ⟨rfl, rfl⟩))
    clear hcd' d0' d1' hdw
    go_wp2
    go_ret
    exact ⟨rfl, B9.out.trans ((Below.refl _ _).drew.mono B9.out.size)⟩
set_option maxRecDepth 100000 in
set_option maxHeartbeats 2000000 in
theorem same_some (h : PB w0 w p mn ms mc A j d L n sq tq) (hS : SlotsP w0 w p mn ms mc A j (fun _ => False) sq tq x) :
    Calls Try.prog 35 #[.pointer (some ⟨j, 0, none⟩)] w fun e w' => e = .returned (.bool true) ∧ Below w.heap.size w w' := by
  rcases hS with ⟨_, rfl, rfl⟩ | ⟨v, s, t, _, rfl, rfl, h1, _, h3, _, _, _, _, _, _, _, _, hr⟩
  · exact same_none h
  have H := Lib.hid h
  obtain ⟨va, vn, vr, vd⟩ := v
  simp only at h1 h3 hr
  have p2' := cell_in (o := 2) h.pair rfl
  have p3' := cell_in (o := 3) h.pair rfl
  have Hr := Lib.hid hr
  have Hrow := Lib.hid (fun (w1 : World) (b1 : Below w.heap.size w w1) => row_form (h1.below b1) (by show vr.length ≤ _; omega))
  have H1 := Lib.hid h1
  have H3 := Lib.hid h3
  clear h h1 h3 hr
  go_enter Try.func35, Try.ntmps35
  go_upto_region 1 with fail
  go_quiet (fail)
  have B2 : Hid (Below w.heap.size w (w.drewN nq)) := Lib.hid (((Keeps.refl (fun _ => False) w).drewN nq).below (Nat.le_refl _) (fun _ _ e => e))
  clear p2' p3'
  generalize w.drewN nq = w2 at B2 ⊢
  have p2' := cell_in (o := 2) (H.out.below B2.out).pair rfl
  have p3' := cell_in (o := 3) (H.out.below B2.out).pair rfl
  have hro := Hrow.out w2 B2.out
  go_upto_region 5 with (go_at_call 64; (with_reducible refine hro.mono ?_); rintro _ w3 ⟨q3, m3, c3, rfl, s3, hcv3, b3⟩)
  have S3 := Lib.hid s3
  have B3 := Lib.hid (B2.out.trans (b3.mono B2.out.size))
  have Hs23 : Hid (w.heap.size ≤ w2.heap.size ∧ w2.heap.size ≤ w3.heap.size) := Lib.hid ⟨B2.out.size, b3.size⟩
  clear s3 b3 p2' p3' hro hcv3
  have hn3 := number_any (H1.out.below B3.out)
  obtain ⟨q4, c4, t4, y4, _⟩ := H3.out.below B3.out
  have P3 := Lib.hid (H.out.below B3.out).pair
  have k2 := cell_in (o := 2) P3.out rfl
  have k3 := cell_in (o := 3) P3.out rfl
  have tn := cell_in (o := 2) t4 rfl
  have tr := cell_in (o := 3) t4 rfl
  have Y4 := Lib.hid y4
  have Y3 := Lib.hid (Bytes.of_sub S3.out)
  obtain ⟨n4, hn4⟩ : ∃ n4, vr.length = n4 := ⟨_, rfl⟩
  rw [hn4] at tr Y4
  obtain ⟨st, hst⟩ : ∃ st, strB vr = st := ⟨_, rfl⟩
  have Hst := Lib.hid hst
  have Hn4 := Lib.hid hn4
  clear t4 y4 hst hn4 B2
  have Hnum := Lib.hid (fun (w' : World) (k : Keeps (fun _ => False) w3 w') => number_any (H1.out.below (B3.out.trans ((k.below (Nat.le_refl _) (fun _ _ e => e)).mono B3.out.size))))
  clear hn3
  refine wp_region_textP [4] (fun _ _ => False) (fun w' => Keeps (fun _ => False) w3 w') [] 26 (by kernel_rfl) (fun q hq => by simp at hq) (fun q hq => by simp at hq) (by kernel_rfl) ((Keeps.refl _ _).drew) (fun q hq => by simp at hq) ?_
  simp only [List.take_succ_cons, List.take_zero, List.drop_succ_cons, List.drop_zero]
  repeat (first | (refine text_pure (v := ?_) (by rfl) (fun w' => ?_) ?_; rotate_left; (focus ( go_simp; first | done | with_reducible rfl)); simp only [Act.put, List.setIfInBounds_toArray, List.set_cons_zero, List.set_cons_succ]) | (refine text_skip (by rfl) ?_; simp only [Act.put, List.setIfInBounds_toArray, List.set_cons_zero, List.set_cons_succ]))
  (refine text_read (v := ?_) (by rfl) (by kernel_rfl) (fun w' hB hm => ?_) ?_; rotate_left; (focus (have hcA := hB.1.cell k2 (fun e => e); (try clear hm); (try clear hB); go_simp; first | done | with_reducible rfl)); simp only [Act.put, List.setIfInBounds_toArray, List.set_cons_zero, List.set_cons_succ])
  repeat (first | (refine text_pure (v := ?_) (by rfl) (fun w' => ?_) ?_; rotate_left; (focus ( go_simp; first | done | with_reducible rfl)); simp only [Act.put, List.setIfInBounds_toArray, List.set_cons_zero, List.set_cons_succ]) | (refine text_skip (by rfl) ?_; simp only [Act.put, List.setIfInBounds_toArray, List.set_cons_zero, List.set_cons_succ]))
  refine text_callk (f := 63) (args := #[.pointer (some ⟨s, 0, none⟩)]) (.int .i64 vn) (fun _ => True) (by rfl) (by kernel_rfl) (by kernel_rfl) (fun _ _ _ _ _ _ => trivial) (fun w' => ?_) (fun w' hB hm => ?_) ?_
  · go_simp
  · refine (Hnum.out w' hB.1).mono fun e w'' ⟨he, hw⟩ => ?_
    subst hw
    exact ⟨he, ⟨Keeps.refl _ _, id⟩, trivial⟩
  simp only [Act.put, List.setIfInBounds_toArray, List.set_cons_zero, List.set_cons_succ]
  repeat (first | (refine text_pure (v := ?_) (by rfl) (fun w' => ?_) ?_; rotate_left; (focus ( go_simp; first | done | with_reducible rfl)); simp only [Act.put, List.setIfInBounds_toArray, List.set_cons_zero, List.set_cons_succ]) | (refine text_skip (by rfl) ?_; simp only [Act.put, List.setIfInBounds_toArray, List.set_cons_zero, List.set_cons_succ]))
  (refine text_read (v := ?_) (by rfl) (by kernel_rfl) (fun w' hB hm => ?_) ?_; rotate_left; (focus (have hcA := hB.1.cell k3 (fun e => e); (try clear hm); (try clear hB); go_simp; first | done | with_reducible rfl)); simp only [Act.put, List.setIfInBounds_toArray, List.set_cons_zero, List.set_cons_succ])
  repeat (first | (refine text_pure (v := ?_) (by rfl) (fun w' => ?_) ?_; rotate_left; (focus ( go_simp; first | done | with_reducible rfl)); simp only [Act.put, List.setIfInBounds_toArray, List.set_cons_zero, List.set_cons_succ]) | (refine text_skip (by rfl) ?_; simp only [Act.put, List.setIfInBounds_toArray, List.set_cons_zero, List.set_cons_succ]))
  (refine text_read (v := ?_) (by rfl) (by kernel_rfl) (fun w' hB hm => ?_) ?_; rotate_left; (focus (have hcA := hB.1.cell tn (fun e => e); (try clear hm); (try clear hB); go_simp; first | done | with_reducible rfl)); simp only [Act.put, List.setIfInBounds_toArray, List.set_cons_zero, List.set_cons_succ])
  repeat (first | (refine text_pure (v := ?_) (by rfl) (fun w' => ?_) ?_; rotate_left; (focus ( go_simp; first | done | with_reducible rfl)); simp only [Act.put, List.setIfInBounds_toArray, List.set_cons_zero, List.set_cons_succ]) | (refine text_skip (by rfl) ?_; simp only [Act.put, List.setIfInBounds_toArray, List.set_cons_zero, List.set_cons_succ]))
  (refine text_read (v := ?_) (by rfl) (by kernel_rfl) (fun w' hB hm => ?_) ?_; rotate_left; (focus (have hcv := conv_bytes (Y3.out.keeps hB.1 (fun _ _ e => e)); rw [Hst.out] at hcv; (try clear hm); (try clear hB); go_simp; first | done | with_reducible rfl)); simp only [Act.put, List.setIfInBounds_toArray, List.set_cons_zero, List.set_cons_succ])
  repeat (first | (refine text_pure (v := ?_) (by rfl) (fun w' => ?_) ?_; rotate_left; (focus ( go_simp; first | done | with_reducible rfl)); simp only [Act.put, List.setIfInBounds_toArray, List.set_cons_zero, List.set_cons_succ]) | (refine text_skip (by rfl) ?_; simp only [Act.put, List.setIfInBounds_toArray, List.set_cons_zero, List.set_cons_succ]))
  (refine text_read (v := ?_) (by rfl) (by kernel_rfl) (fun w' hB hm => ?_) ?_; rotate_left; (focus (have hcA := hB.1.cell k3 (fun e => e); (try clear hm); (try clear hB); go_simp; first | done | with_reducible rfl)); simp only [Act.put, List.setIfInBounds_toArray, List.set_cons_zero, List.set_cons_succ])
  repeat (first | (refine text_pure (v := ?_) (by rfl) (fun w' => ?_) ?_; rotate_left; (focus ( go_simp; first | done | with_reducible rfl)); simp only [Act.put, List.setIfInBounds_toArray, List.set_cons_zero, List.set_cons_succ]) | (refine text_skip (by rfl) ?_; simp only [Act.put, List.setIfInBounds_toArray, List.set_cons_zero, List.set_cons_succ]))
  (refine text_read (v := ?_) (by rfl) (by kernel_rfl) (fun w' hB hm => ?_) ?_; rotate_left; (focus (have hcA := hB.1.cell tr (fun e => e); (try clear hm); (try clear hB); go_simp; first | done | with_reducible rfl)); simp only [Act.put, List.setIfInBounds_toArray, List.set_cons_zero, List.set_cons_succ])
  repeat (first | (refine text_pure (v := ?_) (by rfl) (fun w' => ?_) ?_; rotate_left; (focus ( go_simp; first | done | with_reducible rfl)); simp only [Act.put, List.setIfInBounds_toArray, List.set_cons_zero, List.set_cons_succ]) | (refine text_skip (by rfl) ?_; simp only [Act.put, List.setIfInBounds_toArray, List.set_cons_zero, List.set_cons_succ]))
  (refine text_read (v := ?_) (by rfl) (by kernel_rfl) (fun w' hB hm => ?_) ?_; rotate_left; (focus (have hcv := conv_bytes (Y4.out.keeps hB.1 (fun _ _ e => e)); rw [Hst.out] at hcv; (try clear hm); (try clear hB); go_simp; first | done | with_reducible rfl)); simp only [Act.put, List.setIfInBounds_toArray, List.set_cons_zero, List.set_cons_succ])
  repeat (first | (refine text_pure (v := ?_) (by rfl) (fun w' => ?_) ?_; rotate_left; (focus ( go_simp; first | done | with_reducible rfl)); simp only [Act.put, List.setIfInBounds_toArray, List.set_cons_zero, List.set_cons_succ]) | (refine text_skip (by rfl) ?_; simp only [Act.put, List.setIfInBounds_toArray, List.set_cons_zero, List.set_cons_succ]))
  refine text_nil fun w8 hB hF => ?_
  have B8 := Lib.hid (B3.out.trans ((hB.below (Nat.le_refl _) (fun _ _ e => e)).mono B3.out.size))
  have Hs8 : Hid (w2.heap.size ≤ w8.heap.size) := Lib.hid (Nat.le_trans Hs23.out.2 hB.size)
  have S8 := Lib.hid (S3.out.block_keeps hB (fun _ _ e => e))
  clear hF hB k2 k3 tn tr
  go_wp2
  refine Calm.normal ?_
  have hov := over_row S8.out (by have := Hr.out; omega) Hs8.out
  go_upto_region 8 with (go_at_call 53; (with_reducible refine hov.mono ?_); rintro _ w9 ⟨rfl, b9⟩; clear hov; have B9 := Lib.hid (B8.out.trans (b9.mono Hs23.out.1)); clear b9)
  clear Hs8 S8 B8 Hnum Hn4 Hst Y3 Y4 P3 B3 Hs23 S3 H3 H1 Hrow Hr
  have HP9 := Lib.hid (H.out.below B9.out)
  have d1 := cell_in (o := 1) HP9.out.pair rfl
  have d0 := cell_in (o := 0) HP9.out.pair rfl
  have d3 := cell_in (o := 3) HP9.out.pair rfl
  have hcd := HP9.out.ref.cells.c7
  have hdw : ∀ w', Below w9.heap.size w9 w' → Calls Try.prog 28 #[.pointer (some ⟨p, 0, none⟩)] w' fun e w'' => e = .returned (.bool d.down) ∧ w' = w'' := fun w' hb => (down_any w' p mn ms mc d (HP9.out.below hb).dev.lay).mono fun e w'' ⟨he, hw⟩ => ⟨he, by first | exact hw | exact hw.symm⟩
  have Hdw := Lib.hid hdw
  clear hdw
  cases hdn : d.down
  · rw [hdn] at hcd Hdw
    have Hdn := Lib.hid hdn
    obtain ⟨N, hN⟩ : ∃ N : Nat, d.size = (N : Int) := ⟨d.size.toNat, by have := HP9.out.dev.ok.z1; omega⟩
    have HN := Lib.hid hN
    have hN2 : N ≤ 4096 := by have := HP9.out.dev.ok.z2; omega
    obtain ⟨g, o, c46, _, _, e46, _⟩ := HP9.out.ref.now.at (i := 0) (by have := HP9.out.dev.ok.z1; omega)
    rw [show d.size.toNat = N from by rw [hN]; rfl] at e46
    have E46 := Lib.hid e46
    have hcn := HP9.out.ref.cells.c0
    rw [e46] at hcn
    clear hN e46 hdn
    go_wp2_with (go_at_call 28; (with_reducible refine (Hdw.out _ (Below.refl _ _)).mono ?_); rintro _ _ ⟨rfl, rfl⟩)
    clear hcd hcn d0 d1 d3
    go_loopw [92] (fun i wr => ∃ j : Nat, i = .int .i64 j ∧ j ≤ N ∧ Below w.heap.size w wr) (fun i _ => N - (intOf i).toNat)
    case atStart => exact ⟨0, rfl, by omega, B9.out⟩
    case round =>
      clear HP9 Hdw B9
      obtain ⟨i, rfl, hi, hB⟩ := hrel
      by_cases h1 : i < N
      · have HB := Lib.hid hB
        have HP := Lib.hid (H.out.below hB)
        have hrd := read_db HP.out.dev (i : Int) (by omega) (by rw [HN.out]; omega) Hdn.out
        obtain ⟨n8, h8⟩ : ∃ n8, (d.now (i : Int)).length = n8 := ⟨_, rfl⟩
        obtain ⟨g', o', c, q3, c3, e3, hc3, _, hb3, hn3, _⟩ := HP.out.ref.now.at (i := i) (by rw [HN.out]; exact h1)
        obtain ⟨e3a, e3b⟩ : g = g' ∧ o = o' := by
          rw [E46.out] at e3
          injection e3 with e3 _ _
          injection e3 with e3
          injection e3 with a b _
          exact ⟨a, b⟩
        subst e3a; subst e3b
        clear e3
        rw [h8] at hc3 hb3
        have d0 := cell_in (o := 0) HP.out.pair rfl
        have Hc3 := Lib.hid hb3
        obtain ⟨st, hst⟩ : ∃ st, strB (d.now (i : Int)) = st := ⟨_, rfl⟩
        have Hst := Lib.hid hst
        have H8 := Lib.hid h8
        clear hB hb3 hst h8 hn3
        go_upto_region 14 with (go_at_call 32; (with_reducible refine hrd.mono ?_); rintro _ w2 ⟨v2, rfl, s2, b2⟩; clear hrd)
        obtain ⟨q2, c2, e2, _, _⟩ := s2.form
        rw [bytesV_len, H8.out] at e2
        subst e2
        have hv1 := conv_bytes (Bytes.of_sub s2)
        have hv2 := conv_bytes (Hc3.out.below b2)
        rw [Hst.out] at hv1 hv2
        have HB2 := Lib.hid (HB.out.trans (b2.mono HB.out.size))
        clear s2 b2 hc3 d0
        go_wp2
        go_roundw
        case rel => exact ⟨i + 1, by go_num, by omega, HB2.out⟩
        case measure => simp [intOf]; omega
      · have HB := Lib.hid hB
        clear hB
        go_wp2
        go_ret
        exact ⟨rfl, HB.out⟩
  · rw [hdn] at hcd Hdw
    clear hdn
    go_upto_region 9 with fail
    have hcd' : w9.drew.cell? ⟨A.b, 7, none⟩ = some (.bool true) := hcd
    have d0' : w9.drew.cell? ⟨j, 0, none⟩ = some (.pointer (some ⟨p, 0, none⟩)) := d0
    have d1' : w9.drew.cell? ⟨j, 1, none⟩ = some (.pointer (some ⟨A.b, 0, none⟩)) := d1
    have hdw := Hdw.out w9.drew (Below.refl _ _).drew
    clear hcd d0 d1 d3
    go_region_held3 (fun w' => w'.cell? ⟨A.b, 7, none⟩ = some (.bool true) ∧ w'.cell? ⟨j, 0, none⟩ = some (.pointer (some ⟨p, 0, none⟩)) ∧ w'.cell? ⟨j, 1, none⟩ = some (.pointer (some ⟨A.b, 0, none⟩)))
      (first | exact ⟨hcd', d0', d1'⟩)
      (first | (go_at_call 28; (with_reducible refine hdw.mono ?_); rintro _ _ ⟨rfl, rfl⟩))
    clear hcd' d0' d1' hdw
    go_wp2
    go_ret
    exact ⟨rfl, B9.out.trans ((Below.refl _ _).drew.mono B9.out.size)⟩
end
end Go.Proofs.Ytnficiohnhodiaa.Pre
