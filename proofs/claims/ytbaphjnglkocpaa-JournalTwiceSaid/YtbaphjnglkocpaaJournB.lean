import Derived.Test.YtbaphjnglkocpaaJournA
/-
  The journal's ring: a piece is written.
-/
namespace Go.Proofs.Ytbaphjnglkocpaa
open Go.RowKit
def pieceB (gen ahead seq : Int) (l : List UInt8) : List UInt8 := boxOf 512 (nums [gen, ahead, seq] ++ l)
theorem nums3_len (a b c : Int) : (nums [a, b, c]).length ≤ 30 := by
  unfold nums
  simp
  have := num_len a; have := num_len b; have := num_len c; omega
theorem pieceB_len {gen ahead seq : Int} {l : List UInt8} (h : l.length ≤ 470) : (pieceB gen ahead seq l).length = 512 := by
  unfold pieceB
  have := nums3_len gen ahead seq
  rw [boxOf_len (by rw [List.length_append]; omega)]
theorem two_parts {w : World} {v1 v2 : Value} {l1 l2 : List UInt8} (h1 : Bytes w v1 l1) (h2 : Bytes w v2 l2) (T : TypeId) : Parts (w.alloc (.cells #[v1, v2] T)) (.slice (some ⟨w.heap.size, 0, none⟩) 2 2) [l1, l2] := by
  have hal : Below w.heap.size w (w.alloc (.cells #[v1, v2] T)) := (Below.refl _ _).alloc (Nat.le_refl _) _
  refine ⟨_, 2, rfl, Nat.le_refl _, by unfold maxLen; omega, fun j l hj => ?_⟩
  match j, hj with
  | 0, hj => simp at hj; subst hj; exact ⟨_, v1, rfl, cell_in (heap_alloc_new w _) rfl, h1.below hal⟩
  | 1, hj => simp at hj; subst hj; exact ⟨_, v2, rfl, cell_in (heap_alloc_new w _) rfl, h2.below hal⟩
def HeldAt (w : World) (b : Nat) (gen ahead seq : Int) (v : Value) : Prop := w.heap[b]? = some (.cells #[.int .i64 gen, .int .i64 ahead, .int .i64 seq, v] 130 (0, 0))
theorem HeldAt.cells4 {w : World} {b : Nat} {gen ahead seq : Int} {v : Value} (h : HeldAt w b gen ahead seq v) : w.cell? ⟨b, 0, none⟩ = some (.int .i64 gen) ∧ w.cell? ⟨b, 1, none⟩ = some (.int .i64 ahead) ∧ w.cell? ⟨b, 2, none⟩ = some (.int .i64 seq) ∧ w.cell? ⟨b, 3, none⟩ = some v :=
  ⟨cell_in h rfl, cell_in h rfl, cell_in h rfl, cell_in h rfl⟩
theorem HeldAt.below {w w' : World} {b : Nat} {gen ahead seq : Int} {v : Value} (h : HeldAt w b gen ahead seq v) (hb : Below w.heap.size w w') : HeldAt w' b gen ahead seq v := by
  unfold HeldAt at h ⊢
  rw [hb.block b (lt_of h)]; exact h
def RingAt (w : World) (b : Nat) (q : Option Addr) (at_ n : Int) : Prop := w.heap[b]? = some (.cells #[.pointer q, .int .i64 at_, .int .i64 n] 90 (0, 0))
theorem RingAt.cells3 {w : World} {b : Nat} {q : Option Addr} {at_ n : Int} (h : RingAt w b q at_ n) : w.cell? ⟨b, 0, none⟩ = some (.pointer q) ∧ w.cell? ⟨b, 1, none⟩ = some (.int .i64 at_) ∧ w.cell? ⟨b, 2, none⟩ = some (.int .i64 n) :=
  ⟨cell_in h rfl, cell_in h rfl, cell_in h rfl⟩
theorem RingAt.below {w w' : World} {b : Nat} {q : Option Addr} {at_ n : Int} (h : RingAt w b q at_ n) (hb : Below w.heap.size w w') : RingAt w' b q at_ n := by
  unfold RingAt at h ⊢
  rw [hb.block b (lt_of h)]; exact h
theorem cells_not_dev {w : World} {b p mn ms mc : Nat} {d : Dev} {cs : Array Value} {T : TypeId} {fz : Nat × Nat} (h : w.heap[b]? = some (.cells cs T fz)) (hd : DevAt w p mn ms mc d) (hb : cs.size ≠ 9) : ¬ DFoot p mn ms mc b := by
  obtain ⟨l1, ⟨_, _, a1, _⟩, _⟩ := hd.now
  obtain ⟨l2, ⟨_, _, a2, _⟩, _⟩ := hd.synced
  obtain ⟨l3, ⟨_, _, a3, _⟩, _⟩ := hd.chg
  rintro (rfl | rfl | rfl | rfl)
  · rw [hd.self] at h; cases h; exact hb rfl
  · rw [a1] at h; cases h
  · rw [a2] at h; cases h
  · rw [a3] at h; cases h
theorem RingAt.not_dev {w : World} {b p mn ms mc : Nat} {d : Dev} {q : Option Addr} {at_ n : Int} (h : RingAt w b q at_ n) (hd : DevAt w p mn ms mc d) : ¬ DFoot p mn ms mc b := by
  unfold RingAt at h
  exact cells_not_dev h hd (by simp)
theorem HeldAt.not_dev {w : World} {b p mn ms mc : Nat} {d : Dev} {gen ahead seq : Int} {v : Value} (h : HeldAt w b gen ahead seq v) (hd : DevAt w p mn ms mc d) : ¬ DFoot p mn ms mc b := by
  unfold HeldAt at h
  exact cells_not_dev h hd (by simp)
set_option maxRecDepth 100000 in
theorem rwrite_any {w0 w : World} {p mn ms mc m : Nat} {d : Dev} {at_ n gen ahead seq : Int} {q : Option Addr} {cap : Nat} {l : List UInt8} (hD : DB w0 w p mn ms mc d m) (hm : m ≤ 100000000)
    (h0 : 0 ≤ at_) (h1 : at_ ≤ 4096) (h2 : 2 ≤ n) (h3 : n ≤ 2048) (h4 : 0 ≤ seq) (hg : int64 gen) (ha : int64 ahead) (hs : int64 seq) (hv : Bytes w (.slice q l.length cap) l) (hl : l.length ≤ 470) :
    Calls Try.prog 78 #[.agg #[.pointer (some ⟨p, 0, none⟩), .int .i64 at_, .int .i64 n], .agg #[.int .i64 gen, .int .i64 ahead, .int .i64 seq, .slice q l.length cap]] w fun e w' =>
      e = .returned (errV (d.write (ringSec at_ n seq) (pieceB gen ahead seq l)).1) ∧ DB w0 w' p mn ms mc (d.write (ringSec at_ n seq) (pieceB gen ahead seq l)).2 (m + 1) ∧ Keeps (DFoot p mn ms mc) w w' := by
  have hal1 : Below w.heap.size w (w.alloc (.cells #[.pointer (some ⟨p, 0, none⟩), .int .i64 at_, .int .i64 n] 90)) := (Below.refl _ _).alloc (Nat.le_refl _) _
  have hal2 : Below w.heap.size w ((w.alloc (.cells #[.pointer (some ⟨p, 0, none⟩), .int .i64 at_, .int .i64 n] 90)).alloc (.cells #[.int .i64 gen, .int .i64 ahead, .int .i64 seq, .slice q l.length cap] 130)) := hal1.alloc (by simp) _
  have HD := Lib.hid (hD.below hal2)
  have Hv := Lib.hid (hv.below hal2)
  have Hal := Lib.hid hal2
  have hr := at_alloc (heap_alloc_new w (.cells #[.pointer (some ⟨p, 0, none⟩), .int .i64 at_, .int .i64 n] 90)) (.cells #[.int .i64 gen, .int .i64 ahead, .int .i64 seq, .slice q l.length cap] 130)
  have hh := heap_alloc_new (w.alloc (.cells #[.pointer (some ⟨p, 0, none⟩), .int .i64 at_, .int .i64 n] 90)) (.cells #[.int .i64 gen, .int .i64 ahead, .int .i64 seq, .slice q l.length cap] 130)
  rw [show (w.alloc (.cells #[.pointer (some ⟨p, 0, none⟩), .int .i64 at_, .int .i64 n] 90)).heap.size = w.heap.size + 1 from by simp] at hh
  have Hln : Hid ((nums [gen, ahead, seq]).length ≤ 30) := Lib.hid (nums3_len _ _ _)
  have HX : Hid (pieceB gen ahead seq l = boxOf 512 (nums [gen, ahead, seq] ++ l)) := Lib.hid rfl
  have HXl : Hid ((pieceB gen ahead seq l).length = 512) := Lib.hid (pieceB_len hl)
  generalize pieceB gen ahead seq l = X at HX HXl ⊢
  clear hD hv hal1 hal2
  go_enter Try.func78, Try.ntmps78
  go_upto_region 1 with fail
  generalize (w.alloc (.cells #[.pointer (some ⟨p, 0, none⟩), .int .i64 at_, .int .i64 n] 90)).alloc (.cells #[.int .i64 gen, .int .i64 ahead, .int .i64 seq, .slice q l.length cap] 130) = w1 at HD Hv Hal hr hh ⊢
  have hp := put_any (Bytes.nil) ((ints_three (w := w1) gen ahead seq 3).below ((Below.refl _ _).drew)) (fun x hx => by simp at hx; rcases hx with rfl | rfl | rfl <;> assumption) (by simp) (by simp)
  rw [List.nil_append] at hp
  generalize nums [gen, ahead, seq] = N at hp Hln HX
  have HN : Hid (N.length + l.length ≤ 500) := Lib.hid (by have := Hln.out; omega)
  have hal3 : Below w1.heap.size w1 (w1.alloc (.cells #[.int .i64 gen, .int .i64 ahead, .int .i64 seq] 3)).drew := ((Below.refl _ _).alloc (Nat.le_refl _) _).drew
  have Hal3 := Lib.hid hal3
  have H0 : Hid (HeldAt w1.drew (w.heap.size + 1) gen ahead seq (.slice q l.length cap)) := Lib.hid (HeldAt.below (w := w1) hh ((Below.refl _ _).drew))
  have H1 : Hid (HeldAt (w1.alloc (.cells #[.int .i64 gen, .int .i64 ahead, .int .i64 seq] 3)).drew (w.heap.size + 1) gen ahead seq (.slice q l.length cap)) := Lib.hid (HeldAt.below (w := w1) hh hal3)
  have Hr := Lib.hid hr
  have Hl := Lib.hid hl
  clear hr hh hal3 hl
  go_region_held3 (fun w' => w'.cell? ⟨w.heap.size + 1, 0, none⟩ = some (.int .i64 gen) ∧ w'.cell? ⟨w.heap.size + 1, 1, none⟩ = some (.int .i64 ahead) ∧ w'.cell? ⟨w.heap.size + 1, 2, none⟩ = some (.int .i64 seq) ∧ w'.cell? ⟨w.heap.size + 1, 3, none⟩ = some (.slice q l.length cap))
    (first | exact H0.out.cells4 | exact H1.out.cells4 | exact H2.out.cells4 | exact H2'.out.cells4 | exact H3.out.cells4)
    (first
     | (go_at_call 89; (with_reducible refine hp.mono ?_); rintro _ w2 ⟨v2, rfl, s2, b2⟩; clear hp; obtain ⟨q2, c2, rfl, _, _⟩ := s2.form; rw [bytesV_len] at s2 ⊢; have H2 := Lib.hid (H1.out.below b2); have B2 : Hid (Below w1.heap.size w1 w2) := Lib.hid (Hal3.out.trans (b2.mono Hal3.out.size));
        have hbx := Box_512 (l := N ++ l) (two_parts (Bytes.of_sub s2) (Hv.out.below B2.out) 39) (by simp) (by have := HN.out; rw [List.length_append]; omega) (by simp);
        have A2 : Hid (Below w2.heap.size w2 (w2.alloc (.cells #[.slice q2 N.length c2, .slice q l.length cap] 39))) := Lib.hid ((Below.refl _ _).alloc (Nat.le_refl _) _); have H2' := Lib.hid (H2.out.below A2.out))
     | (go_at_call 105; (with_reducible refine hbx.mono ?_); rintro _ w3 ⟨g, rfl, hg, hrow, b3⟩; clear hbx; have H3 := Lib.hid (H2'.out.below b3)))
  have B3 : Hid (Below w1.heap.size w1 w3) := Lib.hid (Hal3.out.trans ((b2.trans ((A2.out.trans (b3.mono (by simp))).mono b2.size)).mono Hal3.out.size))
  have HR3 : Hid (RingAt w3 w.heap.size (some ⟨p, 0, none⟩) at_ n) := Lib.hid (RingAt.below (w := w1) Hr.out B3.out)
  have HD3 := Lib.hid (HD.out.below B3.out)
  have Hrow := Lib.hid hrow
  have Bw3 := Lib.hid (Hal.out.trans (B3.out.mono Hal.out.size))
  clear hg hrow b2 b3 s2 H0 H1 H2 H2' A2 Hr Hal3 HD Hv Hal B2 B3
  go_upto_region 4 with fail
  have A4 : Hid (∀ W, Below W.heap.size W (W.alloc (.cells #[.slice (some ⟨g, 0, none⟩) 512 512] 39))) := Lib.hid (fun W => (Below.refl _ _).alloc (Nat.le_refl _) _)
  have hsc := fun w => rsector_any (w := w) (q := some ⟨p, 0, none⟩) h0 h1 h2 h3 h4
  have hD4 : ∀ W, Below w3.heap.size w3 W → DB w0 W p mn ms mc d m := fun W hB => HD3.out.below hB
  have hwr1 : ∀ W, Below w3.heap.size w3 W → Calls Try.prog 22 #[.pointer (some ⟨p, 0, none⟩), .int .i64 (ringSec at_ n seq), .slice (some ⟨W.heap.size, 0, none⟩) 1 1] (W.alloc (.cells #[.slice (some ⟨g, 0, none⟩) 512 512] 39)) fun e w' => e = .returned (errV (d.write (ringSec at_ n seq) X).1) ∧ DB w0 w' p mn ms mc (d.write (ringSec at_ n seq) X).2 (m + 1) ∧ Keeps (DFoot p mn ms mc) w3 w' := fun W hB =>
    (write_one (l := X) (HD3.out.below hB) (by omega) (ringSec at_ n seq) (by rw [HX.out]; exact Hrow.out.below hB) 39 (by rw [HXl.out]; omega)).mono fun _ _ ⟨h1, h2, h3⟩ => ⟨h1, h2, (Keeps.of_below hB).trans h3⟩
  have hwr2 : ∀ W, Below (w3.alloc (.cells #[.slice (some ⟨g, 0, none⟩) 512 512] 39)).heap.size (w3.alloc (.cells #[.slice (some ⟨g, 0, none⟩) 512 512] 39)) W → Calls Try.prog 22 #[.pointer (some ⟨p, 0, none⟩), .int .i64 (ringSec at_ n seq), .slice (some ⟨w3.heap.size, 0, none⟩) 1 1] W fun e w' => e = .returned (errV (d.write (ringSec at_ n seq) X).1) ∧ DB w0 w' p mn ms mc (d.write (ringSec at_ n seq) X).2 (m + 1) ∧ Keeps (DFoot p mn ms mc) w3 w' := fun W hB =>
    have hB3 : Below w3.heap.size w3 W := (A4.out w3).trans (hB.mono (by simp))
    (write_db (HD3.out.below hB3) (by omega) (ringSec at_ n seq) _ [X] X (by simp) ((one_part (by rw [HX.out]; exact Hrow.out) 39).below hB) (by simp) (by rw [HXl.out]; omega)).mono fun _ _ ⟨h1, h2, h3⟩ => ⟨h1, h2, (Keeps.of_below hB3).trans h3⟩
  go_region_held3 (fun w' => (w'.cell? ⟨w.heap.size, 0, none⟩ = some (.pointer (some ⟨p, 0, none⟩)) ∧ w'.cell? ⟨w.heap.size, 1, none⟩ = some (.int .i64 at_) ∧ w'.cell? ⟨w.heap.size, 2, none⟩ = some (.int .i64 n)) ∧ w'.cell? ⟨w.heap.size + 1, 2, none⟩ = some (.int .i64 seq))
    (first | exact ⟨(HR3.out.below (Below.refl _ _).drew).cells3, (H3.out.below (Below.refl _ _).drew).cells4.2.2.1⟩ | exact ⟨(HR3.out.below (A4.out w3).drew).cells3, (H3.out.below (A4.out w3).drew).cells4.2.2.1⟩ | exact ⟨(HR3.out.below B4.out).cells3, (H3.out.below B4.out).cells4.2.2.1⟩ | exact ⟨((HR3.out.below B4.out).below (A4.out w4)).cells3, ((H3.out.below B4.out).below (A4.out w4)).cells4.2.2.1⟩ | exact ⟨HR5.out.cells3, H5.out.cells4.2.2.1⟩)
    (first
     | (go_at_call 22; (first | (with_reducible refine (hwr1 _ B4.out).mono ?_) | (with_reducible refine (hwr2 _ B4x.out).mono ?_)); rintro _ w5 ⟨rfl, h5, k5⟩; have HR5 : Hid (RingAt w5 w.heap.size (some ⟨p, 0, none⟩) at_ n) := Lib.hid (k5.at HR3.out (HR3.out.not_dev HD3.out.lay)); have H5 : Hid (HeldAt w5 (w.heap.size + 1) gen ahead seq (.slice q l.length cap)) := Lib.hid (k5.at H3.out (H3.out.not_dev HD3.out.lay)))
     | (go_at_call 103; (with_reducible refine (hsc _).mono ?_); rintro _ w4 ⟨rfl, b4⟩; 
        first
        | (have B4 : Hid (Below w3.heap.size w3 w4) := Lib.hid (((Below.refl _ _).drew).trans (b4.mono (Nat.le_refl _))); have B4x := Lib.hid True.intro)
        | (have B4x : Hid (Below (w3.alloc (.cells #[.slice (some ⟨g, 0, none⟩) 512 512] 39)).heap.size (w3.alloc (.cells #[.slice (some ⟨g, 0, none⟩) 512 512] 39)) w4) := Lib.hid (((Below.refl _ _).drew).trans (b4.mono (Nat.le_refl _))); have B4 : Hid (Below w3.heap.size w3 w4) := Lib.hid ((A4.out w3).trans (B4x.out.mono (by simp))))))
  all_goals go_wp2
  all_goals go_ret
  all_goals exact ⟨rfl, h5, (Keeps.of_below Bw3.out).trans' k5 (fun _ _ e => e)⟩
end Go.Proofs.Ytbaphjnglkocpaa
