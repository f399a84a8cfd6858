import Derived.Test.YtbaphjnglkocpaaJournW
import Derived.Test.YtbaphjnglkocpaaJournL
import Derived.Test.YtbaphjnglkocpaaGrow
/-
  The journal is opened: Open, where the slots and their row are there.
-/
namespace Go.Proofs.Ytbaphjnglkocpaa
open Go.RowKit
theorem jrow_takes (s f a : Int) (note : List UInt8) (h1 : int64 s) (h2 : int64 f) (h3 : int64 a) : takesM 3 (jrow s f a note) = some ([s, f, a], rowB note) :=
  takesM_nums [s, f, a] (rowB note) (fun x hx => by simp at hx; rcases hx with rfl | rfl | rfl <;> assumption)
theorem rowB_take (note : List UInt8) (h : note.length ≤ 1000000000000) : takeRow (rowB note) = some (note, []) := by
  have := takeRow_row note [] h
  rwa [List.append_nil] at this
def RM.start (at_ n first : Int) (note : List UInt8) (num : Int) : RM := ⟨at_, n, 1, fun _ => 0, [], 0, [], first, 0, 0, note, false, num, false⟩
section
variable {w0 w : World} {p mn ms mc c : Nat} {d : Dev} {at_ n num start first ahead : Int} {note : List UInt8}
set_option maxRecDepth 100000 in
set_option maxHeartbeats 2000000 in
theorem jopen_ok (hD : DB w0 w p mn ms mc d c) (hc : Clean d at_ num (jrow start first ahead note)) (h0 : 0 ≤ at_) (h2 : 2 ≤ n) (h3 : n ≤ 2048) (hsz : at_ ≤ d.size - 2 - n) (hs0 : 0 ≤ start) (hs1 : start ≤ 100000000000) (hf0 : 1 ≤ first) (hf1 : first ≤ 100000000000) (ha : int64 ahead) (hn : note.length ≤ 400)
    (hpad : (start % 470).toNat ≤ (rdPieces d at_ n (start / 470) n.toNat (start / 470) (setG (fun _ => 0) (start / 470 - 1) ahead) []).2.length) :
    Calls Try.prog 39 #[.pointer (some ⟨p, 0, none⟩), .int .i64 at_, .int .i64 n] w fun e w' => ∃ A gens' starts' stream' fl', e = .returned (.tuple #[.pointer (some ⟨A.j, 0, none⟩), .nilIface]) ∧ (A.p = p ∧ A.mn = mn ∧ A.ms = ms ∧ A.mc = mc) ∧
      RB w0 w' A d { RM.start at_ n first note num with base := start / 470, gen := genTo d at_ n.toNat, gens := gens', stream := stream', starts := starts', flushed := fl' } c ∧
      gens' = (rdPieces d at_ n (start / 470) n.toNat (start / 470) (setG (fun _ => 0) (start / 470 - 1) ahead) []).1 ∧
      stream' = (rdPieces d at_ n (start / 470) n.toNat (start / 470) (setG (fun _ => 0) (start / 470 - 1) ahead) []).2.take ((start % 470).toNat + (recsB (recsAll ((rdPieces d at_ n (start / 470) n.toNat (start / 470) (setG (fun _ => 0) (start / 470 - 1) ahead) []).2.drop (start % 470).toNat))).length) ∧
      starts' = startsOf start (recsAll ((rdPieces d at_ n (start / 470) n.toNat (start / 470) (setG (fun _ => 0) (start / 470 - 1) ahead) []).2.drop (start % 470).toNat)) ∧
      fl' = (recsAll ((rdPieces d at_ n (start / 470) n.toNat (start / 470) (setG (fun _ => 0) (start / 470 - 1) ahead) []).2.drop (start % 470).toNat)).length ∧
      Keeps (DFoot p mn ms mc) w w' ∧ ∀ k, A.Foot k → DFoot p mn ms mc k ∨ w.heap.size ≤ k := by
  have hal0 : Below w.heap.size w (w.alloc (.cells #[.pointer (some ⟨p, 0, none⟩), .int .i64 at_, .int .i64 n] 90)) := (Below.refl _ _).alloc (Nat.le_refl _) _
  have hfit : ringFits d at_ n = true := by unfold ringFits; simp; omega
  have hrf := rfits_dev (hD.below hal0) at_ n
  rw [hfit] at hrf
  have HR0 := Lib.hid (heap_alloc_new w (.cells #[.pointer (some ⟨p, 0, none⟩), .int .i64 at_, .int .i64 n] 90))
  have HD := Lib.hid hD
  have Hw0 : Hid (w0.heap.size ≤ w.heap.size) := Lib.hid hD.bel.size
  have Hc := Lib.hid hc
  have Hal0 := Lib.hid hal0
  have Htk := Lib.hid (jrow_takes start first ahead note (by unfold int64; omega) (by unfold int64; omega) ha)
  have Hjl := Lib.hid (jrow_len (a := start) (b := first) (c := ahead) hn)
  have Hpad := Lib.hid hpad
  have es0 : decide (start < 0) = false := by simp; omega
  have ef0 : decide (first < 1) = false := by simp; omega
  clear hD hc hal0 hpad
  go_enter Try.func39, Try.ntmps39
  go_upto_region 13 with (first
    | (go_at_call 70; (with_reducible refine hrf.mono ?_); rintro _ w1 ⟨rfl, b1⟩; clear hrf; have HD1 := Lib.hid (HD.out.below (Hal0.out.trans (b1.mono (by simp)))); have HR1 : Hid (RingAt w1 w.heap.size (some ⟨p, 0, none⟩) at_ n) := Lib.hid (RingAt.below (w := w.alloc _) HR0.out b1); have B1 := Lib.hid (Hal0.out.trans (b1.mono (by simp))); have hop := open_ok HD1.out Hc.out; clear b1)
    | (go_at_call 71; (with_reducible refine hop.mono ?_); rintro _ w2 ⟨s, rfl, h2', S2, l2, b2⟩; clear hop; have HR2 : Hid (RingAt w2 w.heap.size (some ⟨p, 0, none⟩) at_ n) := Lib.hid (HR1.out.below b2); have B2 : Hid (Below w.heap.size w w2) := Lib.hid (B1.out.trans (b2.mono B1.out.size)); have HD2 := Lib.hid h2'; have HS2 := Lib.hid S2; have Hls : Hid (w.heap.size ≤ s) := Lib.hid (Nat.le_trans B1.out.size l2); have hrw := row_any S2 (by have := Hjl.out; omega); clear h2' S2 l2 b2)
    | (go_at_call 73; (with_reducible refine hrw.mono ?_); rintro _ w3 ⟨q3, c3, rfl, s3, b3⟩; clear hrw; have HR3 : Hid (RingAt w3 w.heap.size (some ⟨p, 0, none⟩) at_ n) := Lib.hid (HR2.out.below b3); have B3 : Hid (Below w.heap.size w w3) := Lib.hid (B2.out.trans (b3.mono B2.out.size)); have HD3 := Lib.hid (HD2.out.below b3); have HS3 := Lib.hid (HS2.out.below b3); have htk := Takes3_some (Bytes.of_sub s3) (by have := Hjl.out; omega) Htk.out; clear b3 s3)
    | (go_at_call 72; (with_reducible refine htk.mono ?_); rintro _ w4 ⟨g4, o4, c4, q4, cc4, rfl, y0, y1, y2, lg4, hc4, s4, b4⟩; clear htk; have HR4 : Hid (RingAt w4 w.heap.size (some ⟨p, 0, none⟩) at_ n) := Lib.hid (HR3.out.below b4); have B4 : Hid (Below w.heap.size w w4) := Lib.hid (B3.out.trans (b4.mono B3.out.size)); have HD4 := Lib.hid (HD3.out.below b4); have HS4 := Lib.hid (HS3.out.below b4); have htr := TakeRow_form (Bytes.of_sub s4) (by have := Hjl.out; unfold jrow at this; rw [List.length_append] at this; omega) (rowB_take note (by omega)); clear b4 s4; have Y0 := Lib.hid y0; have Y1 := Lib.hid y1; have Y2 := Lib.hid y2)
    | (go_at_call 74; (with_reducible refine htr.mono ?_); rintro _ w5 ⟨q5, c5, q5', c5', rfl, s5, _, b5⟩; clear htr))
  have HR5 : Hid (RingAt w5 w.heap.size (some ⟨p, 0, none⟩) at_ n) := Lib.hid (HR4.out.below b5)
  have B5 : Hid (Below w.heap.size w w5) := Lib.hid (B4.out.trans (b5.mono B4.out.size))
  have HD5 := Lib.hid (HD4.out.below b5)
  have HS5 := Lib.hid (HS4.out.below b5)
  have Y5 : Hid (w5.cell? ⟨g4, o4, none⟩ = some (.int .i64 start) ∧ w5.cell? ⟨g4, o4 + 1, none⟩ = some (.int .i64 first) ∧ w5.cell? ⟨g4, o4 + 2, none⟩ = some (.int .i64 ahead)) := Lib.hid (by
    have K := Keeps.of_below (S := fun _ => False) b5
    exact ⟨K.cell Y0.out (fun e => e), K.cell Y1.out (fun e => e), K.cell Y2.out (fun e => e)⟩)
  have HN5 := Lib.hid s5
  clear y0 y1 y2 Y0 Y1 Y2 HR0 HR1 HR2 HR3 HR4 HD HD1 HD2 HD3 HD4 HS2 HS3 HS4 B1 B2 B3 B4 s5 b5
  refine wp_region_keep [] (fun _ => False) (fun w' => Keeps (fun _ => False) w5 w' ∧ w'.cell? ⟨w.heap.size, 0, none⟩ = some (.pointer (some ⟨p, 0, none⟩)) ∧ w'.cell? ⟨w.heap.size, 1, none⟩ = some (.int .i64 at_) ∧ w'.cell? ⟨w.heap.size, 2, none⟩ = some (.int .i64 n) ∧ w'.cell? ⟨g4, o4 + 1, none⟩ = some (.int .i64 first)) 9 [0, 1, 2, 3, 4, 5, 6, 7, 8] (by kernel_rfl)
    (fun _ _ h k => ⟨h.1.trans k, k.cell h.2.1 (fun e => e), k.cell h.2.2.1 (fun e => e), k.cell h.2.2.2.1 (fun e => e), k.cell h.2.2.2.2 (fun e => e)⟩) (by kernel_rfl) ⟨(Keeps.refl _ _).drew, HR5.out.cells3.1, HR5.out.cells3.2.1, HR5.out.cells3.2.2, Y5.out.2.1⟩ ?_
  refine walk_read (v := ?_) (by rfl) (by rfl) (by kernel_rfl) (fun w' hB hm => ?_) ?_
  rotate_left
  · (obtain ⟨hK, hc0, hc1, hc2, hy⟩ := hB; clear hm; go_simp; first | done | with_reducible rfl)
  try simp only [Act.put]
  refine walk_pure (v := ?_) (by rfl) (by rfl) (fun w' => ?_) ?_
  rotate_left
  · (go_simp; first | done | with_reducible rfl)
  try simp only [Act.put]
  refine walk_new (fun b : Nat => .map (some b)) (fun b w' => w'.heap[b]? = some (.map #[] 0) ∧ w5.heap.size ≤ b) (by rfl) (by rfl) (by kernel_rfl) (by kernel_rfl) (fun x y h => by injection h with h; injection h) (fun x => keepStable fun _ _ h k => ⟨k.at h.1 (fun e => e), h.2⟩) (fun w' hB hm K hK => ?_) (fun bm => ?_)
  · have hmm := @run_makeMap Try.prog
    unfold gives
    go_simp
    exact hK _ _ ((Keeps.refl _ _).alloc _) ⟨heap_alloc_new _ _, hB.1.size⟩
  try simp only [Act.put]
  refine walk_pure (v := ?_) (by rfl) (by rfl) (fun w' => ?_) ?_
  rotate_left
  · (go_simp; first | done | with_reducible rfl)
  try simp only [Act.put]
  refine walk_pure (v := ?_) (by rfl) (by rfl) (fun w' => ?_) ?_
  rotate_left
  · (go_simp; first | done | with_reducible rfl)
  try simp only [Act.put]
  refine walk_read (v := ?_) (by rfl) (by rfl) (by kernel_rfl) (fun w' hB hm => ?_) ?_
  rotate_left
  · (obtain ⟨hK, hc0, hc1, hc2, hy⟩ := hB; clear hm; go_simp; first | done | with_reducible rfl)
  try simp only [Act.put]
  refine walk_pure (v := ?_) (by rfl) (by rfl) (fun w' => ?_) ?_
  rotate_left
  · (go_simp; first | done | with_reducible rfl)
  try simp only [Act.put]
  refine walk_pure (v := ?_) (by rfl) (by rfl) (fun w' => ?_) ?_
  rotate_left
  · (go_simp; first | done | with_reducible rfl)
  try simp only [Act.put]
  refine walk_new (fun b : Nat => .pointer (some ⟨b, 0, none⟩)) (fun b w' => w'.heap[b]? = some (.cells #[.pointer (some ⟨p, 0, none⟩), .int .i64 at_, .int .i64 n, .pointer (some ⟨s, 0, none⟩), .int .i64 1, .map (some bm), .slice none 0 0, .int .i64 0, .slice none 0 0, .int .i64 first, .int .i64 0, .int .i64 0, .slice q5 note.length c5, .bool false] 93 (0, 0)) ∧ bm < b) (by rfl) (by rfl) (by kernel_rfl) (by kernel_rfl) (fun x y h => by injection h with h; injection h with h; injection h) (fun x => keepStable fun _ _ h k => ⟨k.at h.1 (fun e => e), h.2⟩) (fun w' hB hm K hK => ?_) (fun bj => ?_)
  · have hm1 := hm.1 (by kernel_rfl)
    unfold gives
    go_simp
    exact hK _ _ ((Keeps.refl _ _).alloc _) ⟨heap_alloc_new _ _, lt_of hm1.1⟩
  try simp only [Act.put]
  refine walk_nil fun w6 hB hF => ?_
  have HK6 := Lib.hid hB.1
  have HJ6 := Lib.hid hF.1
  have HM6 := Lib.hid hF.2.1
  clear hB hF
  simp only [List.drop_succ_cons, List.drop_zero]
  have HR6 : Hid (RB w0 w6 ⟨p, mn, ms, mc, s, bj, bm, .slice none 0 0, .slice none 0 0, .slice q5 note.length c5⟩ d (RM.start at_ n first note num) c) := Lib.hid (by
    have hb6 : Below w5.heap.size w5 w6 := HK6.out.below (Nat.le_refl _) (fun _ _ e => e)
    have h5 := HD5.out.below hb6
    have hl5 := fun k hk => HD5.out.lay.lt k hk
    have hw0 := Hw0.out
    have hw5 := B5.out.size
    have hbm := HM6.out.2
    have hbj := HJ6.out.2
    have hls := Hls.out
    exact ⟨h5, ⟨(HS5.out.weak.below hb6), HJ6.out.1, ⟨[], imap_nil (clock := 0) HM6.out.1, fun _ => rfl⟩, .inl ⟨rfl, rfl⟩, .inl ⟨rfl, rfl⟩, (Bytes.of_sub HN5.out).below hb6, by show w0.heap.size ≤ s; omega, by show w0.heap.size ≤ bj; omega, by show w0.heap.size ≤ bm; omega, fun hk => by have := hl5 _ hk; simp at this; omega, fun k e => (by cases e), fun k e => (by cases e)⟩⟩)
  go_wp2
  refine Calm.normal ?_
  go_upto_region 14 with fail
  have hld := jload_any (ahead := ahead) (start := start) (HR6.out.below (below_drew w6)) Hc.out.live.down h0 h2 h3 (by show at_ + 2 + n ≤ d.size; omega) hs0 hs1 rfl rfl Hpad.out
  have K6 := HK6.out.drew
  have y0 : w6.drew.cell? ⟨g4, o4, none⟩ = some (.int .i64 start) := K6.cell Y5.out.1 (fun e => e)
  have y2 : w6.drew.cell? ⟨g4, o4 + 2, none⟩ = some (.int .i64 ahead) := K6.cell Y5.out.2.2 (fun e => e)
  have HK7 := Lib.hid K6
  clear K6 HR5 HS5 HN5
  refine wp_region_still_tail 7 (by kernel_rfl) (by kernel_rfl) ?_
  simp only [List.take_succ_cons, List.take_zero, List.drop_succ_cons, List.drop_zero]
  change wpStill _ _ w6.drew (fun a' => wpList _ _ _ _ a' w6.drew) _ _
  have Hsz6 : Hid (w6.drew.heap.size = w6.heap.size) := Lib.hid rfl
  generalize w6.drew = w7 at hld y0 y2 HK7 Hsz6 ⊢
  repeat still_step
  refine wpStill_nil ?_
  go_wp2_with (go_at_call 75; (with_reducible refine hld.mono ?_); rintro _ w8 ⟨rfl, hpost⟩; clear hld)
  go_ret2
  obtain ⟨A', gens', starts', stream', fl', hRB, e1, e2, e3, e4, hS, ep, emn, ems, emc, ej, es⟩ := hpost
  have hw5 := B5.out.size
  have hbm := HM6.out.2
  have hbj := HJ6.out.2
  have hls := Hls.out
  have hf : ∀ k, JAd.Foot ⟨p, mn, ms, mc, s, bj, bm, .slice none 0 0, .slice none 0 0, .slice q5 note.length c5⟩ k → DFoot p mn ms mc k ∨ w.heap.size ≤ k := fun k hk => by
    rcases hk with hk | hk | hk | hk | hk | hk
    · exact .inl hk
    · right; have h1 : k = s := hk; omega
    · right; have h1 : k = bj := hk; omega
    · right; have h1 : k = bm := hk; omega
    · cases hk
    · cases hk
  have hsz7 := HK7.out.size
  have hw7 : w.heap.size ≤ w7.heap.size := by omega
  refine ⟨A', gens', starts', stream', fl', by rw [ej]; rfl, ⟨ep, emn, ems, emc⟩, hRB, e1, e2, e3, e4, ?_, fun k hk => ?_⟩
  · have h1 : Keeps (DFoot p mn ms mc) w w7 := (Keeps.of_below B5.out).trans' HK7.out (fun _ _ e => e.elim)
    exact h1.trans' hS.1 (fun i hi hk => by rcases hf i hk with h | h; exact h; omega)
  · rcases hS.2 k hk with h | h
    · exact hf k h
    · exact .inr (by omega)
end
end Go.Proofs.Ytbaphjnglkocpaa
