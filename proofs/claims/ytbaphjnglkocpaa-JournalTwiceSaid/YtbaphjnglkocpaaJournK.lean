import Derived.Test.YtbaphjnglkocpaaJournI
import Derived.Test.YtbaphjnglkocpaaSlotQ
/-
  The journal: Format, where the power is there.
-/
namespace Go.Proofs.Ytbaphjnglkocpaa
open Go.RowKit
def JM.new (at_ n : Int) : JM := ⟨at_, n, 1, fun _ => 0, 0, [], [], 1, 0, 0, [], false, 1, false⟩
/-- the device behind a Format -/
structure Fresh (d d' : Dev) (at_ n : Int) : Prop where
  live : Live d'
  size : d'.size = d.size
  clean : Clean d' at_ 1 (jrow 0 1 0 [])
  blank : ∀ i : Int, 0 ≤ i → i < n → d'.now (at_ + 2 + i) = Go.Proofs.Ytbaphjnglkocpaa.blank
  chg : ∀ j, d'.chg j = false
theorem JM.new_ok {at_ n : Int} {d : Dev} {c : Nat} (h0 : 0 ≤ at_) (h1 : 2 ≤ n) (h2 : n ≤ 2048) (h3 : at_ + 2 + n ≤ d.size) : (JM.new at_ n).Ok d c :=
  ⟨h1, h2, h0, h3, Int.le_refl _, by show (0 : Int) * 470 + (0 : Int) ≤ 5000 * (c : Int); omega, by show (0 : Nat) < 470; omega, fun r hr => by simp [JM.new] at hr, by show ((0 : Nat) : Int) ≤ n * 470; omega, by show (1 : Int) ≤ 1; omega, by show (1 : Int) + ((0 : Nat) : Int) ≤ _; omega, Nat.le_refl _, Int.le_refl _, by show (0 : Int) ≤ n * 470; omega, by show (0 : Nat) ≤ 400; omega, by show (1 : Int) ≤ 1; omega, by show (1 : Int) ≤ _; omega, by show (1 : Int) ≤ 1; omega, by show (1 : Int) ≤ _; omega, fun k => ⟨by show (0 : Int) ≤ 0; omega, by show (0 : Int) ≤ _; omega⟩⟩
theorem jrow0_len : (jrow 0 1 0 []).length ≤ 480 := by
  unfold jrow rowB
  have := nums3_len 0 1 0
  have := num_len ((([] : List UInt8).length : Nat) : Int)
  rw [List.length_append, List.length_append]
  simp at *; omega
set_option maxRecDepth 100000 in
set_option maxHeartbeats 2000000 in
theorem jformat_live {w0 w : World} {p mn ms mc m : Nat} {d : Dev} {at_ n : Int} (hD : DB w0 w p mn ms mc d m) (hm : m ≤ 1000000) (hlv : Live d) (h0 : 0 ≤ at_) (h2 : 2 ≤ n) (h3 : n ≤ 2048) (hf : at_ ≤ d.size - 2 - n) :
    Calls Try.prog 50 #[.pointer (some ⟨p, 0, none⟩), .int .i64 at_, .int .i64 n] w fun e w' => ∃ A d', e = .returned (.tuple #[.pointer (some ⟨A.j, 0, none⟩), .nilIface]) ∧ (A.p = p ∧ A.mn = mn ∧ A.ms = ms ∧ A.mc = mc) ∧ JB w0 w' A d' (JM.new at_ n) (m + 3000) ∧ Fresh d d' at_ n ∧ Keeps (DFoot p mn ms mc) w w' ∧ ∀ k, A.Foot k → DFoot p mn ms mc k ∨ w.heap.size ≤ k := by
  have hal0 : Below w.heap.size w (w.alloc (.cells #[.pointer (some ⟨p, 0, none⟩), .int .i64 at_, .int .i64 n] 90)) := (Below.refl _ _).alloc (Nat.le_refl _) _
  have hfit : ringFits d at_ n = true := by unfold ringFits; simp; omega
  have hrf := rfits_dev (hD.below hal0) at_ n
  rw [hfit] at hrf
  have hz2 := hD.ok.z2
  have ha1 : at_ ≤ 4096 := by omega
  obtain ⟨nn, rfl⟩ : ∃ nn : Nat, n = nn := ⟨n.toNat, by omega⟩
  obtain ⟨cs, hmk⟩ := make_512
  have hmk1 := fun w => (hmk w).1
  have Hmk := Lib.hid (fun w => (hmk w).2)
  have HD := Lib.hid hD
  have HR0 := Lib.hid (heap_alloc_new w (.cells #[.pointer (some ⟨p, 0, none⟩), .int .i64 at_, .int .i64 nn] 90))
  have Hlv := Lib.hid hlv
  have Hf : Hid (at_ + 2 + nn ≤ d.size) := Lib.hid (by omega)
  have Hal0 := Lib.hid hal0
  clear hD hmk hlv hal0
  go_enter Try.func50, Try.ntmps50
  go_upto_region 4 with (go_at_call 70; (with_reducible refine hrf.mono ?_); rintro _ w1 ⟨rfl, b1⟩; clear hrf)
  have HD1 := Lib.hid (HD.out.below (Hal0.out.trans (b1.mono (by simp))))
  have HR1 : Hid (RingAt w1 w.heap.size (some ⟨p, 0, none⟩) at_ nn) := Lib.hid (RingAt.below (w := w.alloc _) HR0.out b1)
  have HK1 : Hid (Keeps (DFoot p mn ms mc) w w1) := Lib.hid (Keeps.of_below (Hal0.out.trans (b1.mono (by simp))))
  clear b1 HD HR0 Hal0
  go_wp2
  go_loopw [23] (fun o wr => ∃ (i : Nat) (d' : Dev), o = .int .i64 i ∧ i ≤ nn ∧ DB w0 wr p mn ms mc d' (m + i) ∧ Live d' ∧ d'.size = d.size ∧ (∀ k : Int, 0 ≤ k → k < i → d'.now (at_ + 2 + k) = blank) ∧ RingAt wr w.heap.size (some ⟨p, 0, none⟩) at_ nn ∧ Keeps (DFoot p mn ms mc) w wr) (fun o _ => nn - (intOf o).toNat)
  case atStart => exact ⟨0, d, rfl, Nat.zero_le _, HD1.out, Hlv.out, rfl, fun k h0 h1 => by omega, HR1.out, HK1.out⟩
  case round =>
    clear HD1 HR1 HK1
    obtain ⟨i, d', rfl, hi, hD, hlv, hsz, hbl, hR, hK⟩ := hrel
    by_cases hlt : i < nn
    · have e1 : decide ((i : Int) < (nn : Int)) = true := by simp; omega
      have hal : Below wr.heap.size wr (wr.alloc (.cells cs 5)) := (Below.refl _ _).alloc (Nat.le_refl _) _
      have hw0 := dwrite_ok (d := d') (k := at_ + 2 + i) (v := blank) (by omega) (by have := Hf.out; omega) List.length_replicate hlv.step.1
      have hw1 := write_one (hD.below hal) (by omega) (at_ + 2 + i) (Hmk.out wr) 39 (by rw [show blank.length = 512 from List.length_replicate]; omega)
      rw [show (wr.alloc (.cells cs 5)).heap.size = wr.heap.size + 1 from by simp, hw0] at hw1
      rw [errV_zero] at hw1
      have Hlz : Hid (Keeps (DFoot p mn ms mc) wr (wr.alloc (.cells cs 5))) := Lib.hid (Keeps.of_below hal)
      have HK := Lib.hid hK
      have HR := Lib.hid hR
      have HD := Lib.hid hD
      have Hnow : Hid (∀ j, (d'.step.2.put (at_ + 2 + i) blank).now j = if j = at_ + 2 + i then blank else d'.now j) := Lib.hid (fun j => dput_now j)
      have Hlv2 : Hid (Live (d'.step.2.put (at_ + 2 + i) blank)) := Lib.hid ⟨hlv.step.2.1.down, hlv.step.2.1.armed⟩
      have Hsz2 : Hid ((d'.step.2.put (at_ + 2 + i) blank).size = d.size) := Lib.hid ((step_size d').trans hsz)
      have Hbl := Lib.hid hbl
      generalize d'.step.2.put (at_ + 2 + i) blank = d2 at hw1 Hnow Hlv2 Hsz2
      clear hal hD hlv hsz hbl hR hK hw0
      go_wp2_with (go_at_call 22; (with_reducible refine hw1.mono ?_); rintro _ w2 ⟨rfl, h2, k2⟩; clear hw1)
      have HK2 : Hid (Keeps (DFoot p mn ms mc) w w2) := Lib.hid (HK.out.trans (Hlz.out.trans k2))
      have HR2 : Hid (RingAt w2 w.heap.size (some ⟨p, 0, none⟩) at_ nn) := Lib.hid ((Hlz.out.trans k2).at HR.out (HR.out.not_dev HD.out.lay))
      have H2 := Lib.hid h2
      clear h2 k2
      go_roundw
      case rel =>
        refine ⟨i + 1, d2, by go_num, by omega, H2.out, Hlv2.out, Hsz2.out, fun k hk0 hk1 => ?_, HR2.out, HK2.out⟩
        rw [Hnow.out]
        split
        · rfl
        · exact Hbl.out k hk0 (by omega)
      case measure => simp [intOf]; omega
    · obtain rfl : i = nn := by omega
      have e1 : decide ((i : Int) < (i : Int)) = false := by simp
      have hs0 := hlv.step
      have hsy := sync_db hD (by omega)
      obtain ⟨y1, y2, y3, y4, y5, _, y7⟩ := dsync_ok hs0.1
      rw [y1, errV_zero] at hsy
      have Hlv2 : Hid (Live d'.sync.2) := Lib.hid ⟨y4, by rw [y5]; exact hlv.armed⟩
      have Hsz2 : Hid (d'.sync.2.size = d.size) := Lib.hid (y3.trans hsz)
      have Hbl : Hid (∀ k : Int, 0 ≤ k → k < i → d'.sync.2.now (at_ + 2 + k) = blank) := Lib.hid (fun k h0 h1 => by rw [y2]; exact hbl k h0 h1)
      have HK := Lib.hid hK
      have HR := Lib.hid hR
      have HD := Lib.hid hD
      generalize d'.sync.2 = d2 at hsy Hlv2 Hsz2 Hbl
      clear hD hlv hsz hbl hR hK hs0 y1 y2 y3 y4 y5 y7
      go_upto_region 14 with (go_at_call 57; (with_reducible refine hsy.mono ?_); rintro _ w2 ⟨rfl, h2, k2⟩; clear hsy)
      have HK2 : Hid (Keeps (DFoot p mn ms mc) w w2) := Lib.hid (HK.out.trans k2)
      have HR2 : Hid (RingAt w2 w.heap.size (some ⟨p, 0, none⟩) at_ i) := Lib.hid (k2.at HR.out (HR.out.not_dev HD.out.lay))
      have H2 := Lib.hid h2
      clear h2 k2 HK HR HD
      have hrw := jrow_any (w := w2) (start := 0) (first := 1) (ahead := 0) Bytes.nil (by unfold int64; omega) (by unfold int64; omega) (by unfold int64; omega) (by simp)
      have hmm := @run_makeMap Try.prog
      go_upto_region 17 with (first
        | (go_at_call 53; (with_reducible refine hrw.mono ?_); rintro _ w3 ⟨q3, c3, rfl, hb3, b3⟩; clear hrw; have hsf := format_live (H2.out.below b3) (by omega) Hlv2.out h0 (by have := Hf.out; have := Hsz2.out; omega) hb3 jrow0_len; have HR3 := Lib.hid (HR2.out.below b3); have HK3 : Hid (Keeps (DFoot p mn ms mc) w w3) := Lib.hid (HK2.out.trans (Keeps.of_below b3)); have HD3 := Lib.hid (H2.out.below b3); clear b3 hb3)
        | (go_at_call 79; (with_reducible refine hsf.mono ?_); rintro _ w4 ⟨s, d4, rfl, h4, cl4, sz4, now4, chg4, S4, ls4, k4⟩; clear hsf; have HR4 : Hid (RingAt w4 w.heap.size (some ⟨p, 0, none⟩) at_ i) := Lib.hid (k4.at HR3.out (HR3.out.not_dev HD3.out.lay)); have HK4 : Hid (Keeps (DFoot p mn ms mc) w w4) := Lib.hid (HK3.out.trans k4)))
      obtain ⟨z0, z1, z2⟩ := HR4.out.cells3
      have H4 := Lib.hid h4
      have Cl4 := Lib.hid cl4
      have S4' := Lib.hid S4
      have Hls : Hid (w.heap.size ≤ s ∧ w0.heap.size ≤ s) := Lib.hid ⟨Nat.le_trans HK3.out.size ls4, Nat.le_trans HD3.out.bel.size ls4⟩
      have Hfr : Hid (Fresh d d4 at_ i) := Lib.hid ⟨cl4.live, sz4.trans Hsz2.out, cl4, fun k hk0 hk1 => by rw [now4 _ (by omega) (by omega)]; exact Hbl.out k hk0 hk1, chg4⟩
      clear h4 cl4 sz4 now4 chg4 S4 ls4 k4
      go_wp2
      go_ret2
      have b4 : Below w4.heap.size w4 (w4.alloc (.map #[] 0)) := (Below.refl _ _).alloc (Nat.le_refl _) _
      have b5 : Below w4.heap.size w4 ((w4.alloc (.map #[] 0)).alloc (.cells #[.int .i64 0] 3)) := b4.alloc (by simp) _
      have b6 : Below w4.heap.size w4 (((w4.alloc (.map #[] 0)).alloc (.cells #[.int .i64 0] 3)).alloc (.cells #[.pointer (some ⟨p, 0, none⟩), .int .i64 at_, .int .i64 i, .pointer (some ⟨s, 0, none⟩), .int .i64 1, .map (some w4.heap.size), .slice none 0 0, .int .i64 0, .slice (some ⟨w4.heap.size + 1, 0, none⟩) 1 1, .int .i64 1, .int .i64 0, .int .i64 0, .slice none 0 0, .bool false] 93)) := b5.alloc (by simp; omega) _
      have h4 := H4.out
      have hbel := h4.bel.size
      have hwk := HK4.out.size
      have hsl := S4'.out.lt
      have hft := fun k hk => h4.lay.lt k hk
      have hnds := S4'.out.weak.not_dev h4.lay
      refine ⟨⟨p, mn, ms, mc, s, w4.heap.size + 1 + 1, w4.heap.size, .slice none 0 0, .slice (some ⟨w4.heap.size + 1, 0, none⟩) 1 1, .slice none 0 0⟩, d4, rfl, ⟨rfl, rfl, rfl, rfl⟩, ⟨(h4.below b6).more (by omega), ?_, JM.new_ok h0 h2 h3 (by have := Hf.out; have := Hfr.out.size; omega)⟩, Hfr.out, HK4.out.trans (Keeps.of_below b6), ?_⟩
      · refine ⟨S4'.out.weak.below b6, alloc_at _ _ _ (by simp), ⟨[], imap_nil (clock := 0) (at_alloc (at_alloc (heap_alloc_new w4 _) _) _), fun _ => rfl⟩, .inl ⟨rfl, rfl⟩, ?_, Bytes.nil, ?_, ?_, ?_, ?_, fun k e => (by cases e), fun k e => ?_⟩
        · have hr : RowAt (((w4.alloc (.map #[] 0)).alloc (.cells #[.int .i64 0] 3)).alloc (.cells #[.pointer (some ⟨p, 0, none⟩), .int .i64 at_, .int .i64 i, .pointer (some ⟨s, 0, none⟩), .int .i64 1, .map (some w4.heap.size), .slice none 0 0, .int .i64 0, .slice (some ⟨w4.heap.size + 1, 0, none⟩) 1 1, .int .i64 1, .int .i64 0, .int .i64 0, .slice none 0 0, .bool false] 93)) (w4.heap.size + 1) 1 [Value.int .i64 0] := RowAt.of_block (xs := [Value.int .i64 0]) (more := []) (T := 3) (at_alloc (alloc_at _ _ _ (by simp)) _)
          exact hr.sub (by omega) (by unfold maxLen; omega) (by show w0.heap.size ≤ w4.heap.size + 1; omega)
        · exact Hls.out.2
        · show w0.heap.size ≤ w4.heap.size + 1 + 1; omega
        · show w0.heap.size ≤ w4.heap.size; omega
        · intro hk; have := hft _ hk; simp at this
        · have e' : some (w4.heap.size + 1) = some k := e
          cases e'
          exact ⟨fun hk => by have := hft _ hk; omega, by show w4.heap.size + 1 ≠ s; omega, by show w4.heap.size + 1 ≠ w4.heap.size + 1 + 1; omega, by show w4.heap.size + 1 ≠ w4.heap.size; omega, fun _ => rfl⟩
      · intro k hk
        rcases hk with hk | rfl | rfl | rfl | hk | hk
        · exact .inl hk
        · exact .inr Hls.out.1
        · right; show w.heap.size ≤ w4.heap.size + 1 + 1; omega
        · right; show w.heap.size ≤ w4.heap.size; omega
        · cases hk
        · have e' : some (w4.heap.size + 1) = some k := hk
          cases e'; right; omega
end Go.Proofs.Ytbaphjnglkocpaa
