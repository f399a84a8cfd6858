import Derived.Test.YtbaphjnglkocpaaWireE
import Derived.Test.YtbaphjnglkocpaaRowAt
/-
  Boxes: Box.
-/
namespace Go.Proofs.Ytbaphjnglkocpaa
open Go.RowKit
theorem byteV_mod (n : Nat) : byteV (UInt8.ofNat n) = .int .u8 ((n : Int) % 256) := by
  unfold byteV; rw [UInt8.toNat_ofNat']; congr 1
theorem byteV_div (n : Nat) : byteV (UInt8.ofNat (n / 256)) = .int .u8 ((n : Int) / 256 % 256) := by rw [byteV_mod]; rfl
def hdrB (n : Nat) : List UInt8 := [0, 0, 0, 0, UInt8.ofNat (n / 256), UInt8.ofNat n]
theorem make_box (sz : Nat) (h6 : 6 ≤ sz) (hs : sz ≤ 65536) (w : World) : ∃ cs : Array Value, (Instr.makeSlice 39 (.int .i64 6) (.int .i64 (sz : Int))).run Try.prog w = .ok (.slice (some ⟨w.heap.size, 0, none⟩) 6 sz) (w.alloc (.cells cs 5)) ∧
    RowAt (w.alloc (.cells cs 5)) w.heap.size sz (bytesV [0, 0, 0, 0, 0, 0]) := by
  obtain ⟨i0, hi, hz0, hz1, hz2⟩ := info_parts info8
  have hr := run_make (P := Try.prog) w 39 5 i0 (.int .u8 0) Try.underlying39 hi hz0 .i64 .i64 6 (sz : Int) (by omega) (by omega) (by rw [hz2]; omega) (by omega)
  rw [hz1, Nat.mul_one, Int.toNat_natCast] at hr
  refine ⟨_, hr, ?_⟩
  have e : madeCells (Value.int .u8 0).cells sz = (bytesV [0, 0, 0, 0, 0, 0] ++ List.replicate (sz - 6) (Value.int .u8 0)).toArray := by
    apply Array.ext'
    show (madeCells #[Value.int .u8 0] sz).toList = _
    have h66 : sz = 6 + (sz - 6) := by omega
    rw [toList_madeCells_one]
    conv => lhs; rw [h66]
    rw [← List.replicate_append_replicate]
    rfl
  rw [e]
  have := RowAt.of_block (w := w.alloc (.cells (bytesV [0, 0, 0, 0, 0, 0] ++ List.replicate (sz - 6) (Value.int .u8 0)).toArray 5)) (g := w.heap.size) (xs := bytesV [0, 0, 0, 0, 0, 0]) (more := List.replicate (sz - 6) (Value.int .u8 0)) (T := 5) (heap_alloc_new _ _)
  rwa [List.length_append, bytesV_len, List.length_replicate, show [0, 0, 0, 0, 0, (0 : UInt8)].length + (sz - 6) = sz from by simp; omega] at this
theorem byteV_wrap (n : Nat) : byteV (UInt8.ofNat n) = .int .u8 (IntKind.u8.wrap (n : Int)) := by
  unfold byteV
  rw [UInt8.toNat_ofNat', IntKind.wrap_u8]; congr 1
set_option maxRecDepth 100000 in
set_option maxHeartbeats 1000000 in
theorem Box_ok {w : World} {v : Value} {ps : List (List UInt8)} {sz : Nat} (hp : Parts w v ps) (h6 : 6 ≤ sz) (hs : sz ≤ 65536) (hl : ps.flatten.length + 6 ≤ sz) (hn : ps.length ≤ 1000000) :
    Calls Try.prog 105 #[.int .i64 (sz : Int), v] w fun e w' => ∃ g, e = .returned (.tuple #[.slice (some ⟨g, 0, none⟩) sz sz, .nilIface]) ∧ w.heap.size ≤ g ∧ RowAt w' g sz (bytesV (boxOf sz ps.flatten)) ∧ Below w.heap.size w w' := by
  obtain ⟨i0, hi, hz0, hz1, hz2⟩ := info_parts info8
  have Hp := Lib.hid hp
  obtain ⟨q, cap, rfl, hc1, hc2, h3⟩ := hp
  have H3 := Lib.hid h3
  have Hl := Lib.hid hl
  unfold maxLen at hc2
  have hs1 : ((sz : Nat) : Int) ≤ 65536 := by omega
  have h61 : ¬ ((sz : Nat) : Int) < 6 := by omega
  clear h3 hl
  go_enter Try.func105, Try.ntmps105
  go_wp2
  go_loop [6, 22] (fun s i => ∃ k : Nat, k ≤ ps.length ∧ i = .int .i64 k ∧ s = .int .i64 (tot ps k)) (fun _ i => ps.length - (intOf i).toNat)
  case atStart => exact ⟨0, by omega, rfl, rfl⟩
  case round =>
    obtain ⟨k, hk, rfl, rfl⟩ := hrel
    by_cases hlt : k < ps.length
    · obtain ⟨l, hl⟩ : ∃ l, ps[k]? = some l := ⟨_, List.getElem?_eq_getElem hlt⟩
      obtain ⟨a, u, rfl, hcell, hu⟩ := H3.out k l hl
      obtain ⟨q2, cap2, rfl, hq1, hq2, _⟩ := hu
      have hft := tot_succ hl
      have hle := tot_le ps (k + 1)
      have Hft := Lib.hid hft
      have hlL : (tot ps k : Int) + (l.length : Int) ≤ (sz : Int) - 6 := by have := Hl.out; omega
      clear hft hl hle
      go_wp2
      go_round
      case rel => exact ⟨k + 1, by omega, by go_num, by rw [Hft.out]; go_num⟩
      case measure => simp [intOf]; omega
    · obtain rfl : k = ps.length := by omega
      have Htot : Hid (tot ps ps.length = ps.flatten.length) := Lib.hid (by unfold tot; rw [List.take_length])
      obtain ⟨cs, hmk, hrow⟩ := make_box sz h6 hs w
      have Hrow := Lib.hid hrow
      have hg0 : Hid (w.heap.size < (w.alloc (.cells cs 5)).heap.size) := Lib.hid (by simp)
      have hb0 : Hid (Below w.heap.size w (w.alloc (.cells cs 5))) := Lib.hid ((Below.refl _ _).alloc (Nat.le_refl _) _)
      clear hrow
      generalize htl : tot ps ps.length = L at Htot ⊢
      have Htl := Lib.hid htl
      clear htl
      go_upto_region 12 with fail
      clear hmk
      generalize w.alloc (.cells cs 5) = w1 at Hrow hg0 hb0 ⊢
      have hbg : ¬ w.heap.size = w.heap.size + 1 := by omega
      clear hbg
      have c4 := Hrow.out.at_ 4 _ (by rfl)
      have c5 := Hrow.out.at_ 5 _ (by rfl)
      have f4 := (Hrow.out.there 4 (by omega)).2
      have f5 := (Hrow.out.there 5 (by omega)).2
      go_upto_region 13 with fail
      have hr2 := (Hrow.out.set 4 (by rw [bytesV_len]; simp) (byteV (UInt8.ofNat (L / 256)))).set 5 (by rw [List.length_set, bytesV_len]; simp) (byteV (UInt8.ofNat L))
      rw [show ((bytesV [0, 0, 0, 0, 0, 0]).set 4 (byteV (UInt8.ofNat (L / 256)))).set 5 (byteV (UInt8.ofNat L)) = bytesV (hdrB L ++ (ps.take 0).flatten) from rfl, byteV_div, byteV_mod] at hr2
      have hb2 : Below w.heap.size w ((w1.setCell ⟨w.heap.size, 4, none⟩ (.int .u8 ((L : Int) / 256 % 256))).setCell ⟨w.heap.size, 5, none⟩ (.int .u8 ((L : Int) % 256))) := (hb0.out.setCell (Nat.le_refl _) _).setCell (Nat.le_refl _) _
      have Hr2 := Lib.hid hr2
      have Hb2 := Lib.hid hb2
      clear c4 c5 f4 f5 hr2 hb2 hb0 Hrow hg0
      generalize (w1.setCell ⟨w.heap.size, 4, none⟩ (.int .u8 ((L : Int) / 256 % 256))).setCell ⟨w.heap.size, 5, none⟩ (.int .u8 ((L : Int) % 256)) = w2 at Hr2 Hb2 ⊢
      go_wp2
      go_loopw [9, 53] (fun b i wr => ∃ k n : Nat, k ≤ ps.length ∧ i = .int .i64 k ∧ b = .slice (some ⟨w.heap.size, 0, none⟩) n sz ∧ n = 6 + tot ps k ∧ RowAt wr w.heap.size sz (bytesV (hdrB L ++ (ps.take k).flatten)) ∧ Below w.heap.size w wr) (fun _ i _ => ps.length - (intOf i).toNat)
      case atStart => exact ⟨0, 6, by omega, rfl, rfl, by simp [tot], Hr2.out, Hb2.out⟩
      case round =>
        clear Hr2 Hb2
        obtain ⟨k, n, hk, rfl, rfl, hn6, hrow, hb⟩ := hrel
        have hlen : (bytesV (hdrB L ++ (ps.take k).flatten)).length = n := by rw [bytesV_len, List.length_append, hn6]; rfl
        have htle := tot_le ps k
        have hll := Hl.out
        by_cases hlt : k < ps.length
        · obtain ⟨l, hl⟩ : ∃ l, ps[k]? = some l := ⟨_, List.getElem?_eq_getElem hlt⟩
          obtain ⟨q', cap', e, _, _, h3'⟩ := Hp.out.below hb
          simp only [Value.slice.injEq, true_and] at e
          obtain ⟨a, u, hqa, hcell, hu⟩ := h3' k l hl
          obtain rfl : q = some a := e.1.trans hqa
          have hsrc := hu.src
          have hts := tot_succ hl
          have htl2 := tot_le ps (k + 1)
          have hrm : (bytesV (hdrB L ++ (ps.take k).flatten)).length + (bytesV l).length ≤ sz := by rw [hlen, bytesV_len]; omega
          have hr := fun ty => run_append_in (P := Try.prog) (ty := ty) Try.underlying39 hi hz1 hrow n hlen.symm hsrc hrm
          have happ := hrow.app (bytesV l) hrm
          rw [hlen] at happ
          rw [bytesV_len] at hr
          have Hn6 := Lib.hid hn6
          have Happ : Hid (RowAt (wr.setCells w.heap.size n (bytesV l)) w.heap.size sz (bytesV (hdrB L ++ (ps.take (k + 1)).flatten))) := Lib.hid (by
            have e : bytesV (hdrB L ++ (ps.take (k + 1)).flatten) = bytesV (hdrB L ++ (ps.take k).flatten) ++ bytesV l := by rw [flat_take hl]; unfold bytesV; simp
            rw [e]; exact happ)
          have Hbb : Hid (Below w.heap.size w (wr.setCells w.heap.size n (bytesV l))) := Lib.hid (hb.trans ((Keeps.setCells (w := wr) w.heap.size n (bytesV l)).below hb.size (fun j hj e => by omega)))
          have Hts : Hid (n + l.length = 6 + tot ps (k + 1)) := Lib.hid (by rw [hn6, hts]; omega)
          have Hr := Lib.hid hr
          obtain ⟨q2, cap2, rfl, hq1, hq2, _⟩ := hu
          clear happ hr hrow hb hlen hn6 h3' e hqa hl hsrc hts htl2 hrm
          go_wp2_with (at_builtin; refine Lib.wpList_append_run _ rfl _ _ _ _ rfl _ _ rfl rfl _ _ (Hr.out _) ?_)
          go_roundw
          case rel => exact ⟨k + 1, n + l.length, by omega, by go_num, rfl, Hts.out, Happ.out, Hbb.out⟩
          case measure => simp [intOf]; omega
        · obtain rfl : k = ps.length := by omega
          rw [List.take_length] at hrow hlen
          have htl := Htl.out
          obtain ⟨m, hm⟩ : ∃ m : Nat, (sz : Int) - (n : Int) = (m : Int) := ⟨sz - n, by omega⟩
          have hnm : n + m = sz := by omega
          have hr := fun ty => run_append_zeros_in (P := Try.prog) (ty := ty) Try.underlying39 Try.underlying3 hi hz0 hz1 (by omega) rfl rfl hrow n hlen.symm m (by omega) (by omega)
          have happ := hrow.app (List.replicate m (.int .u8 0)) (by rw [List.length_replicate]; omega)
          rw [hlen] at happ
          rw [hnm] at hr
          have Hbody : Hid (bytesV (hdrB L ++ ps.flatten) ++ List.replicate m (.int .u8 0) = bytesV ([0, 0, 0, 0] ++ boxBody sz ps.flatten)) := Lib.hid (by
            have hL : L = ps.flatten.length := by rw [← Htot.out]
            have hm2 : m = sz - 6 - ps.flatten.length := by omega
            unfold hdrB boxBody
            rw [hm2, hL]
            unfold bytesV
            simp only [List.map_append, List.map_cons, List.map_replicate, List.cons_append, List.nil_append]
            rfl)
          rw [Hbody.out] at happ
          have Happ := Lib.hid happ
          have Hbb : Hid (Below w.heap.size w (wr.setCells w.heap.size n (List.replicate m (.int .u8 0)))) := Lib.hid (hb.trans ((Keeps.setCells (w := wr) w.heap.size n (List.replicate m (.int .u8 0))).below hb.size (fun j hj e => by omega)))
          have Hr := Lib.hid hr
          have hnb : ((n : Nat) : Int) ≤ 65536 := by omega
          clear happ hr hrow hb hlen hn6 hnm htle hll htl
          go_upto_region 19 with (at_builtin; refine Lib.wpList_append_run _ rfl _ _ _ _ rfl _ _ rfl rfl _ _ (Hr.out _) ?_)
          clear hm
          generalize wr.setCells w.heap.size n (List.replicate m (.int .u8 0)) = w3 at Happ Hbb ⊢
          have hB4 : Bytes w3 (.slice (some ⟨w.heap.size, 4, none⟩) (sz - 4) (sz - 4)) (boxBody sz ps.flatten) := by
            have := Bytes.from (Happ.out.bytes (by unfold maxLen; omega) : Bytes w3 (.slice (some ⟨w.heap.size, 0, none⟩) ([0, 0, 0, 0] ++ boxBody sz ps.flatten).length sz) _) 4 (by simp)
            have hlb : ([0, 0, 0, 0] ++ boxBody sz ps.flatten).length = sz := by rw [List.length_append, boxBody_len (by have := Hl.out; omega)]; simp; omega
            rw [hlb] at this
            have e : Option.map (fun x => x.add 4) (some (⟨w.heap.size, 0, none⟩ : Addr)) = some ⟨w.heap.size, 4, none⟩ := by rw [Option.map_some, Addr.add_mid]
            rw [e] at this
            exact this
          have hck := check_any (one_part hB4 39)
          rw [show [boxBody sz ps.flatten].flatten = boxBody sz ps.flatten from by simp] at hck
          have hs4 : ¬ sz = 4 := by omega
          have hs4' : (4 : Int) ≤ (sz : Int) := by omega
          clear hB4
          go_upto_region 20 with (go_at_call 118; (with_reducible refine hck.mono ?_); rintro _ _ ⟨rfl, rfl⟩; clear hck)
          have hal : Below w3.heap.size w3 (w3.alloc (.cells #[.slice (some ⟨w.heap.size, 4, none⟩) (sz - 4) (sz - 4)] 39)) := (Below.refl _ _).alloc (Nat.le_refl _) _
          have H4 := Lib.hid (Happ.out.below (by omega) hal)
          have Hb4 := Lib.hid (Hbb.out.trans (hal.mono Hbb.out.size))
          have hC := (crc (boxBody sz ps.flatten)).isLt
          have Hbx : Hid (boxOf sz ps.flatten = crcBytes (crc (boxBody sz ps.flatten)) ++ boxBody sz ps.flatten) := Lib.hid rfl
          have Hlen4 : Hid (4 ≤ ([0, 0, 0, 0] ++ boxBody sz ps.flatten).length) := Lib.hid (by simp)
          clear hal Happ Hbb
          generalize w3.alloc (.cells #[.slice (some ⟨w.heap.size, 4, none⟩) (sz - 4) (sz - 4)] 39) = w4 at H4 Hb4 ⊢
          unfold crcBytes at Hbx
          generalize (crc (boxBody sz ps.flatten)).toNat = C at hC Hbx ⊢
          generalize boxBody sz ps.flatten = bb at H4 Hbx Hlen4 ⊢
          have c0 := H4.out.at_ 0 _ (by rfl)
          have c1 := H4.out.at_ 1 _ (by rfl)
          have c2 := H4.out.at_ 2 _ (by rfl)
          have c3 := H4.out.at_ 3 _ (by rfl)
          have f0 := (H4.out.there 0 (by omega)).2
          have f1 := (H4.out.there 1 (by omega)).2
          have f2 := (H4.out.there 2 (by omega)).2
          have f3 := (H4.out.there 3 (by omega)).2
          have hlt0 : (0 : Int) < (sz : Int) := by omega
          have hlt1 : (1 : Int) < (sz : Int) := by omega
          have hlt2 : (2 : Int) < (sz : Int) := by omega
          have hlt3 : (3 : Int) < (sz : Int) := by omega
          go_wp2
          go_ret2
          have hl4 : 4 ≤ (bytesV ([0, 0, 0, 0] ++ bb)).length := by rw [bytesV_len]; exact Hlen4.out
          have e0 : Value.int .u8 ((C : Int) / 16777216) = byteV (UInt8.ofNat (C / 16777216)) := by rw [byteV_of (by omega)]; rfl
          have e1 : Value.int .u8 ((C : Int) / 65536 % 256) = byteV (UInt8.ofNat (C / 65536)) := by rw [byteV_mod]; rfl
          have e2 : Value.int .u8 ((C : Int) / 256 % 256) = byteV (UInt8.ofNat (C / 256)) := by rw [byteV_mod]; rfl
          have e3 : Value.int .u8 ((C : Int) % 256) = byteV (UInt8.ofNat C) := by rw [byteV_mod]
          refine ⟨w.heap.size, rfl, Nat.le_refl _, ?_, (((Hb4.out.setCell (Nat.le_refl _) _).setCell (Nat.le_refl _) _).setCell (Nat.le_refl _) _).setCell (Nat.le_refl _) _⟩
          rw [e0, e1, e2, e3, Hbx.out]
          exact (((H4.out.set 0 (by omega) _).set 1 (by rw [List.length_set]; omega) _).set 2 (by rw [List.length_set, List.length_set]; omega) _).set 3 (by rw [List.length_set, List.length_set, List.length_set]; omega) _
end Go.Proofs.Ytbaphjnglkocpaa
