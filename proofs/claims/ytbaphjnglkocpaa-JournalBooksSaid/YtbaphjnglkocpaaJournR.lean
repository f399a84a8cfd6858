import Derived.Test.YtbaphjnglkocpaaJournQ
import Derived.Deep.CutRange
/-
  JournalRooms.
-/
namespace Go.Proofs.Ytbaphjnglkocpaa
open Go.RowKit
set_option maxRecDepth 100000 in
set_option maxHeartbeats 2000000 in
theorem rooms_ok (n size : Int) (w : World) : Calls Try.prog 3 #[.int .i64 n, .int .i64 size] w fun e w' => e = .returned (.bool true) ∧ Below w.heap.size w w' := by
  have hal := alive_ok w
  obtain ⟨m1, hm1, em1⟩ := mod_of n 30 (by omega) (by omega)
  obtain ⟨m2, hm2, em2⟩ := mod_of size 4096 (by omega) (by omega)
  have em1' : wrap64 ((IntKind.u64.wrap n).tmod 30) = (m1 : Int) := em1
  have em2' : wrap64 ((IntKind.u64.wrap size).tmod 4096) = (m2 : Int) := em2
  obtain ⟨N, hN⟩ : ∃ N : Nat, 2 + (m1 : Int) = (N : Int) := ⟨2 + m1, by omega⟩
  obtain ⟨s, hs⟩ : ∃ s : Nat, 1 + (m2 : Int) = (s : Int) := ⟨1 + m2, by omega⟩
  have hN1 : 2 ≤ N := by omega
  have hN2 : N ≤ 31 := by omega
  have hs1 : 1 ≤ s := by omega
  have hs2 : s ≤ 4096 := by omega
  have hbg := fun w => begun_ok w (N : Int) (by omega) (by omega)
  obtain ⟨cz, hmk⟩ := make_n s (by omega)
  have hmk1 := fun w => (hmk w).1
  have Hmk := Lib.hid (fun w => (hmk w).2)
  have hm5 := makeErr 5
  have hq5 := eqErr 5 5 (by decide) (by decide)
  have hq0 := fun w => errEqK w 0 5 (by decide)
  rw [errV_zero] at hq0
  clear em1 em2 hmk
  go_enter Try.func3, Try.ntmps3
  go_upto_region 7 with (first
    | (go_at_call 10; (with_reducible refine hal.mono ?_); rintro _ w1 ⟨rfl, b1⟩; clear hal)
    | (go_at_call 11; (with_reducible refine (hbg _).mono ?_); rintro _ w2 ⟨b, A, d1, rfl, mo, h2, fr2, lb, nb⟩; clear hbg))
  have HB1 := Lib.hid b1
  have Hfr := Lib.hid fr2
  obtain ⟨qm, cm, hself⟩ := mo.self
  have Hst : Hid (∃ A' : JAd, JB w1 w2 A' d1 ((JM.new 1 N).addN 0 (List.replicate s 0)) 3000 ∧ A'.j = A.j ∧ w2.cell? ⟨b, 2, none⟩ = some (.pointer (some ⟨A.j, 0, none⟩)) ∧ ¬ A'.Foot b) := Lib.hid ⟨A, by unfold JM.addN; simp only [List.replicate_zero, List.append_nil]; exact h2, rfl, cell_in (o := 2) hself rfl, nb⟩
  clear h2 fr2 mo hself nb b1
  generalize A.j = j at Hst
  go_wp2
  go_loopw [6] (fun o wr => ∃ (k : Nat) (A' : JAd), o = .int .i64 k ∧ JB w1 wr A' d1 ((JM.new 1 N).addN k (List.replicate s 0)) (3000 + k) ∧ A'.j = j ∧ wr.cell? ⟨b, 2, none⟩ = some (.pointer (some ⟨j, 0, none⟩)) ∧ ¬ A'.Foot b ∧ k * (s + 2) ≤ N * 470) (fun o _ => 9000 - (intOf o).toNat)
  case atStart =>
    obtain ⟨A', h1, h2, h3, h4⟩ := Hst.out
    exact ⟨0, A', rfl, h1, h2, h3, h4, by omega⟩
  case round =>
    clear Hst
    obtain ⟨k, A', rfl, hJ, hj, hc2, hnb, hP⟩ := hrel
    have HJ := Lib.hid hJ
    have Hj := Lib.hid hj
    have Hnb := Lib.hid hnb
    have hk3 : k * 3 ≤ k * (s + 2) := Nat.mul_le_mul_left k (by omega)
    have hk9 : k < 9000 := by omega
    have e0 : decide ((k : Int) < 9000) = true := by simp; omega
    have hfr : ((JM.new 1 N).addN k (List.replicate s 0)).free = N * 470 - (k * (s + 2) : Nat) := by
      rw [JM.addN_free, List.length_replicate]
      show (N : Int) * 470 - (0 : Nat) - (k : Int) * ((s + 2 : Nat) : Int) = _
      rw [Int.natCast_mul]; omega
    have Hfr2 := Lib.hid hfr
    have hbl : b < wr.heap.size := World.block_lt_of_cell? wr _ hc2
    have Hbl := Lib.hid hbl
    by_cases hfull : N * 470 < k * (s + 2) + (s + 2)
    · have hB1 : Below wr.heap.size wr (wr.alloc (.cells cz 5)).drew := ((Below.refl _ _).alloc (Nat.le_refl _) _).drew
      have hap := japp_at (n := s) hJ (by omega) hB1 List.length_replicate ((Hmk.out wr).below (below_drew _)) (Nat.le_refl _) (put_full rfl (by rw [List.length_replicate]; omega) (by rw [List.length_replicate]; omega) (by rw [hfr, List.length_replicate]; show _ - (0 : Int) < _; omega))
      rw [hj, errV_pos (show (5 : Int) ≠ 0 by decide)] at hap
      have K1 : Hid (wr.drew.cell? ⟨b, 2, none⟩ = some (.pointer (some ⟨j, 0, none⟩))) := Lib.hid hc2
      have K2 : Hid ((wr.alloc (.cells cz 5)).drew.cell? ⟨b, 2, none⟩ = some (.pointer (some ⟨j, 0, none⟩))) := Lib.hid ((hB1.cell hbl).trans hc2)
      have K0 := Lib.hid hc2
      clear hJ hj hc2 hnb hfr hbl
      go_upto_region 10 with fail
      go_region_held3 (fun w' => w'.cell? ⟨b, 2, none⟩ = some (.pointer (some ⟨j, 0, none⟩)))
        (first | exact K1.out | exact K2.out | exact K3.out)
        (first | (go_at_call 12; (with_reducible refine hap.mono ?_); rintro _ w3 ⟨rfl, A3, h3, s3, E3⟩; clear hap; have K3 : Hid (w3.cell? ⟨b, 2, none⟩ = some (.pointer (some ⟨j, 0, none⟩))) := Lib.hid (s3.1.cell K0.out Hnb.out)))
      have H3 : Hid (JB w1 w3 A3 d1 ((JM.new 1 N).addN k (List.replicate s 0)) (3000 + k + 1)) := Lib.hid h3
      have HS3 := Lib.hid s3
      have hj3 : A3.j = j := E3.2.2.2.2
      have hnb3 : ¬ A3.Foot b := fun hf => by
        rcases s3.2 b hf with h | h
        · exact Hnb.out h
        · have := Hbl.out; omega
      have Hnb3 := Lib.hid hnb3
      obtain ⟨P, hPd⟩ : ∃ P, k * (s + 2) = P := ⟨_, rfl⟩
      have eP : (k : Int) * ((s : Int) + 2) = (P : Int) := by rw [← hPd, Int.natCast_mul]; rfl
      rw [hPd] at hfull hP hk3
      have eD : ((N : Int) * 470).tdiv ((s : Int) + 2) = (k : Int) := by
        rw [Int.tdiv_eq_ediv_of_nonneg (by omega)]
        have h1 : (N : Int) * 470 / ((s : Int) + 2) = k ↔ _ := Int.ediv_eq_iff_of_pos (by omega)
        rw [h1]
        constructor
        · rw [eP]; omega
        · rw [eP]; omega
      have eS : ((s : Int) + 2 == 0) = false := by simp; omega
      have eS2 : (s : Int) + 2 ≠ 0 := by omega
      have hPb : P ≤ 20000 := by omega
      have Hfr3 : Hid (((JM.new 1 N).addN k (List.replicate s 0)).free = (N : Int) * 470 - P) := Lib.hid (by rw [Hfr2.out, hPd])
      have hfr := jfree_any h3.at_ h3.ok
      rw [Hfr3.out, hj3] at hfr
      have hc3 : w3.cell? ⟨b, 2, none⟩ = some (.pointer (some ⟨j, 0, none⟩)) := K3.out
      clear h3 s3 E3 K0 K1 K2 HJ hPd
      go_upto_region 16 with (go_at_call 13; (with_reducible refine hfr.mono ?_); rintro _ w4 ⟨rfl, b4⟩; clear hfr)
      have H4 : Hid (JB w1 w4 A3 d1 ((JM.new 1 N).addN k (List.replicate s 0)) (3000 + k + 1)) := Lib.hid (H3.out.below b4)
      have hc4 : w4.cell? ⟨b, 2, none⟩ = some (.pointer (some ⟨j, 0, none⟩)) := (b4.cell (World.block_lt_of_cell? w3 _ hc3)).trans hc3
      have Hbl4 : Hid (b < w4.heap.size) := Lib.hid (World.block_lt_of_cell? w4 _ hc4)
      have Hrl : Hid (((JM.new 1 N).addN k (List.replicate s 0)).recs.length = k) := Lib.hid (by rw [JM.addN_recs, List.length_replicate])
      have hnx := jnext_any (H4.out.below (below_drew w4)).at_ H4.out.ok (by omega)
      have Hen : Hid (((JM.new 1 N).addN k (List.replicate s 0)).next = (k : Int) + 1) := Lib.hid (by unfold JM.next; rw [Hrl.out]; show (1 : Int) + k = k + 1; omega)
      rw [Hen.out, hj3] at hnx
      have Hat0 : Hid (∀ g : Int → Int, (((JM.new 1 N).addN k (List.replicate s 0)).flushed' g).at0 k = k * (s + 2)) := Lib.hid (fun g => by
        show (0 : Nat) + (recsB (((JM.new 1 N).addN k (List.replicate s 0)).recs.take k)).length = _
        rw [JM.addN_recs, List.take_of_length_le (by rw [List.length_replicate]; exact Nat.le_refl _), recsB_rep, List.length_replicate, Nat.zero_add])
      have htr : ∀ W, Below w4.heap.size w4 W → Calls Try.prog 14 #[.pointer (some ⟨j, 0, none⟩), .int .i64 ((k : Int) + 1), .slice none 0 0] W fun e w' => e = .returned .nilIface ∧ ∃ A5 d5 m5, JB w1 w' A5 d5 m5 (3000 + k + 1 + 4000) ∧ A5.j = j ∧ JStep w4 w' A3 A5 ∧ m5.free = (N : Int) * 470 - ((P % 470 : Nat) : Int) ∧ m5.first = (k : Int) + 1 := fun W hB => by
        obtain ⟨d5, g5, n5, et, _, _⟩ := trim_live H4.out.ok (by omega) Hfr.out.live rfl rfl (lsn := (k : Int) + 1) (note := []) (by show (1 : Int) ≤ _; omega) (by rw [Hen.out]; exact Int.le_refl _) (by simp)
        have := jtrim_any (lsn := (k : Int) + 1) (H4.out.below hB) (by omega) Bytes.nil (fun h => absurd rfl h)
        rw [hj3] at this
        refine this.mono fun e w' hp => ?_
        rw [et] at hp
        obtain ⟨he, A5, h5, s5, hE⟩ := hp
        have e1 : (((k : Int) + 1) - ((JM.new 1 N).addN k (List.replicate s 0)).first).toNat = k := by show (((k : Int) + 1) - 1).toNat = k; omega
        rw [e1] at h5
        refine ⟨he, A5, d5, _, h5, by rw [hE.2.2.2.2, hj3], (JStep.below A3 hB).trans s5, ?_, rfl⟩
        rw [free_cut]
        have ef : (((JM.new 1 N).addN k (List.replicate s 0)).flushed' g5).free = ((JM.new 1 N).addN k (List.replicate s 0)).free := rfl
        rw [ef, Hfr3.out, Hat0.out]
        show (N : Int) * 470 - P + ((0 * 470 + ((k * (s + 2) : Nat) : Int)) / 470 - 0) * 470 = _
        rw [Int.natCast_mul]
        rw [show ((s + 2 : Nat) : Int) = (s : Int) + 2 from rfl, eP]
        omega
      have eL : (P : Int).tmod 470 = ((P % 470 : Nat) : Int) := by rw [Int.tmod_eq_emod_of_nonneg (by omega)]; omega
      obtain ⟨L, hL⟩ : ∃ L, P % 470 = L := ⟨_, rfl⟩
      rw [hL] at htr eL
      have hL2 : L < 470 := by omega
      have K0 : Hid (w4.drew.cell? ⟨b, 2, none⟩ = some (.pointer (some ⟨j, 0, none⟩))) := Lib.hid hc4
      have K4 := Lib.hid hc4
      have Hsz := Lib.hid (below_drew w4)
      clear hc3 hc4 b4 H3 HS3 hnb3
      go_region_held3 (fun w' => w'.cell? ⟨b, 2, none⟩ = some (.pointer (some ⟨j, 0, none⟩)))
        (first | exact K0.out | exact K5.out | exact K6.out)
        (first
        | (go_at_call 15; (with_reducible refine hnx.mono ?_); rintro _ w5 ⟨rfl, b5⟩; clear hnx; have B5 : Hid (Below w4.heap.size w4 w5) := Lib.hid (Hsz.out.trans b5); have htr1 := htr w5 B5.out; have K5 : Hid (w5.cell? ⟨b, 2, none⟩ = some (.pointer (some ⟨j, 0, none⟩))) := Lib.hid ((B5.out.cell Hbl4.out).trans K4.out); clear b5)
        | (go_at_call 14; (with_reducible refine htr1.mono ?_); rintro _ w6 ⟨rfl, A6, d6, m6, h6, hj6, s6, hf6, hfi6⟩; clear htr1; have K6 : Hid (w6.cell? ⟨b, 2, none⟩ = some (.pointer (some ⟨j, 0, none⟩))) := Lib.hid (s6.1.cell K4.out Hnb3.out)))
      all_goals
        have hc6 := K6.out
        have hfr := jfree_any h6.at_ h6.ok
        have hfi := fun W (hB : Below w6.heap.size w6 W) => jfirst_any (h6.below hB).at_
        rw [hf6, hj6] at hfr
        simp only [hfi6, hj6] at hfi
        have H6 := Lib.hid h6
        clear h6 s6 htr
        go_wp2_with (first | (go_at_call 13; (with_reducible refine hfr.mono ?_); rintro _ w7 ⟨rfl, b7⟩; clear hfr; have hc7 : w7.cell? ⟨b, 2, none⟩ = some (.pointer (some ⟨j, 0, none⟩)) := (b7.cell (World.block_lt_of_cell? w6 _ hc6)).trans hc6; have hfi1 := hfi w7 b7) | (go_at_call 16; (with_reducible refine hfi1.mono ?_); rintro _ _ ⟨rfl, rfl⟩))
        go_ret
        exact ⟨rfl, HB1.out.trans ((H6.out.below b7).db.bel.mono HB1.out.size)⟩
    · have hnf : (s : Int) + 2 ≤ (N : Int) * 470 - ((k * (s + 2) : Nat) : Int) := by omega
      have hB1 : Below wr.heap.size wr (wr.alloc (.cells cz 5)).drew := ((Below.refl _ _).alloc (Nat.le_refl _) _).drew
      have hap := japp_at (n := s) hJ (by omega) hB1 List.length_replicate ((Hmk.out wr).below (below_drew _)) (Nat.le_refl _) (put_add rfl (by rw [List.length_replicate]; omega) (by rw [List.length_replicate]; omega) (by rw [hfr, List.length_replicate]; show _ ≤ _ - (0 : Int); omega))
      rw [hj, errV_zero, JM.addN_succ] at hap
      have K1 : Hid (wr.drew.cell? ⟨b, 2, none⟩ = some (.pointer (some ⟨j, 0, none⟩))) := Lib.hid hc2
      have K2 : Hid ((wr.alloc (.cells cz 5)).drew.cell? ⟨b, 2, none⟩ = some (.pointer (some ⟨j, 0, none⟩))) := Lib.hid ((hB1.cell hbl).trans hc2)
      have K0 := Lib.hid hc2
      have HP1 : Hid ((k + 1) * (s + 2) ≤ N * 470) := Lib.hid (by rw [Nat.succ_mul]; omega)
      clear hJ hj hc2 hnb hfr hbl
      go_upto_region 10 with fail
      go_region_held3 (fun w' => w'.cell? ⟨b, 2, none⟩ = some (.pointer (some ⟨j, 0, none⟩)))
        (first | exact K1.out | exact K2.out | exact K3.out)
        (first | (go_at_call 12; (with_reducible refine hap.mono ?_); rintro _ w3 ⟨rfl, A3, h3, s3, E3⟩; clear hap; have K3 : Hid (w3.cell? ⟨b, 2, none⟩ = some (.pointer (some ⟨j, 0, none⟩))) := Lib.hid (s3.1.cell K0.out Hnb.out)))
      all_goals
        have H3 := Lib.hid h3
        have hj3 : Hid (A3.j = j) := Lib.hid E3.2.2.2.2
        have Hnb3 : Hid (¬ A3.Foot b) := Lib.hid (fun hf => by
          rcases s3.2 b hf with h | h
          · exact Hnb.out h
          · have := Hbl.out; omega)
        clear h3 s3 E3
        go_wp2
        go_roundw
        case rel => exact ⟨k + 1, A3, by go_num, H3.out, hj3.out, K3.out, Hnb3.out, HP1.out⟩
        case measure => simp [intOf]; omega
theorem journalRooms_walk (n size : Int) (w : World) (_ : (Lit.int .i64 n).wf = true) (_ : (Lit.int .i64 size).wf = true) :
    Calls Try.prog 3 #[.int .i64 n, .int .i64 size] w fun e w' => e = .returned (.bool true) ∧ Below w.heap.size w w' := rooms_ok n size w
end Go.Proofs.Ytbaphjnglkocpaa
