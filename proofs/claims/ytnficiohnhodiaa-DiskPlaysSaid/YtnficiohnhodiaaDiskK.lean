import Derived.Test.YtnficiohnhodiaaDiskJa
import Derived.Deep.Cut
import Derived.Deep.RegionHeld
/-
  The chapter's example.
-/
namespace Go.Proofs.Ytnficiohnhodiaa
open Go.RowKit
attribute [local irreducible] fullB blank
def eA : Dev := (Dev.new 4).write 1 (fullB 1) |>.2
def eB : Dev := eA.sync.2
def eC : Dev := (eB.write 1 (fullB 2)).2
def eD : Dev := (eC.write 2 (fullB 3)).2
def eE : Dev := eD.crash [2]
theorem eA_val : (Dev.new 4).write 1 (fullB 1) = (0, eA) ∧ eA = ⟨1, 0, 0, false, false, 4, fun j => if j = 1 then fullB 1 else blank, fun _ => blank, fun j => if j = 1 then true else false⟩ := by
  have h : (Dev.new 4).write 1 (fullB 1) = (0, ⟨1, 0, 0, false, false, 4, fun j => if j = 1 then fullB 1 else blank, fun _ => blank, fun j => if j = 1 then true else false⟩) := by
    unfold Dev.write
    rw [if_neg (by simp [Dev.new]), if_neg (by rw [fullB_len]; decide)]
    rfl
  exact ⟨by unfold eA; rw [h], by unfold eA; rw [h]⟩
theorem eB_val : eA.sync = (0, eB) ∧ eB = ⟨2, 1, 0, false, false, 4, fun j => if j = 1 then fullB 1 else blank, fun k => if (if k = 1 then true else false) then (if k = 1 then fullB 1 else blank) else blank, fun _ => false⟩ := by
  have h : eA.sync = (0, ⟨2, 1, 0, false, false, 4, fun j => if j = 1 then fullB 1 else blank, fun k => if (if k = 1 then true else false) then (if k = 1 then fullB 1 else blank) else blank, fun _ => false⟩) := by
    rw [eA_val.2]; rfl
  exact ⟨by unfold eB; rw [h], by unfold eB; rw [h]⟩
theorem eC_err : (eB.write 1 (fullB 2)).1 = 0 := by
  rw [eB_val.2]; unfold Dev.write; rw [if_neg (by simp), if_neg (by rw [fullB_len]; decide)]; rfl
theorem eC_val : eC = { eB.step.2.put 1 (fullB 2) with steps := 3 } := by
  unfold eC
  rw [eB_val.2]; unfold Dev.write; rw [if_neg (by simp), if_neg (by rw [fullB_len]; decide)]; rfl
theorem eD_err : (eC.write 2 (fullB 3)).1 = 0 := by
  rw [eC_val, eB_val.2]; unfold Dev.write; rw [if_neg (by simp [Dev.put, Dev.step]), if_neg (by rw [fullB_len]; decide)]; rfl
theorem eD_ok : eD.Ok 4 := by
  have h0 := Dev.Ok.new (size := 4) (by decide) (by decide)
  have h1 : eA.Ok 1 := h0.write 1 (fullB 1)
  have h2 : eB.Ok 2 := h1.sync
  have h3 : eC.Ok 3 := h2.write 1 (fullB 2)
  exact h3.write 2 (fullB 3)
theorem eD_val : eD = { eC.step.2.put 2 (fullB 3) with steps := 4 } := by
  unfold eD
  rw [eC_val, eB_val.2]; unfold Dev.write; rw [if_neg (by simp [Dev.put, Dev.step]), if_neg (by rw [fullB_len]; decide)]; rfl
theorem eC_maps : (∀ k, eC.now k = if k = 1 then fullB 2 else eB.now k) ∧ (∀ k, eC.synced k = eB.synced k) ∧ (∀ k, eC.chg k = if k = 1 then true else eB.chg k) := by
  rw [eC_val]
  refine ⟨fun k => ?_, fun k => ?_, fun k => ?_⟩
  · show (if k = 1 then fullB 2 else eB.step.2.now k) = _; rw [(step_maps eB).1]
  · show eB.step.2.synced k = _; rw [(step_maps eB).2.1]
  · show (if k = 1 then true else eB.step.2.chg k) = _; rw [(step_maps eB).2.2]
theorem eD_maps : (∀ k, eD.now k = if k = 2 then fullB 3 else eC.now k) ∧ (∀ k, eD.synced k = eC.synced k) ∧ (∀ k, eD.chg k = if k = 2 then true else eC.chg k) := by
  rw [eD_val]
  refine ⟨fun k => ?_, fun k => ?_, fun k => ?_⟩
  · show (if k = 2 then fullB 3 else eC.step.2.now k) = _; rw [(step_maps eC).1]
  · show eC.step.2.synced k = _; rw [(step_maps eC).2.1]
  · show (if k = 2 then true else eC.step.2.chg k) = _; rw [(step_maps eC).2.2]
theorem eB_synced : eB.synced 1 = fullB 1 := by rw [eB_val.2]; simp
theorem eE_val : eE.now 1 = fullB 1 ∧ eE.now 2 = fullB 3 ∧ eE.steps = 4 ∧ eE.syncs = 1 ∧ eE.down = false ∧ eE.size = 4 := by
  have hm : ∀ k, k ∈ eD.unsynced ↔ eD.chg k = true := fun k => mem_unsynced eD_ok
  have c1 : eD.chg 1 = true := by rw [eD_maps.2.2, if_neg (by decide), eC_maps.2.2, if_pos rfl]
  refine ⟨?_, ?_, ?_, ?_, rfl, ?_⟩
  · show (if (1 : Int) ∈ eD.unsynced ∧ (1 : Int) ∉ [(2 : Int)] then eD.synced 1 else eD.now 1) = fullB 1
    rw [if_pos ⟨(hm 1).2 c1, by decide⟩, eD_maps.2.1, eC_maps.2.1, eB_synced]
  · show (if (2 : Int) ∈ eD.unsynced ∧ (2 : Int) ∉ [(2 : Int)] then eD.synced 2 else eD.now 2) = fullB 3
    rw [if_neg (by simp), eD_maps.1, if_pos rfl]
  · show eD.steps = 4
    rw [eD_val]
  · show eD.syncs = 1
    rw [eD_val]
    show eC.step.2.syncs = 1
    rw [eC_val, eB_val.2]; rfl
  · show eD.size = 4
    rw [eD_val]
    show eC.step.2.size = 4
    rw [step_size, eC_val]
    show eB.step.2.size = 4
    rw [step_size, eB_val.2]
set_option maxRecDepth 100000 in
set_option maxHeartbeats 8000000 in
theorem alive_any (w : World) : Calls Try.prog 21 #[] w fun e w' => e = .returned (.bool true) ∧ Below w.heap.size w w' := by
  have hn := new_db w w 4 (by decide) (by decide) (Below.refl _ _)
  go_enter Try.func21, Try.ntmps21
  go_wp2_with (first
    | (go_at_call 22; (with_reducible refine hn.mono ?_); rintro _ w1 ⟨p, mn, ms, mc, rfl, h1, _, _⟩; clear hn)
    | (go_at_call 46; (with_reducible refine (full_any 1 _).mono ?_); rintro _ w2 ⟨v2, m2, rfl, s2, b2⟩; have g2 := write_one (h1.below b2) (by omega) 1 (Bytes.of_sub s2) 52 (by rw [fullB_len]; omega); clear h1 s2 b2; rw [eA_val.1, errV_zero] at g2)
    | (go_at_call 45; (with_reducible refine g2.mono ?_); rintro _ w3 ⟨rfl, h3, _⟩; clear g2; have g3 := sync_db h3 (by omega); clear h3; rw [eB_val.1, errV_zero] at g3)
    | (go_at_call 47; (with_reducible refine g3.mono ?_); rintro _ w4 ⟨rfl, h4, _⟩; clear g3)
    | (go_at_call 46; (with_reducible refine (full_any 2 _).mono ?_); rintro _ w5 ⟨v5, m5, rfl, s5, b5⟩; have g5 := write_one (h4.below b5) (by omega) 1 (Bytes.of_sub s5) 52 (by rw [fullB_len]; omega); clear h4 s5 b5; rw [eC_err, errV_zero] at g5)
    | (go_at_call 45; (with_reducible refine g5.mono ?_); rintro _ w6 ⟨rfl, h6, _⟩; clear g5)
    | (go_at_call 46; (with_reducible refine (full_any 3 _).mono ?_); rintro _ w7 ⟨v7, m7, rfl, s7, b7⟩; have g7 := write_one (h6.below b7) (by omega) 2 (Bytes.of_sub s7) 52 (by rw [fullB_len]; omega); clear h6 s7 b7; rw [show (eB.write 1 (fullB 2)).2 = eC from rfl, eD_err, errV_zero] at g7)
    | (go_at_call 45; (with_reducible refine g7.mono ?_); rintro _ w8 ⟨rfl, h8, _⟩; clear g7; have g8 := crash_one h8 2 3; clear h8)
    | (go_at_call 48; (with_reducible refine g8.mono ?_); rintro _ w9 ⟨rfl, h9, _⟩; clear g8; rw [show ((eC.write 2 (fullB 3)).2).crash [2] = eE from rfl] at h9; have g9 := read_db h9 1 (by decide) (by rw [eE_val.2.2.2.2.2]; decide) eE_val.2.2.2.2.1; rw [eE_val.1] at g9)
    | (go_at_call 32; (with_reducible refine g9.mono ?_); rintro _ w10 ⟨v10, rfl, s10, b10⟩; clear g9; have h10 := h9.below b10; clear h9 b10; have g10 := read_db h10 2 (by decide) (by rw [eE_val.2.2.2.2.2]; decide) eE_val.2.2.2.2.1; rw [eE_val.2.1] at g10)
    | (go_at_call 32; (with_reducible refine g10.mono ?_); rintro _ w11 ⟨v11, rfl, s11, b11⟩; clear g10; have h11 := h10.below b11; have t11 := s10.below b11; clear h10 b11 s10))
  obtain ⟨q10, cap10, rfl, _, _⟩ := t11.form
  obtain ⟨q11, cap11, rfl, _, _⟩ := s11.form
  generalize (bytesV (fullB 1)).length = n10 at t11 ⊢
  generalize (bytesV (fullB 3)).length = n11 at s11 ⊢
  have hD : DB w w11.drew p mn ms mc eE (0 + 1 + 1 + 1 + 1) := h11.below ((Below.refl _ _).drew)
  have r10 := t11.below ((Below.refl _ w11).drew)
  have r11 := s11.below ((Below.refl _ w11).drew)
  have HD := Lib.hid hD
  have R10 := Lib.hid r10
  have R11 := Lib.hid r11
  have k10 := conv_bytes (Bytes.of_sub r10)
  have k11 := conv_bytes (Bytes.of_sub r11)
  clear h11 s11 t11 hD r10 r11
  generalize hsf : strB (fullB 1) = str1 at k10
  generalize hsg : strB (fullB 3) = str3 at k11
  have Hsf := Lib.hid hsf
  have Hsg := Lib.hid hsg
  clear hsf hsg
  go_region_held (fun w' => (convert 52 9 (.slice q10 n10 cap10)).run Try.prog w' = .ok (.string str1) w' ∧ (convert 52 9 (.slice q11 n11 cap11)).run Try.prog w' = .ok (.string str3) w')
    (first | exact ⟨k10, k11⟩ | exact ⟨k10b, k11b⟩ | exact ⟨k10c, k11c⟩)
    (first
      | (go_at_call 46; (with_reducible refine (full_any 1 _).mono ?_); rintro _ w12 ⟨g12, m12, rfl, s12, b12⟩; have HD12 := Lib.hid (HD.out.below b12); have R10b := Lib.hid (R10.out.below b12); have R11b := Lib.hid (R11.out.below b12); have k10b := conv_bytes (Bytes.of_sub R10b.out); have k11b := conv_bytes (Bytes.of_sub R11b.out); have k12 := conv_bytes (Bytes.of_sub s12); rw [Hsf.out] at k10b k12; rw [Hsg.out] at k11b; clear s12 b12)
      | (go_at_call 46; (with_reducible refine (full_any 3 _).mono ?_); rintro _ w13 ⟨g13, m13, rfl, s13, b13⟩; have HD13 := Lib.hid (HD12.out.below b13); have k10c := conv_bytes (Bytes.of_sub (R10b.out.below b13)); have k11c := conv_bytes (Bytes.of_sub (R11b.out.below b13)); have k13 := conv_bytes (Bytes.of_sub s13); rw [Hsg.out] at k11c k13; rw [Hsf.out] at k10c; have hst := steps_db HD13.out; rw [eE_val.2.2.1] at hst; have hsy := syncs_db HD13.out; rw [eE_val.2.2.2.1] at hsy; clear s13 b13)
      | (go_at_call 26; (with_reducible refine hst.mono ?_); rintro _ _ ⟨rfl, rfl⟩)
      | (go_at_call 27; (with_reducible refine hsy.mono ?_); rintro _ _ ⟨rfl, rfl⟩))
  go_wp2
  go_ret
  exact ⟨rfl, HD13.out.bel⟩
end Go.Proofs.Ytnficiohnhodiaa
