import Derived.Test.YtnficiohnhodiaaRwO
/-
  The law of the slots, play: a Format.
-/
namespace Go.Proofs.Ytnficiohnhodiaa
open Go.RowKit
section
variable {w0 w w' : World} {p mn ms mc j n m : Nat} {A : RAd} {d d' : Dev} {L L' : Int} {sq tq : Option Addr} {x : Option SV}
theorem slotFormat_pos (d : Dev) (at_ : Int) (row : List UInt8) : 0 ≤ (d.slotFormat at_ row).1 := by
  unfold Dev.slotFormat
  split
  · show (0 : Int) ≤ 1; omega
  split
  · show (0 : Int) ≤ 2; omega
  split
  · exact write_codeS _ _ _
  split
  · exact write_codeS _ _ _
  · exact sync_codeS _
theorem slotFormat_ok (at_ : Int) (row : List UInt8) (h : (d.slotFormat at_ row).1 = 0) : row.length ≤ 480 ∧ 0 ≤ at_ ∧ at_ < d.size := by
  unfold Dev.slotFormat at h
  split at h
  · cases h
  rename_i h1
  split at h
  · cases h
  rename_i h2
  have hr := fits_rng (by simpa using h1)
  exact ⟨by omega, hr.1, by omega⟩
set_option maxRecDepth 100000 in
set_option maxHeartbeats 2000000 in
theorem play_format (h : PB w0 w p mn ms mc A j d L n sq tq) (hS : SlotsP w0 w p mn ms mc A j (fun _ => False) sq tq x) (hn : n ≤ 100000) (at_ : Int) {q : Option Addr} {nb cb : Nat} {l : List UInt8} (hnb : l.length = nb) (hbs : Bytes w0 (.slice q nb cb) l) (hnl : nb ≤ 4096) (k : Value) :
    Calls Try.prog 34 #[.pointer (some ⟨j, 0, none⟩), .agg #[.int .i64 0, .int .i64 at_, .slice q nb cb, k]] w fun e w' => e = .returned (.bool true) ∧ PI w0 w' p mn ms mc A j (n + 3) := by
  have hal : Below w.heap.size w (w.alloc (.cells #[.int .i64 0, .int .i64 at_, .slice q nb cb, k] 71)) := (Below.refl _ _).alloc (Nat.le_refl _) _
  have hh := heap_alloc_new w (.cells #[.int .i64 0, .int .i64 at_, .slice q nb cb, k] 71)
  have c1 := cell_in (o := 1) (u := .int .i64 at_) hh rfl
  have c2 := cell_in (o := 2) (u := .slice q nb cb) hh rfl
  have H1 := Lib.hid (h.below hal)
  have Hs1 := Lib.hid (hS.below hal)
  have Hal := Lib.hid hal
  have Hlt := Lib.hid h.lt
  have Hlow : Hid (l ≠ [] → ∀ k, (Value.slice q nb cb).ownBlock = some k → k < w0.heap.size) := Lib.hid (fun h0 k e => hbs.lt h0 k e)
  have hcp := copy_any (hbs.below (H1.out.dev.bel)) (by omega)
  rw [hnb] at hcp
  have Hbs := Lib.hid hbs
  have Hnb := Lib.hid hnb
  have Hnl := Lib.hid hnl
  have Hn := Lib.hid hn
  clear h hS hal hh hbs hnb hnl hn
  go_enter Try.func34, Try.ntmps34
  go_upto_region 5 with (go_at_call 50; (with_reducible refine hcp.mono ?_); rintro _ w2 ⟨g, o, c, rfl, s2, b2⟩; clear hcp; have S2 := Lib.hid s2; have B2 := Lib.hid b2; have c1b := (Keeps.of_below (S := fun _ => False) b2).cell c1 (fun e => e); have c2b := (Keeps.of_below (S := fun _ => False) b2).cell c2 (fun e => e); clear s2 b2)
  generalize w.alloc (.cells #[.int .i64 0, .int .i64 at_, .slice q nb cb, k] 71) = w1 at H1 Hs1 Hal S2 B2 c1 c2 ⊢
  have Hg : Hid (w1.heap.size ≤ g ∧ g < w2.heap.size) := Lib.hid (S2.out.lt g rfl)
  have Hb1 : Hid (w.heap.size < w1.heap.size) := Lib.hid (World.block_lt_of_cell? _ _ c1)
  have hD : Below w2.heap.size w2 w2.drew := (Below.refl _ _).drew
  have hD1 : Below w1.heap.size w1 w2.drew := B2.out.trans (hD.mono B2.out.size)
  have H2 := Lib.hid (H1.out.below hD1)
  have hX1 : RefX w1 w0.heap.size A (fun k => DFoot p mn ms mc k ∨ k = j ∨ k = g) d L :=
    ((H1.out.refx Hs1.out).grow (H := (· = g)) H1.out.dev.ok.lens (fun k e => by have e' : k = g := e; have := Hg.out; omega)).less (fun k e => by rcases e with e | e | e; exact .inl (.inl e); exact .inl (.inr (.inl e)); exact .inr e)
  have Hdj : Hid (∀ k, DFoot p mn ms mc k ∨ k = j ∨ k = g → ¬ A.S k) := Lib.hid (fun k e e' => by
    rcases e with e | e | e
    · exact H1.out.off k e e'
    · exact H1.out.ja (e ▸ e')
    · have := H1.out.lt k (.inl e'); have := Hg.out; omega)
  have Hgd : Hid (¬ DFoot p mn ms mc g ∧ g ≠ j) := Lib.hid ⟨fun e => by have := H1.out.lt g (.inr (.inl e)); have := Hg.out; omega, fun e => by have := H1.out.lt g (.inr (.inr e)); have := Hg.out; omega⟩
  have HX2 : Hid (RefX w2.drew w0.heap.size A (fun k => DFoot p mn ms mc k ∨ k = j ∨ k = g) d L) := Lib.hid (hX1.keeps (Keeps.of_below (S := fun _ => False) hD1) (fun _ e => e.elim) Hdj.out)
  have HC2 : Hid (SubRow w2.drew w1.heap.size (.slice (some ⟨g, o, none⟩) (nb + 2) c) (bytesV (l ++ [165, 90]))) := Lib.hid (S2.out.block_keeps (Keeps.of_below (S := fun _ => False) hD) (fun _ _ e => e))
  have HV2 : Hid (Bytes w2.drew (.slice q nb cb) l) := Lib.hid (Hbs.out.below H2.out.dev.bel)
  have hfm := format_form H2.out.dev (by have := Hn.out; omega) at_ (HC2.out.part Hnb.out)
  have K2 : Hid (w2.drew.cell? ⟨w.heap.size, 1, none⟩ = some (.int .i64 at_) ∧ w2.drew.cell? ⟨w.heap.size, 2, none⟩ = some (.slice q nb cb)) := Lib.hid ⟨c1b, c2b⟩
  have p0 := cell_in (o := 0) H2.out.pair rfl
  have c1' := K2.out.1
  clear hX1 hD hD1 c1 c2 c1b c2b
  go_region_held3 (fun w' => w'.cell? ⟨j, 0, none⟩ = some (.pointer (some ⟨p, 0, none⟩)) ∧ w'.cell? ⟨w.heap.size, 1, none⟩ = some (.int .i64 at_))
    (first | exact ⟨p0, c1'⟩ | exact K3.out)
    (first | (go_at_call 60; (with_reducible refine hfm.mono ?_); rintro _ w3 ⟨sq1, rfl, h3, k3, s3⟩; have K3 := Lib.hid (And.intro (k3.cell p0 H2.out.jd) (k3.cell c1' (fun e => Nat.lt_irrefl _ (Hlt.out _ (.inr (.inl e)))))); have B3 := Lib.hid k3; have S3 := Lib.hid s3; have H3 := Lib.hid h3; clear h3 k3 s3))
  have c2' : w3.cell? ⟨w.heap.size, 2, none⟩ = some (.slice q nb cb) := B3.out.cell K2.out.2 (fun e => Nat.lt_irrefl _ (Hlt.out _ (.inr (.inl e))))
  have c1'' := K3.out.2
  have hD : Below w3.heap.size w3 w3.drew := (Below.refl _ _).drew
  have HX3 : Hid (RefX w3.drew w0.heap.size A (fun k => DFoot p mn ms mc k ∨ k = j ∨ k = g) d L) := Lib.hid ((HX2.out.keeps B3.out (fun _ e => .inl e) Hdj.out).keeps (Keeps.of_below (S := fun _ => False) hD) (fun _ e => e.elim) Hdj.out)
  have HC3 : Hid (SubRow w3.drew w1.heap.size (.slice (some ⟨g, o, none⟩) (nb + 2) c) (bytesV (l ++ [165, 90]))) := Lib.hid ((HC2.out.block_keeps B3.out (fun k e e' => by have h1 : k = g := own_slice e; exact Hgd.out.1 (h1 ▸ e'))).block_keeps (Keeps.of_below (S := fun _ => False) hD) (fun _ _ e => e))
  have HV3 : Hid (Bytes w3.drew (.slice q nb cb) l) := Lib.hid ((HV2.out.keeps_ne B3.out (fun h0 k e e' => by have := Hlow.out h0 k e; have := H1.out.dev.low k e'; omega)).below hD)
  have hp3 := B3.out.at H2.out.pair H2.out.jd
  have HP3 := Lib.hid ((Keeps.of_below (S := fun _ => False) hD).at hp3 (fun e => e))
  have HD3 := Lib.hid (H3.out.below hD)
  have S3d := Lib.hid (S3.out.below hD)
  have hsz : w1.heap.size ≤ w3.heap.size := Nat.le_trans B2.out.size B3.out.size
  have hF : ∀ k, (A.S k ∨ DFoot p mn ms mc k ∨ k = j ∨ InB sq1 k ∨ k = g) → k < w3.drew.heap.size := fun k e => by
    show k < w3.heap.size
    rcases e with e | e | e | e | e
    · exact Nat.lt_of_lt_of_le (H1.out.lt k (.inl e)) hsz
    · exact Nat.lt_of_lt_of_le (H1.out.lt k (.inr (.inl e))) hsz
    · exact Nat.lt_of_lt_of_le (H1.out.lt k (.inr (.inr e))) hsz
    · exact S3.out.lt k e
    · have := Hg.out; have : w2.heap.size ≤ w3.heap.size := B3.out.size; omega
  have hro := rformat_form (F := fun k => A.S k ∨ DFoot p mn ms mc k ∨ k = j ∨ InB sq1 k ∨ k = g) HX3.out.ref H1.out.dev.ok Hn.out H1.out.l1 (by have := H1.out.l0; have := Hn.out; omega) hF at_ HV3.out (fun h0 k e e' => by have := Hlow.out h0 k e; have := H1.out.low k e'; omega)
  have p1 := cell_in (o := 1) HP3.out rfl
  have HF := Lib.hid hF
  clear hD hF hsz p0 c1' hfm
  go_upto_region 6 with fail
  go_region_held3 (fun w' => w'.cell? ⟨j, 1, none⟩ = some (.pointer (some ⟨A.b, 0, none⟩)) ∧ w'.cell? ⟨w.heap.size, 1, none⟩ = some (.int .i64 at_) ∧ w'.cell? ⟨w.heap.size, 2, none⟩ = some (.slice q nb cb))
    (first | exact ⟨p1, c1'', c2'⟩ | exact K4.out)
    (first | (go_at_call 65; (with_reducible refine hro.mono ?_); rintro _ w4 ⟨tq1, rfl, ⟨L1, g1, g2, r4⟩, k4, a4, t4⟩; have K4 := Lib.hid (And.intro (k4.cell p1 H1.out.ja) (And.intro (k4.cell c1'' (fun e => Nat.lt_irrefl _ (Hlt.out _ (.inl e)))) (k4.cell c2' (fun e => Nat.lt_irrefl _ (Hlt.out _ (.inl e)))))); have B4 := Lib.hid k4; have A4 := Lib.hid a4; have R4 := Lib.hid r4; have T4 := Lib.hid t4; have G4 := Lib.hid (And.intro g1 g2); clear k4 a4 r4 t4 g1 g2))
  have hgl : ∀ k, k = g → k < w3.drew.heap.size := fun k e => HF.out k (.inr (.inr (.inr (.inr e))))
  have H4 : Hid (PB w0 w4 p mn ms mc A j (d.slotFormat at_ l).2 L1 (n + 3) sq tq) := Lib.hid ⟨HD3.out.other B4.out (fun k e e' => H1.out.off k e e') (fun k e => H1.out.low k e), R4.out, H1.out.off, H1.out.low, B4.out.at HP3.out H1.out.ja, H1.out.jl, H1.out.jd, H1.out.ja, by have := G4.out.1; have := H1.out.l0; omega, Int.le_trans G4.out.2 H1.out.l1⟩
  have HX4 : Hid (RefX w4 w0.heap.size A (fun k => DFoot p mn ms mc k ∨ k = j ∨ k = g) (d.slotFormat at_ l).2 L1) := Lib.hid (HX3.out.after R4.out A4.out (fun k e => HF.out k (by rcases e with e | e | e; exact .inr (.inl e); exact .inr (.inr (.inl e)); exact .inr (.inr (.inr (.inr e))))))
  have hgA : ¬ A.S g := Hdj.out g (.inr (.inr rfl))
  have HC4 : Hid (SubRow w4 w1.heap.size (.slice (some ⟨g, o, none⟩) (nb + 2) c) (bytesV (l ++ [165, 90]))) := Lib.hid (HC3.out.block_keeps B4.out (fun k e e' => by have h1 : k = g := own_slice e; exact hgA (h1 ▸ e')))
  have HV4 : Hid (Bytes w4 (.slice q nb cb) l) := Lib.hid (HV3.out.keeps_ne B4.out (fun h0 k e e' => by have := Hlow.out h0 k e; have := H1.out.low k e'; omega))
  have p2 := cell_in (o := 2) H4.out.pair rfl
  have p3 := cell_in (o := 3) H4.out.pair rfl
  have pf : ∀ o, w4.frozen? ⟨j, o, none⟩ = false := fun o => free_in (o := o) H4.out.pair
  have pf2 := pf 2
  have pf3 := pf 3
  have H5 : Hid (PB w0 ((w4.setCell ⟨j, 2, none⟩ (.pointer sq1)).setCell ⟨j, 3, none⟩ (.pointer tq1)) p mn ms mc A j (d.slotFormat at_ l).2 L1 (n + 3) sq1 tq1) := Lib.hid H4.out.write
  have K5 : Hid (Keeps (· = j) w4 ((w4.setCell ⟨j, 2, none⟩ (.pointer sq1)).setCell ⟨j, 3, none⟩ (.pointer tq1))) := Lib.hid PB.wrote
  have hnum := fun w => num_any (d.slotFormat at_ l).1 w (slotFormat_pos d at_ l)
  have c2'' := K5.out.cell K4.out.2.2 (fun e => Nat.lt_irrefl _ (Hlt.out _ (.inr (.inr e))))
  clear pf p1 c1'' c2' hro hgl
  go_upto_region 8 with fail
  generalize (w4.setCell ⟨j, 2, none⟩ (.pointer sq1)).setCell ⟨j, 3, none⟩ (.pointer tq1) = w5 at H5 K5 c2'' ⊢
  have HC5 : Hid (SubRow w5 w1.heap.size (.slice (some ⟨g, o, none⟩) (nb + 2) c) (bytesV (l ++ [165, 90]))) := Lib.hid (HC4.out.block_keeps K5.out (fun k e e' => by have h1 : k = g := own_slice e; exact Hgd.out.2 (h1 ▸ e')))
  have HV5 : Hid (Bytes w5 (.slice q nb cb) l) := Lib.hid (HV4.out.keeps_ne K5.out (fun h0 k e e' => by have := Hlow.out h0 k e; have := H1.out.jl; omega))
  have HX5 : Hid (RefX w5 w0.heap.size A (fun k => DFoot p mn ms mc k ∨ k = j ∨ k = g) (d.slotFormat at_ l).2 L1) := Lib.hid (HX4.out.keeps K5.out (fun k e => .inr (.inl e)) Hdj.out)
  have hz := H4.out.dev.ok.z2
  have hzz : d.size ≤ 4096 := H1.out.dev.ok.z2
  obtain ⟨x1, hx1⟩ := SlotsP.made (w0 := w0) (j := j) (G := (· = g)) S3d.out T4.out B4.out K5.out
    (C1 := w2.drew.heap.size) (fun k e => by
      show k < w2.heap.size
      rcases e with e | e | e | e
      · exact Nat.lt_of_lt_of_le (H1.out.lt k (.inl e)) B2.out.size
      · exact Nat.lt_of_lt_of_le (H1.out.lt k (.inr (.inl e))) B2.out.size
      · exact Nat.lt_of_lt_of_le (H1.out.lt k (.inr (.inr e))) B2.out.size
      · have e' : k = g := e; have := Hg.out; omega) (Nat.le_refl _) H2.out.dev.bel.size (fun k e => e) (fun e => by have := slotFormat_ok at_ l e; exact ⟨by omega, this.2.1, by omega⟩) (fun e => (slotFormat_ok at_ l e).1)
  have HS5 := Lib.hid hx1
  have hkp := kept_any HC5.out Hnb.out HV5.out (by have := Hnl.out; omega)
  have hov := over_any w5 w1.heap.size g o nb c l Hnb.out (by have := Hnl.out; omega) (HC5.out.frontS Hnb.out (by omega))
  clear hz hzz hx1 hgA
  go_wp2_with (first
    | (go_at_call 10; (with_reducible refine (hnum _).mono ?_); rintro _ _ ⟨rfl, rfl⟩; clear hnum)
    | (go_at_call 52; (with_reducible refine hkp.mono ?_); rintro _ _ ⟨rfl, rfl⟩; clear hkp)
    | (go_at_call 53; (with_reducible refine hov.mono ?_); rintro _ w6 ⟨rfl, l', hl', hs6, k6⟩; clear hov; have K6 := Lib.hid k6; clear hl' hs6 k6))
  go_ret
  have hr6 := HX5.out.keeps K6.out (fun k e => .inr (.inr e)) Hdj.out
  refine ⟨rfl, _, L1, sq1, tq1, x1, ⟨H5.out.dev.other K6.out (fun k e e' => Hgd.out.1 (e' ▸ e)) (fun k e => by have e' : k = g := e; have := Hg.out; have := H1.out.dev.bel.size; omega), hr6.ref, H1.out.off, H1.out.low, K6.out.at H5.out.pair (fun e => Hgd.out.2 e.symm), H1.out.jl, H1.out.jd, H1.out.ja, H5.out.l0, H5.out.l1⟩, (HS5.out.keeps K6.out (fun k e => .inl e)).less (fun _ e => e.elim)⟩
end
end Go.Proofs.Ytnficiohnhodiaa
