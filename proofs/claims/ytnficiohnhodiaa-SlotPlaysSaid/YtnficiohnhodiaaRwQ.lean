import Derived.Test.YtnficiohnhodiaaRwP
/-
  The law of the slots, play: a Save.
-/
namespace Go.Proofs.Ytnficiohnhodiaa
open Go.RowKit
section
variable {w0 w w' : World} {p mn ms mc j n m : Nat} {A : RAd} {d d' : Dev} {L L' : Int} {sq tq : Option Addr} {x : Option SV}
set_option maxRecDepth 100000 in
set_option maxHeartbeats 1000000 in
theorem play_savenone (h : PB w0 w p mn ms mc A j d L n none none) (at_ : Int) (r k : Value) :
    Calls Try.prog 34 #[.pointer (some ⟨j, 0, none⟩), .agg #[.int .i64 2, .int .i64 at_, r, k]] w fun e w' => e = .returned (.bool true) ∧ PI w0 w' p mn ms mc A j (n + 3) := by
  have hal : Below w.heap.size w (w.alloc (.cells #[.int .i64 2, .int .i64 at_, r, k] 71)) := (Below.refl _ _).alloc (Nat.le_refl _) _
  have H1 := Lib.hid (h.below hal)
  have p2 := cell_in (o := 2) (h.below hal).pair rfl
  have p3 := cell_in (o := 3) (h.below hal).pair rfl
  clear h hal
  go_enter Try.func34, Try.ntmps34
  go_wp2
  go_ret
  exact ⟨rfl, d, L, none, none, none, H1.out.more (by omega), .inl ⟨rfl, rfl, rfl⟩⟩
theorem slotSave_ok (d : Dev) (at_ number : Int) (row : List UInt8) (dead : Bool) (new : List UInt8) (h0 : 0 ≤ number) (hl : row.length ≤ 480) : 0 ≤ (slotSave d at_ number row dead new).err ∧ 0 ≤ (slotSave d at_ number row dead new).number ∧ (slotSave d at_ number row dead new).row.length ≤ 480 := by
  unfold slotSave
  split
  · exact ⟨by show (0 : Int) ≤ 2; omega, h0, hl⟩
  split
  · exact ⟨by show (0 : Int) ≤ 2; omega, h0, hl⟩
  split
  · exact ⟨by show (0 : Int) ≤ 3; omega, h0, hl⟩
  split
  · exact ⟨write_codeS _ _ _, h0, hl⟩
  split
  · exact ⟨sync_codeS _, h0, hl⟩
  · rename_i h1 _ _ _
    exact ⟨by show (0 : Int) ≤ 0; omega, by show 0 ≤ number + 1; omega, by show new.length ≤ 480; omega⟩
set_option maxRecDepth 100000 in
set_option maxHeartbeats 2000000 in
theorem play_save (h : PB w0 w p mn ms mc A j d L n sq tq) (hS : SlotsP w0 w p mn ms mc A j (fun _ => False) sq tq x) (hn : n ≤ 100000) (at_ : Int) {q : Option Addr} {nb cb : Nat} {l : List UInt8} (hnb : l.length = nb) (hbs : Bytes w0 (.slice q nb cb) l) (hnl : nb ≤ 4096) (k : Value) :
    Calls Try.prog 34 #[.pointer (some ⟨j, 0, none⟩), .agg #[.int .i64 2, .int .i64 at_, .slice q nb cb, k]] w fun e w' => e = .returned (.bool true) ∧ PI w0 w' p mn ms mc A j (n + 3) := by
  by_cases hx : tq = none
  · subst hx
    rcases hS with ⟨_, rfl, _⟩ | ⟨v, s, t, _, _, e2, _⟩
    · exact play_savenone h at_ _ k
    · cases e2
  have hal : Below w.heap.size w (w.alloc (.cells #[.int .i64 2, .int .i64 at_, .slice q nb cb, k] 71)) := (Below.refl _ _).alloc (Nat.le_refl _) _
  have hh := heap_alloc_new w (.cells #[.int .i64 2, .int .i64 at_, .slice q nb cb, k] 71)
  have c2 := cell_in (o := 2) (u := .slice q nb cb) hh rfl
  have H1 := Lib.hid (h.below hal)
  have Hs1 := Lib.hid (hS.below hal)
  have Hal := Lib.hid hal
  have Hlt := Lib.hid h.lt
  have Hlow : Hid (l ≠ [] → ∀ k, (Value.slice q nb cb).ownBlock = some k → k < w0.heap.size) := Lib.hid (fun h0 k e => hbs.lt h0 k e)
  have hcp := copy_any (hbs.below (H1.out.dev.bel)) (by omega)
  rw [hnb] at hcp
  have Hbs := Lib.hid hbs
  have Hnb := Lib.hid hnb
  have Hnl := Lib.hid hnl
  have Hn := Lib.hid hn
  obtain ⟨t, rfl⟩ : ∃ t, tq = some ⟨t, 0, none⟩ := by
    rcases hS with ⟨_, _, rfl⟩ | ⟨v, s, t, _, _, e2, _⟩
    · exact absurd rfl hx
    · exact ⟨t, e2⟩
  have Hsl : Hid (∀ k, InB sq k ∨ k = t → k < w.heap.size) := Lib.hid (fun k e => by
    rcases hS with ⟨_, _, e2⟩ | ⟨v, s, t, _, e1, e2, h1, _, ⟨_, _, h3, _⟩, _⟩
    · cases e2
    · cases e2
      rcases e with ⟨a, e, rfl⟩ | rfl
      · rw [e1] at e; cases e; exact h1.lt
      · exact lt_of h3)
  have p3 := cell_in (o := 3) (h.below hal).pair rfl
  have Hw0 : Hid (w0.heap.size ≤ w.heap.size) := Lib.hid h.dev.bel.size
  clear h hS hal hh hbs hnb hnl hn hx
  go_enter Try.func34, Try.ntmps34
  go_upto_region 20 with (go_at_call 50; (with_reducible refine hcp.mono ?_); rintro _ w2 ⟨g, o, c, rfl, s2, b2⟩; clear hcp; have S2 := Lib.hid s2; have B2 := Lib.hid b2; have c2b := (Keeps.of_below (S := fun _ => False) b2).cell c2 (fun e => e); clear s2 b2)
  generalize w.alloc (.cells #[.int .i64 2, .int .i64 at_, .slice q nb cb, k] 71) = w1 at H1 Hs1 Hal S2 B2 c2 p3 ⊢
  have Hg : Hid (w1.heap.size ≤ g ∧ g < w2.heap.size) := Lib.hid (S2.out.lt g rfl)
  have Hb1 : Hid (w.heap.size < w1.heap.size) := Lib.hid (World.block_lt_of_cell? _ _ c2)
  have hD : Below w2.heap.size w2 w2.drew := (Below.refl _ _).drew
  have hD1 : Below w1.heap.size w1 w2.drew := B2.out.trans (hD.mono B2.out.size)
  have H2 := Lib.hid (H1.out.below hD1)
  have HS2 : Hid (SlotsP w0 w2.drew p mn ms mc A j (· = g) sq (some ⟨t, 0, none⟩) x) := Lib.hid (((Hs1.out.grow (H := (· = g)) (fun k e => by have e' : k = g := e; have := Hg.out; omega)).below hD1).less (fun k e => .inr e))
  obtain ⟨v, s, t', _, rfl, et, hs1, hs2, ht, hv0, hv1, hv2, hsA, hsj, hsl, htl, hsg, hrl⟩ : ∃ v s t', x = some v ∧ sq = some ⟨s, 0, none⟩ ∧ t' = t ∧ SlotAt w2.drew s p v.at_ v.number v.row v.dead ∧ SlotOff w2.drew (fun k => A.S k ∨ k = j ∨ k = t ∨ k = g) s ∧ RSlotAt w2.drew t A.b (fun k => A.S k ∨ DFoot p mn ms mc k ∨ k = j ∨ k = s ∨ k = g) v.at_ v.number v.row v.dead ∧ 0 ≤ v.number ∧ 0 ≤ v.at_ ∧ v.at_ ≤ 4096 ∧ ¬ A.S s ∧ s ≠ j ∧ w0.heap.size ≤ s ∧ w0.heap.size ≤ t ∧ s ≠ g ∧ v.row.length ≤ 480 := by
    rcases HS2.out with ⟨_, _, e2⟩ | ⟨v, s, t, e0, e1, e2, h⟩
    · cases e2
    · cases e2; exact ⟨v, s, t, e0, e1, rfl, h⟩
  subst et
  obtain ⟨va, vn, vr, vd⟩ := v
  simp only at hs1 ht hv0 hv1 hv2 hrl
  have HX2 : Hid (RefX w2.drew w0.heap.size A (fun k => DFoot p mn ms mc k ∨ k = j ∨ k = s ∨ k = t' ∨ k = g) d L) := by
    have h1 := ((H1.out.refx Hs1.out).grow (H := (· = g)) H1.out.dev.ok.lens (fun k e => by have e' : k = g := e; have := Hg.out; omega)).less (H := fun k => DFoot p mn ms mc k ∨ k = j ∨ k = s ∨ k = t' ∨ k = g) (fun k e => by
      rcases e with e | e | e | e | e
      · exact .inl (.inl e)
      · exact .inl (.inr (.inl e))
      · exact .inl (.inr (.inr (.inl ⟨_, rfl, e.symm⟩)))
      · exact .inl (.inr (.inr (.inr ⟨_, rfl, e.symm⟩)))
      · exact .inr e)
    exact Lib.hid ⟨h1.ref.below hD1, h1.now.below hD1, h1.syn.below hD1⟩
  have HC2 : Hid (SubRow w2.drew w1.heap.size (.slice (some ⟨g, o, none⟩) (nb + 2) c) (bytesV (l ++ [165, 90]))) := Lib.hid (S2.out.block_keeps (Keeps.of_below (S := fun _ => False) hD) (fun _ _ e => e))
  have HV2 : Hid (Bytes w2.drew (.slice q nb cb) l) := Lib.hid (Hbs.out.below H2.out.dev.bel)
  have Hts : Hid (s < w.heap.size ∧ t' < w.heap.size) := Lib.hid ⟨Hsl.out s (.inl ⟨_, rfl, rfl⟩), Hsl.out t' (.inr rfl)⟩
  have HtF : Hid (¬ A.S t' ∧ ¬ DFoot p mn ms mc t' ∧ t' ≠ j ∧ t' ≠ s) := Lib.hid (by
    obtain ⟨_, _, _, _, _, h⟩ := ht
    exact ⟨fun e => h (.inl e), fun e => h (.inr (.inl e)), fun e => h (.inr (.inr (.inl e))), fun e => h (.inr (.inr (.inr (.inl e))))⟩)
  have HsF : Hid (¬ A.S s ∧ ¬ DFoot p mn ms mc s ∧ s ≠ j) := Lib.hid ⟨hsA, hs1.not_dev H2.out.dev.lay, hsj⟩
  have HgF : Hid (¬ A.S g ∧ ¬ DFoot p mn ms mc g ∧ g ≠ j) := Lib.hid ⟨fun e => by have := H1.out.lt g (.inl e); have := Hg.out; omega, fun e => by have := H1.out.lt g (.inr (.inl e)); have := Hg.out; omega, fun e => by have := H1.out.lt g (.inr (.inr e)); have := Hg.out; omega⟩
  have Hgl : Hid (w.heap.size < g ∧ g < w2.heap.size) := Lib.hid ⟨by have := Hg.out; have := Hb1.out; omega, Hg.out.2⟩
  have hsv := save_any (new := l) H2.out.dev (by have := Hn.out; omega) hs1 hsl (HC2.out.part Hnb.out) hv1 hv2 hv0
  have Hso := slotSave_ok d va vn vr vd l hv0 hrl
  have p0 := cell_in (o := 2) H2.out.pair rfl
  have p1 := cell_in (o := 3) H2.out.pair rfl
  have Hs2 := Lib.hid hs2
  have Ht := Lib.hid ht
  have Hvv := Lib.hid (And.intro hv0 (And.intro hv1 (And.intro hv2 (And.intro hsl htl))))
  have Hso2 := Lib.hid Hso
  have hnum : ∀ w : World, Calls Try.prog 10 #[errV (slotSave d va vn vr vd l).err] w fun e w' => e = .returned (.int .i64 (slotSave d va vn vr vd l).err) ∧ w = w' := fun w => num_any _ w Hso.1
  have c2' : w2.drew.cell? ⟨w.heap.size, 2, none⟩ = some (.slice q nb cb) := c2b
  have HA : Hid (∀ w3 : World, Keeps (SFoot p mn ms mc s) w2.drew w3 → (w3.cell? ⟨j, 2, none⟩ = some (.pointer (some ⟨s, 0, none⟩)) ∧ w3.cell? ⟨j, 3, none⟩ = some (.pointer (some ⟨t', 0, none⟩)) ∧ w3.cell? ⟨w.heap.size, 2, none⟩ = some (.slice q nb cb)) ∧ RefX w3 w0.heap.size A (fun k => DFoot p mn ms mc k ∨ k = j ∨ k = s ∨ k = t' ∨ k = g) d L ∧ SubRow w3 w1.heap.size (.slice (some ⟨g, o, none⟩) (nb + 2) c) (bytesV (l ++ [165, 90])) ∧ Bytes w3 (.slice q nb cb) l ∧ RSlotAt w3 t' A.b (fun k => A.S k ∨ DFoot p mn ms mc k ∨ k = j ∨ k = s ∨ k = g) va vn vr vd) := Lib.hid (fun w3 k3 => by
    have hnj : ¬ SFoot p mn ms mc s j := fun e => e.elim H1.out.jd (fun e => HsF.out.2.2 e.symm)
    have hng : ¬ SFoot p mn ms mc s g := fun e => e.elim HgF.out.2.1 (fun e => by have := Hgl.out; have := Hts.out; omega)
    have hnw : ¬ SFoot p mn ms mc s w.heap.size := fun e => e.elim (fun e => Nat.lt_irrefl _ (Hlt.out _ (.inr (.inl e)))) (fun e => by have := Hts.out; omega)
    refine ⟨⟨k3.cell p0 hnj, k3.cell p1 hnj, k3.cell c2' hnw⟩, HX2.out.keeps k3 (fun k e => e.elim .inl (fun e => .inr (.inr (.inl e)))) (fun k e e' => ?_), HC2.out.block_keeps k3 (fun k e e' => by have h1 : k = g := own_slice e; exact hng (h1 ▸ e')), HV2.out.keeps_ne k3 (fun h0 k e e' => ?_), Ht.out.keeps k3 (fun k e => e.elim (fun e => .inr (.inl e)) (fun e => .inr (.inr (.inr (.inl e)))))⟩
    · rcases e with e | rfl | rfl | rfl | rfl
      · exact H1.out.off k e e'
      · exact H1.out.ja e'
      · exact HsF.out.1 e'
      · exact HtF.out.1 e'
      · exact HgF.out.1 e'
    · have := Hlow.out h0 k e
      rcases e' with e' | rfl
      · have := H1.out.dev.low k e'; omega
      · have := Hvv.out.2.2.2.1; omega)
  have HB : Hid (∀ w3 : World, Keeps (SFoot p mn ms mc s) w2.drew w3 → Calls Try.prog 67 #[.pointer (some ⟨t', 0, none⟩), .slice q nb cb] w3 (RSavePost w3 w0.heap.size A d L t' (fun k => A.S k ∨ DFoot p mn ms mc k ∨ k = j ∨ k = s ∨ k = g) va (slotSave d va vn vr vd l))) := Lib.hid (fun w3 k3 => by
    obtain ⟨_, h1, _, h3, h4⟩ := HA.out w3 k3
    refine rsave_any h1.ref H1.out.dev.ok Hn.out H1.out.l1 (by have := H1.out.l0; have := Hn.out; omega) h4 (fun k e => .inl e) (fun k e => Nat.lt_of_lt_of_le (m := w2.heap.size) ?_ k3.size) Hvv.out.1 Hvv.out.2.1 Hvv.out.2.2.1 h3 (fun h0 k e e' => ?_)
    · have h1 := Hal.out.size
      have h2 := B2.out.size
      rcases e with e | e | e | e | e
      · exact Nat.lt_of_lt_of_le (H1.out.lt k (.inl e)) h2
      · exact Nat.lt_of_lt_of_le (H1.out.lt k (.inr (.inl e))) h2
      · exact Nat.lt_of_lt_of_le (H1.out.lt k (.inr (.inr e))) h2
      · have := Hts.out; omega
      · have := Hgl.out; omega
    · have := Hlow.out h0 k e
      rcases e' with e' | e' | e' | e' | e'
      · have := H1.out.low k e'; omega
      · have := H1.out.dev.low k e'; omega
      · have := H1.out.jl; omega
      · have := Hvv.out.2.2.2.1; omega
      · have := Hgl.out; have := Hw0.out; omega)
  have HK : Hid (∀ w3 w4 : World, Keeps (SFoot p mn ms mc s) w2.drew w3 → Keeps (fun k => A.S k ∨ k = t') w3 w4 → (w4.cell? ⟨j, 2, none⟩ = some (.pointer (some ⟨s, 0, none⟩)) ∧ w4.cell? ⟨j, 3, none⟩ = some (.pointer (some ⟨t', 0, none⟩)) ∧ w4.cell? ⟨w.heap.size, 2, none⟩ = some (.slice q nb cb)) ∧ SubRow w4 w1.heap.size (.slice (some ⟨g, o, none⟩) (nb + 2) c) (bytesV (l ++ [165, 90])) ∧ Bytes w4 (.slice q nb cb) l) := Lib.hid (fun w3 w4 k3 k4 => by
    obtain ⟨⟨a1, a2, a3⟩, _, h2, h3, _⟩ := HA.out w3 k3
    have hnj : ¬ (A.S j ∨ j = t') := fun e => e.elim H1.out.ja (fun e => HtF.out.2.2.1 e.symm)
    have hng : ¬ (A.S g ∨ g = t') := fun e => e.elim HgF.out.1 (fun e => by have := Hgl.out; have := Hts.out; omega)
    have hnw : ¬ (A.S w.heap.size ∨ w.heap.size = t') := fun e => e.elim (fun e => Nat.lt_irrefl _ (Hlt.out _ (.inl e))) (fun e => by have := Hts.out; omega)
    refine ⟨⟨k4.cell a1 hnj, k4.cell a2 hnj, k4.cell a3 hnw⟩, h2.block_keeps k4 (fun k e e' => by have h1 : k = g := own_slice e; exact hng (h1 ▸ e')), h3.keeps_ne k4 (fun h0 k e e' => ?_)⟩
    have := Hlow.out h0 k e
    rcases e' with e' | rfl
    · have := H1.out.low k e'; omega
    · have := Hvv.out.2.2.2.2; omega)
  clear hD hD1 c2 c2b hs1 hs2 ht hv0 hv1 hv2 hsA hsj hsl htl hsg hrl Hso p3
  go_region_held3 (fun w' => w'.cell? ⟨j, 2, none⟩ = some (.pointer (some ⟨s, 0, none⟩)) ∧ w'.cell? ⟨j, 3, none⟩ = some (.pointer (some ⟨t', 0, none⟩)) ∧ w'.cell? ⟨w.heap.size, 2, none⟩ = some (.slice q nb cb))
    (first | exact ⟨p0, p1, c2'⟩ | exact (HK.out _ _ B3.out B4.out).1 | exact (HA.out _ B3.out).1)
    (first
      | (go_at_call 61; (with_reducible refine hsv.mono ?_); rintro _ w3 ⟨rfl, h3, s3, k3, f3⟩; have B3 := Lib.hid k3; have S3 := Lib.hid s3; have H3 := Lib.hid h3; have F3 := Lib.hid f3; have hrs := HB.out w3 k3; clear h3 k3 s3 f3)
      | (go_at_call 67; (with_reducible refine hrs.mono ?_); rintro _ w4 ⟨rfl, ⟨L1, g1, g2, r4⟩, t4, k4, a4⟩; have B4 := Lib.hid k4; have A4 := Lib.hid a4; have R4 := Lib.hid r4; have T4 := Lib.hid t4; have G4 := Lib.hid (And.intro g1 g2); have hkp := kept_any (HK.out w3 w4 B3.out k4).2.1 Hnb.out (HK.out w3 w4 B3.out k4).2.2 (by have := Hnl.out; omega); clear k4 a4 r4 t4 g1 g2 hrs)
      | (go_at_call 10; (with_reducible refine (hnum _).mono ?_); rintro _ _ ⟨rfl, rfl⟩)
      | (go_at_call 52; (with_reducible refine hkp.mono ?_); rintro _ _ ⟨rfl, rfl⟩))
  have hov := over_any w4 w1.heap.size g o nb c l Hnb.out (by have := Hnl.out; omega) ((HK.out w3 w4 B3.out B4.out).2.1.frontS Hnb.out (by omega))
  clear hnum hsv c2' p0 p1 hkp
  go_wp2_with (go_at_call 53; (with_reducible refine hov.mono ?_); rintro _ w5 ⟨rfl, l', hl', hs5, k5⟩; clear hov; have K5 := Lib.hid k5; clear hl' hs5 k5)
  go_ret
  obtain ⟨_, x3, _, _, h3⟩ := HA.out _ B3.out
  have hsz2 := B3.out.size
  have hFlt : ∀ k, DFoot p mn ms mc k ∨ k = j ∨ k = s ∨ k = t' ∨ k = g → k < w3.heap.size := fun k e => Nat.lt_of_lt_of_le (m := w2.heap.size) (by
    have h1 := Hal.out.size
    have h2 := B2.out.size
    rcases e with e | e | e | e | e
    · exact Nat.lt_of_lt_of_le (H1.out.lt k (.inr (.inl e))) h2
    · exact Nat.lt_of_lt_of_le (H1.out.lt k (.inr (.inr e))) h2
    · have := Hts.out; omega
    · have := Hts.out; omega
    · have := Hgl.out; omega) hsz2
  have x4 := x3.after R4.out A4.out hFlt
  have x5 := x4.keeps K5.out (fun k e => .inr (.inr (.inr (.inr e)))) (fun k e e' => by
    rcases e with e | rfl | rfl | rfl | rfl
    · exact H1.out.off k e e'
    · exact H1.out.ja e'
    · exact HsF.out.1 e'
    · exact HtF.out.1 e'
    · exact HgF.out.1 e')
  have o3 := F3.out (fun k => A.S k ∨ k = j ∨ k = t' ∨ k = g) (fun k e => by
    show k < w2.heap.size
    have h1 := Hal.out.size
    have h2 := B2.out.size
    rcases e with e | e | e | e
    · exact Nat.lt_of_lt_of_le (H1.out.lt k (.inl e)) h2
    · exact Nat.lt_of_lt_of_le (H1.out.lt k (.inr (.inr e))) h2
    · have := Hts.out; omega
    · have := Hgl.out; omega) Hs2.out
  have hs4 : ¬ (A.S s ∨ s = t') := fun e => e.elim HsF.out.1 (fun e => HtF.out.2.2.2 e.symm)
  have hgs : s ≠ g := by have := Hts.out; have := Hgl.out; omega
  have d4 := H3.out.other B4.out (fun k e e' => e'.elim (H1.out.off k e) (fun e2 => HtF.out.2.1 (e2 ▸ e))) (fun k e => e.elim (H1.out.low k) (fun e => by have e' : k = t' := e; have := Hvv.out.2.2.2.2; omega))
  have d5 := d4.other K5.out (fun k e e' => HgF.out.2.1 (e' ▸ e)) (fun k e => by have e' : k = g := e; have := Hgl.out; have := Hw0.out; omega)
  have a4 := S3.out.off (o3.less (G := fun k => A.S k ∨ k = t') (fun k e => e.elim .inl (fun e => .inr (.inr (.inl e))))) B4.out hs4
  have o4 := o3.keeps B4.out hs4
  have a5 := a4.off (o4.less (G := (· = g)) (fun k e => .inr (.inr (.inr e)))) K5.out hgs
  have o5 := o4.keeps K5.out hgs
  have t5 := T4.out.keeps K5.out (fun k e => .inr (.inr (.inr (.inr e))))
  have hpj := ((B3.out.at H2.out.pair (fun e => e.elim H1.out.jd (fun e => HsF.out.2.2 e.symm))))
  have hpj4 := B4.out.at hpj (fun e => e.elim H1.out.ja (fun e => HtF.out.2.2.1 e.symm))
  have hpj5 := K5.out.at hpj4 (fun e => HgF.out.2.2 e.symm)
  refine ⟨rfl, _, L1, _, _, some ⟨va, _, _, _⟩, ⟨d5.more (by omega), x5.ref, H1.out.off, H1.out.low, hpj5, H1.out.jl, H1.out.jd, H1.out.ja, by have := G4.out.1; have := H1.out.l0; omega, Int.le_trans G4.out.2 H1.out.l1⟩, .inr ⟨_, s, t', rfl, rfl, rfl, a5, o5.less (fun k e => ?_), t5.less (fun k e => ?_), Hso2.out.2.1, Hvv.out.2.1, Hvv.out.2.2.1, HsF.out.1, HsF.out.2.2, Hvv.out.2.2.2.1, Hvv.out.2.2.2.2, fun e => e, Hso2.out.2.2⟩⟩
  · rcases e with e | e | e | e
    · exact .inl e
    · exact .inr (.inl e)
    · exact .inr (.inr (.inl e))
    · exact e.elim
  · rcases e with e | e | e | e | e
    · exact .inl e
    · exact .inr (.inl e)
    · exact .inr (.inr (.inl e))
    · exact .inr (.inr (.inr (.inl e)))
    · exact e.elim
end
end Go.Proofs.Ytnficiohnhodiaa
