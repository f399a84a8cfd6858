import Derived.Test.YtnficiohnhodiaaRwQ
/-
  The law of the slots, play: Crash, a sector written.
-/
namespace Go.Proofs.Ytnficiohnhodiaa
open Go.RowKit
theorem Ints.ltS {w : World} {v : Value} {l : List Int} (h : Ints w v l) (h0 : l ≠ []) (k : Nat) (e : v.ownBlock = some k) : k < w.heap.size := by
  obtain ⟨q, cap, rfl, h1, h2, h3⟩ := h
  cases l with
  | nil => exact absurd rfl h0
  | cons x l =>
    obtain ⟨b, off, rfl, hc⟩ := h3 0 x rfl
    have e2 : b = k := by cases e; rfl
    subst e2
    exact World.block_lt_of_cell? w _ hc
section
variable {w0 w w1 w2 w' : World} {p mn ms mc j n m : Nat} {A : RAd} {d d' : Dev} {L L' : Int} {sq tq : Option Addr} {x : Option SV} {G : Nat → Prop}
theorem SlotsP.dev (h : SlotsP w0 w p mn ms mc A j G sq tq x) (hd : DevAt w p mn ms mc d) (hk : Keeps (DFoot p mn ms mc) w w') : SlotsP w0 w' p mn ms mc A j G sq tq x := by
  rcases h with h | ⟨v, s, t, e0, e1, e2, h1, h2, h3, h4, h5, h6, h7⟩
  · exact .inl h
  · exact .inr ⟨v, s, t, e0, e1, e2, h1.dev hd hk, h2.keeps hk (h1.not_dev hd), h3.keeps hk (fun k e => .inr (.inl e)), h4, h5, h6, h7⟩
theorem SlotsP.refd (h : SlotsP w0 w p mn ms mc A j G sq tq x) (hk : Keeps A.S w w') : SlotsP w0 w' p mn ms mc A j G sq tq x := by
  rcases h with h | ⟨v, s, t, e0, e1, e2, h1, h2, h3, h4, h5, h6, h7, h8⟩
  · exact .inl h
  · exact .inr ⟨v, s, t, e0, e1, e2, h1.off (h2.less (fun k e => .inl e)) hk h7, h2.keeps hk h7, h3.keeps hk (fun k e => .inl e), h4, h5, h6, h7, h8⟩
/-- what the document's device is while the program's one has made its step -/
theorem PB.ahead (h : PB w0 w p mn ms mc A j d L n sq tq) (hk : Keeps (DFoot p mn ms mc) w w1) : RefAt w1 w0.heap.size A d L :=
  ((RefX.of h.ref h.dev.lay h.dev.ok.lens).keeps hk (fun _ e => e) h.off).ref
/-- both devices have made their step -/
theorem PB.step (h : PB w0 w p mn ms mc A j d L n sq tq) (hd : DB w0 w1 p mn ms mc d' m) (hk : Keeps (DFoot p mn ms mc) w w1) (hr : RefAt w2 w0.heap.size A d' L') (hk2 : Keeps A.S w1 w2) (hL0 : -(m : Int) ≤ L') (hL1 : L' ≤ 9223372036854775807) : PB w0 w2 p mn ms mc A j d' L' m sq tq :=
  ⟨hd.other hk2 h.off h.low, hr, h.off, h.low, hk2.at (hk.at h.pair h.jd) h.ja, h.jl, h.jd, h.ja, hL0, hL1⟩
set_option maxRecDepth 100000 in
set_option maxHeartbeats 2000000 in
theorem play_crashS (h : PB w0 w p mn ms mc A j d L n sq tq) (hS : SlotsP w0 w p mn ms mc A j (fun _ => False) sq tq x) (at_ : Int) (r : Value) {q : Option Addr} {nb cb : Nat} {l : List Int} (hbs : Ints w0 (.slice q nb cb) l) :
    Calls Try.prog 34 #[.pointer (some ⟨j, 0, none⟩), .agg #[.int .i64 4, .int .i64 at_, r, .slice q nb cb]] w fun e w' => e = .returned (.bool true) ∧ PI w0 w' p mn ms mc A j (n + 3) := by
  have hal : Below w.heap.size w (w.alloc (.cells #[.int .i64 4, .int .i64 at_, r, .slice q nb cb] 71)) := (Below.refl _ _).alloc (Nat.le_refl _) _
  have hh := heap_alloc_new w (.cells #[.int .i64 4, .int .i64 at_, r, .slice q nb cb] 71)
  have c3 := cell_in (o := 3) (u := .slice q nb cb) hh rfl
  have H1 := Lib.hid (h.below hal)
  have Hs1 := Lib.hid (hS.below hal)
  have Hlt := Lib.hid h.lt
  have Hlow : Hid (l ≠ [] → ∀ k, (Value.slice q nb cb).ownBlock = some k → k < w0.heap.size) := Lib.hid (fun h0 k e => hbs.ltS h0 k e)
  have Hbs := Lib.hid hbs
  clear h hS hal hh hbs
  go_enter Try.func34, Try.ntmps34
  go_upto_region 28 with fail
  generalize w.alloc (.cells #[.int .i64 4, .int .i64 at_, r, .slice q nb cb] 71) = w1 at H1 Hs1 c3 ⊢
  have hD : Below w1.heap.size w1 w1.drew := (Below.refl _ _).drew
  have H2 := Lib.hid (H1.out.below hD)
  have Hs2 := Lib.hid (Hs1.out.below hD)
  have hcr := crash_db H2.out.dev _ l (Hbs.out.below H2.out.dev.bel)
  have c3' : w1.drew.cell? ⟨w.heap.size, 3, none⟩ = some (.slice q nb cb) := c3
  have p0 := cell_in (o := 0) H2.out.pair rfl
  clear c3 hD
  go_region_held3 (fun w' => w'.cell? ⟨j, 0, none⟩ = some (.pointer (some ⟨p, 0, none⟩)) ∧ w'.cell? ⟨w.heap.size, 3, none⟩ = some (.slice q nb cb))
    (first | exact ⟨p0, c3'⟩ | exact K3.out)
    (first | (go_at_call 48; (with_reducible refine hcr.mono ?_); rintro _ w3 ⟨rfl, h3, k3⟩; have K3 := Lib.hid (And.intro (k3.cell p0 H2.out.jd) (k3.cell c3' (fun e => Nat.lt_irrefl _ (Hlt.out _ (.inr (.inl e)))))); have B3 := Lib.hid k3; have H3 := Lib.hid h3; clear h3 k3))
  have hD : Below w3.heap.size w3 w3.drew := (Below.refl _ _).drew
  have HD3 := Lib.hid (H3.out.below hD)
  have B3d : Hid (Keeps (DFoot p mn ms mc) w1.drew w3.drew) := Lib.hid (B3.out.trans (Keeps.of_below hD))
  have hrc := rcrash_any (H2.out.ahead B3d.out) H2.out.dev.ok (v := .slice q nb cb) (ks := l) (Hbs.out.below HD3.out.bel) (fun h0 k e e' => by have := Hlow.out h0 k e; have := H1.out.low k e'; omega)
  have c3'' : w3.drew.cell? ⟨w.heap.size, 3, none⟩ = some (.slice q nb cb) := K3.out.2
  have p1 := cell_in (o := 1) (B3d.out.at H2.out.pair H2.out.jd) rfl
  clear hD hcr p0 c3'
  go_upto_region 29 with fail
  go_region_held3 (fun w' => w'.cell? ⟨j, 1, none⟩ = some (.pointer (some ⟨A.b, 0, none⟩)) ∧ w'.cell? ⟨w.heap.size, 3, none⟩ = some (.slice q nb cb))
    (first | exact ⟨p1, c3''⟩ | exact K4.out)
    (first | (go_at_call 57; (with_reducible refine hrc.mono ?_); rintro _ w4 ⟨rfl, h4, k4⟩; have K4 := Lib.hid (And.intro (k4.cell p1 H2.out.ja) (k4.cell c3'' (fun e => Nat.lt_irrefl _ (Hlt.out _ (.inl e))))); have B4 := Lib.hid k4; have H4 := Lib.hid h4; clear h4 k4))
  clear p1 c3'' hrc
  go_wp2
  go_ret
  exact ⟨rfl, _, L, sq, tq, x, (H2.out.step HD3.out B3d.out H4.out B4.out H2.out.l0 H2.out.l1).more (by omega), (Hs2.out.dev H2.out.dev.lay B3d.out).refd B4.out⟩
set_option maxRecDepth 100000 in
set_option maxHeartbeats 2000000 in
theorem play_sector (h : PB w0 w p mn ms mc A j d L n sq tq) (hS : SlotsP w0 w p mn ms mc A j (fun _ => False) sq tq x) (hn : n ≤ 100000) (kind : Int) (hkd : kind < 0 ∨ 4 < kind) (at_ : Int) {q : Option Addr} {nb cb : Nat} {l : List UInt8} (hnb : l.length = nb) (hbs : Bytes w0 (.slice q nb cb) l) (k : Value) :
    Calls Try.prog 34 #[.pointer (some ⟨j, 0, none⟩), .agg #[.int .i64 kind, .int .i64 at_, .slice q nb cb, k]] w fun e w' => e = .returned (.bool true) ∧ PI w0 w' p mn ms mc A j (n + 3) := by
  have e0 : decide (kind = 0) = false := by simp; omega
  have e1 : decide (kind = 1) = false := by simp; omega
  have e2 : decide (kind = 2) = false := by simp; omega
  have e3 : decide (kind = 3) = false := by simp; omega
  have e4 : decide (kind = 4) = false := by simp; omega
  have f0 : (kind == 0) = false := by simp; omega
  have f1 : (kind == 1) = false := by simp; omega
  have f2 : (kind == 2) = false := by simp; omega
  have f3 : (kind == 3) = false := by simp; omega
  have f4 : (kind == 4) = false := by simp; omega
  have hal : Below w.heap.size w (w.alloc (.cells #[.int .i64 kind, .int .i64 at_, .slice q nb cb, k] 71)) := (Below.refl _ _).alloc (Nat.le_refl _) _
  have hh := heap_alloc_new w (.cells #[.int .i64 kind, .int .i64 at_, .slice q nb cb, k] 71)
  have c1 := cell_in (o := 1) (u := .int .i64 at_) hh rfl
  have c2 := cell_in (o := 2) (u := .slice q nb cb) hh rfl
  have H1 := Lib.hid (h.below hal)
  have Hs1 := Lib.hid (hS.below hal)
  have Hlt := Lib.hid h.lt
  have Hn := Lib.hid hn
  have Hlow : Hid (l ≠ [] → ∀ k, (Value.slice q nb cb).ownBlock = some k → k < w0.heap.size) := Lib.hid (fun h0 k e => hbs.lt h0 k e)
  have Hbs := Lib.hid hbs
  clear h hS hal hh hbs hnb hn hkd
  go_enter Try.func34, Try.ntmps34
  go_upto_region 2 with fail
  clear e0 e1 e2 e3 e4 f0 f1 f2 f3 f4
  generalize w.alloc (.cells #[.int .i64 kind, .int .i64 at_, .slice q nb cb, k] 71) = w1 at H1 Hs1 c1 c2 ⊢
  have hD : Below w1.heap.size w1 w1.drew := (Below.refl _ _).drew
  have H2 := Lib.hid (H1.out.below hD)
  have Hs2 := Lib.hid (Hs1.out.below hD)
  have hfi := filled_any (Hbs.out.below H2.out.dev.bel)
  have c1' : w1.drew.cell? ⟨w.heap.size, 1, none⟩ = some (.int .i64 at_) := c1
  have c2' : w1.drew.cell? ⟨w.heap.size, 2, none⟩ = some (.slice q nb cb) := c2
  have p0 := cell_in (o := 0) H2.out.pair rfl
  have p1 := cell_in (o := 1) H2.out.pair rfl
  have HS : Hid (∀ w3 : World, Keeps (fun k => DFoot p mn ms mc k ∨ A.S k) w1.drew w3 → w3.cell? ⟨j, 0, none⟩ = some (.pointer (some ⟨p, 0, none⟩)) ∧ w3.cell? ⟨j, 1, none⟩ = some (.pointer (some ⟨A.b, 0, none⟩)) ∧ w3.cell? ⟨w.heap.size, 1, none⟩ = some (.int .i64 at_) ∧ w3.cell? ⟨w.heap.size, 2, none⟩ = some (.slice q nb cb)) := Lib.hid (fun w3 k3 => by
    have hnj : ¬ (DFoot p mn ms mc j ∨ A.S j) := fun e => e.elim H1.out.jd H1.out.ja
    have hnw : ¬ (DFoot p mn ms mc w.heap.size ∨ A.S w.heap.size) := fun e => Nat.lt_irrefl _ (Hlt.out _ (e.elim (fun e => .inr (.inl e)) .inl))
    exact ⟨k3.cell p0 hnj, k3.cell p1 hnj, k3.cell c1' hnw, k3.cell c2' hnw⟩)
  have hnum : ∀ w : World, Calls Try.prog 10 #[errV (d.write at_ (fillL l)).1] w fun e w' => e = .returned (.int .i64 (d.write at_ (fillL l)).1) ∧ w = w' := fun w => num_any _ w (write_codeS _ _ _)
  have hlen := fillL_len l
  have Hlen := Lib.hid hlen
  clear c1 c2 hD hlen
  go_region_held3 (fun w' => w'.cell? ⟨j, 0, none⟩ = some (.pointer (some ⟨p, 0, none⟩)) ∧ w'.cell? ⟨j, 1, none⟩ = some (.pointer (some ⟨A.b, 0, none⟩)) ∧ w'.cell? ⟨w.heap.size, 1, none⟩ = some (.int .i64 at_) ∧ w'.cell? ⟨w.heap.size, 2, none⟩ = some (.slice q nb cb))
    (first | exact ⟨p0, p1, c1', c2'⟩ | exact HS.out _ K7.out | exact HS.out _ K6.out | exact HS.out _ K5.out | exact HS.out _ K4.out | exact HS.out _ K3.out)
    (first
      | (go_at_call 68; (with_reducible refine hfi.mono ?_); rintro _ w3 ⟨g, rfl, s3, b3⟩; clear hfi; have S3 := Lib.hid s3; have B3 := Lib.hid b3; have K3 : Hid (Keeps (fun k => DFoot p mn ms mc k ∨ A.S k) w1.drew w3) := Lib.hid (Keeps.of_below b3); have K4 : Hid (Keeps (fun k => DFoot p mn ms mc k ∨ A.S k) w1.drew (w3.alloc (.cells #[.slice (some ⟨g, 0, none⟩) 512 512] 52))) := Lib.hid (K3.out.alloc _);
          have hwr := write_db ((H2.out.dev.below b3).below ((Below.refl _ _).alloc (Nat.le_refl _) (.cells #[.slice (some ⟨g, 0, none⟩) 512 512] 52))) (by have := Hn.out; omega) at_ _ [fillL l] (fillL l) (by simp) (one_part (Bytes.of_sub s3) 52) (by simp) (by rw [Hlen.out]; omega); clear s3 b3)
      | (go_at_call 45; (with_reducible refine hwr.mono ?_); rintro _ w5 ⟨rfl, h5, k5⟩; clear hwr; have H5 := Lib.hid h5; have B5 := Lib.hid k5; have K5 : Hid (Keeps (fun k => DFoot p mn ms mc k ∨ A.S k) w1.drew w5) := Lib.hid (K4.out.trans (k5.mono (fun _ _ e => .inl e))); have hfi2 := filled_any (Hbs.out.below h5.bel); clear h5 k5)
      | (go_at_call 10; (with_reducible refine (hnum _).mono ?_); rintro _ _ ⟨rfl, rfl⟩)
      | (go_at_call 68; (with_reducible refine hfi2.mono ?_); rintro _ w6 ⟨g6, rfl, s6, b6⟩; clear hfi2; have S6 := Lib.hid s6; have B6 := Lib.hid b6; have K6 : Hid (Keeps (fun k => DFoot p mn ms mc k ∨ A.S k) w1.drew w6) := Lib.hid (K5.out.trans (Keeps.of_below b6));
          have hrw := rwrite_more (A := A) (d := d) (L := L) (B := w0.heap.size) (n := n) (w := w6) (H2.out.ahead (((Keeps.of_below (B3.out.trans (((Below.refl _ _).alloc (Nat.le_refl _) _).mono B3.out.size))).trans B5.out).trans (Keeps.of_below b6))) H2.out.dev.ok (by have := Hn.out; omega) H2.out.l1 (by have := H2.out.l0; have := Hn.out; omega) at_ (Bytes.of_sub s6) (fun _ k e e' => by have := (s6.lt k e).1; have h9 := K5.out.size; have := H2.out.lt k (.inl e'); omega) (by rw [Hlen.out]; omega); clear s6 b6)
      | (go_at_call 51; (with_reducible refine hrw.mono ?_); rintro _ w7 ⟨rfl, h7, k7, _⟩; clear hrw; have H7 := Lib.hid h7; have B7 := Lib.hid k7; have K7 : Hid (Keeps (fun k => DFoot p mn ms mc k ∨ A.S k) w1.drew w7) := Lib.hid (K6.out.trans (k7.mono (fun _ _ e => .inr e))); clear h7 k7))
  clear hnum p0 p1 c1' c2'
  go_wp2
  go_ret
  have hk : Keeps (DFoot p mn ms mc) w1.drew w6 := ((Keeps.of_below (B3.out.trans (((Below.refl _ _).alloc (Nat.le_refl _) _).mono B3.out.size))).trans B5.out).trans (Keeps.of_below B6.out)
  have hL := writeL_b d at_ (fillL l) L
  exact ⟨rfl, _, _, sq, tq, x, (H2.out.step (H5.out.below B6.out) hk H7.out B7.out (by have := H2.out.l0; omega) (Int.le_trans hL.2 H2.out.l1)).more (by omega), (Hs2.out.dev H2.out.dev.lay hk).refd B7.out⟩
end
end Go.Proofs.Ytnficiohnhodiaa
