import Derived.Test.YtnficiohnhodiaaRwN
import Derived.Deep.RegionHeld3
/-
  The law of the slots, play: an Open.
-/
namespace Go.Proofs.Ytnficiohnhodiaa
open Go.RowKit
section
variable {w0 w w' : World} {p mn ms mc j n m : Nat} {A : RAd} {d d' : Dev} {L L' : Int} {sq tq : Option Addr} {x : Option SV}
set_option maxRecDepth 100000 in
set_option maxHeartbeats 1000000 in
theorem play_open (h : PB w0 w p mn ms mc A j d L n sq tq) (at_ : Int) (r k : Value) :
    Calls Try.prog 34 #[.pointer (some ⟨j, 0, none⟩), .agg #[.int .i64 1, .int .i64 at_, r, k]] w fun e w' => e = .returned (.bool true) ∧ PI w0 w' p mn ms mc A j (n + 3) := by
  have hal : Below w.heap.size w (w.alloc (.cells #[.int .i64 1, .int .i64 at_, r, k] 71)) := (Below.refl _ _).alloc (Nat.le_refl _) _
  have hh := heap_alloc_new w (.cells #[.int .i64 1, .int .i64 at_, r, k] 71)
  have c1 := cell_in (o := 1) (u := .int .i64 at_) hh rfl
  have H1 := Lib.hid (h.below hal)
  have Hal := Lib.hid hal
  have Hlt := Lib.hid h.lt
  clear h hal hh
  go_enter Try.func34, Try.ntmps34
  go_upto_region 12 with fail
  generalize w.alloc (.cells #[.int .i64 1, .int .i64 at_, r, k] 71) = w1 at H1 Hal c1 ⊢
  have hD : Below w1.heap.size w1 w1.drew := (Below.refl _ _).drew
  have hop := open_form (H1.out.dev.below hD) at_
  have c1' : w1.drew.cell? ⟨w.heap.size, 1, none⟩ = some (.int .i64 at_) := (Keeps.of_below (S := fun _ => False) hD).cell c1 (fun e => e)
  have p0 := cell_in (o := 0) (H1.out.below hD).pair rfl
  have H2 := Lib.hid (H1.out.below hD)
  clear c1 hD
  go_region_held3 (fun w' => w'.cell? ⟨j, 0, none⟩ = some (.pointer (some ⟨p, 0, none⟩)) ∧ w'.cell? ⟨w.heap.size, 1, none⟩ = some (.int .i64 at_))
    (first | exact ⟨p0, c1'⟩ | exact K3.out)
    (first | (go_at_call 62; (with_reducible refine hop.mono ?_); rintro _ w3 ⟨sq1, rfl, h3, b3, s3⟩; have K3 := Lib.hid (And.intro ((Keeps.of_below (S := fun _ => False) b3).cell p0 (fun e => e)) ((Keeps.of_below (S := fun _ => False) b3).cell c1' (fun e => e))); have B3 := Lib.hid b3; have S3 := Lib.hid s3; clear h3 b3 s3))
  have H3 := Lib.hid (H2.out.below B3.out)
  have hD : Below w3.heap.size w3 w3.drew := (Below.refl _ _).drew
  have hF : ∀ k, (A.S k ∨ DFoot p mn ms mc k ∨ k = j ∨ InB sq1 k) → k < w3.drew.heap.size := fun k e => by
    show k < w3.heap.size
    rcases e with e | e | e | e
    · exact H3.out.lt k (.inl e)
    · exact H3.out.lt k (.inr (.inl e))
    · exact H3.out.lt k (.inr (.inr e))
    · exact S3.out.lt k e
  have hro := ropen_form (H3.out.ref.below hD) H3.out.dev.ok hF at_
  have c1'' : w3.drew.cell? ⟨w.heap.size, 1, none⟩ = some (.int .i64 at_) := (Keeps.of_below (S := fun _ => False) hD).cell K3.out.2 (fun e => e)
  have p1 := cell_in (o := 1) (H3.out.below hD).pair rfl
  clear hD hF p0 c1' hop
  go_upto_region 13 with fail
  go_region_held3 (fun w' => w'.cell? ⟨j, 1, none⟩ = some (.pointer (some ⟨A.b, 0, none⟩)) ∧ w'.cell? ⟨w.heap.size, 1, none⟩ = some (.int .i64 at_))
    (first | exact ⟨p1, c1''⟩ | exact K4.out)
    (first | (go_at_call 66; (with_reducible refine hro.mono ?_); rintro _ w4 ⟨tq1, rfl, b4, t4⟩; have K4 := Lib.hid (And.intro ((Keeps.of_below (S := fun _ => False) b4).cell p1 (fun e => e)) ((Keeps.of_below (S := fun _ => False) b4).cell c1'' (fun e => e))); have B4 := Lib.hid b4; have T4 := Lib.hid t4; clear b4 t4))
  have hb34 : Below w3.heap.size w3 w4 := (Below.refl _ _).drew.trans B4.out
  have H4 := Lib.hid (H3.out.below hb34)
  have p2 := cell_in (o := 2) H4.out.pair rfl
  have p3 := cell_in (o := 3) H4.out.pair rfl
  have pf : ∀ o, w4.frozen? ⟨j, o, none⟩ = false := fun o => free_in (o := o) H4.out.pair
  have pf2 := pf 2
  have pf3 := pf 3
  have hnum := fun w => num_any (d.slotOpen at_).1 w (slotOpen_pos d at_)
  clear pf p1 c1'' hro
  go_wp2_with (go_at_call 10; (with_reducible refine (hnum _).mono ?_); rintro _ _ ⟨rfl, rfl⟩; clear hnum)
  go_ret
  have hz := H4.out.dev.ok.z2
  obtain ⟨x, hx⟩ := SlotsP.made (w0 := w0) (j := j) S3.out T4.out (Keeps.of_below hb34) (PB.wrote (w := w4) (j := j) (u := .pointer sq1) (v := .pointer tq1))
    (G := fun _ => False) (fun k e => Nat.lt_of_lt_of_le (Hlt.out k (by rcases e with e | e | e | e; exact .inl e; exact .inr (.inl e); exact .inr (.inr e); exact e.elim)) Hal.out.size) (Nat.le_refl _) H1.out.dev.bel.size (fun k e => by rcases e with e | e | e | e | e; exact .inl e; exact .inr (.inl e); exact .inr (.inr (.inl e)); exact .inr (.inr (.inr e)); exact e.elim) (fun e => by have := slotOpen_ok at_ e; exact ⟨this.1, this.2.1, by omega⟩) (fun e => slotOpen_len at_ e)
  exact ⟨rfl, d, L, sq1, tq1, x, (H4.out.write).more (by omega), hx⟩
end
end Go.Proofs.Ytnficiohnhodiaa
