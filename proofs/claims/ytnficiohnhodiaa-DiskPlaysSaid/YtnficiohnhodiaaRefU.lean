import Derived.Test.YtnficiohnhodiaaRefT
import Derived.Test.YtnficiohnhodiaaBase
import Derived.WalkKit
import Derived.ProofKit
import Derived.OpenShut
import Derived.ShutString
import Derived.ChangeOld
import Derived.Below
import Derived.SizedLaws
/-
  DiskPlays: one round of the script; the law.
-/
namespace Go.Proofs.Ytnficiohnhodiaa
open Go.RowKit
theorem opsU_below {w w' : World} {a : Option Addr} {len cap : Nat} {zs : List OpD} (hz : IsOps w a len cap zs) (hb : Below w.heap.size w w') : IsOps w' a len cap zs := by
  rcases hz with h | ⟨x, h1, h2, h3, h4, h5, h6⟩
  · exact .inl h
  · exact .inr ⟨x, h1, h2, h3, h4, fun i o ho j v hv => (hb.cell (p := x.add (i * 5 + j)) (World.block_lt_of_cell? w _ (h5 i o ho j v hv))).trans (h5 i o ho j v hv), h6⟩
theorem RowsAt.weaken {w : World} {B B' : Nat} {v : Value} {S : Nat → Prop} {f : Int → List UInt8} {size : Nat} (h : RowsAt w B v S f size) (hb : B' ≤ B) : RowsAt w B' v S f size := by
  obtain ⟨rows, a, b, c⟩ := h
  exact ⟨rows, a, b.weaken hb, c⟩
theorem RefAt.weaken {w : World} {B B' : Nat} {A : RAd} {d : Dev} {L : Int} (h : RefAt w B A d L) (hb : B' ≤ B) : RefAt w B' A d L :=
  ⟨h.self, h.now.weaken hb, h.synced.weaken hb, h.chg.weaken hb, Nat.le_trans hb h.low, h.ap1, h.ap2, h.ap3, h.left, h.l0⟩
theorem RefAt.above {w : World} {B : Nat} {A : RAd} {d : Dev} {L : Int} (h : RefAt w B A d L) (k : Nat) (hk : A.S k) : B ≤ k := by
  rcases hk with rfl | e | e | e
  · exact h.low
  · obtain ⟨rows, _, hs, _⟩ := h.now; exact (hs.lt k e).1
  · obtain ⟨rows, _, hs, _⟩ := h.synced; exact (hs.lt k e).1
  · exact (h.chg.lt k e).1
theorem playD_L (d : Dev) (L : Int) (o : OpD) (l : List UInt8) (ks : List Int) (b : Int) (hb : 0 ≤ b) (h0 : -b ≤ L) (h1 : L ≤ 9223372036854775807) (hn : o.n ≤ 9223372036854775807) : -(b + 1) ≤ (playD d L o l ks).2 ∧ (playD d L o l ks).2 ≤ 9223372036854775807 := by
  have hw : ∀ l, L - 1 ≤ writeL d o.at_ l L ∧ writeL d o.at_ l L ≤ L := fun l => by unfold writeL; split <;> omega
  have hs : L - 1 ≤ stepL d L ∧ stepL d L ≤ L := by unfold stepL; split <;> omega
  unfold playD
  split
  · have := hw l; constructor <;> (simp only; omega)
  split
  · have := hw (fullB o.n); constructor <;> (simp only; omega)
  split
  · constructor <;> (simp only; omega)
  split
  · constructor <;> (simp only; omega)
  split
  · split <;> constructor <;> (simp only; omega)
  · constructor <;> (simp only; omega)
theorem playD_size (d : Dev) (L : Int) (o : OpD) (l : List UInt8) (ks : List Int) : (playD d L o l ks).1.size = d.size := by
  have hw : ∀ l, (d.write o.at_ l).2.size = d.size := fun l => by
    unfold Dev.write
    split
    · rfl
    · split
      · rfl
      · split
        · exact step_size d
        · exact step_size d
  have hs : d.sync.2.size = d.size := by
    unfold Dev.sync
    split
    · exact step_size d
    · exact step_size d
  unfold playD
  split
  · exact hw _
  split
  · exact hw _
  split
  · rfl
  split
  · exact hs
  split
  · split <;> rfl
  · rfl
theorem playD_ok {d : Dev} {n : Nat} (h : d.Ok n) (L : Int) (o : OpD) (l : List UInt8) (ks : List Int) (hn : o.n ≤ 9223372036854775807) : (playD d L o l ks).1.Ok (n + 1) := by
  unfold playD
  split
  · exact h.write _ _
  split
  · exact h.write _ _
  split
  · exact h.more
  split
  · exact h.sync
  split
  · split
    · exact h.more
    · exact { h.more with l0 := by show 0 ≤ o.n; omega, l1 := by show o.n < _; omega }
  · exact (h.crash ks).more
section
variable {w0 w w' : World} {A : RAd} {d : Dev} {L : Int} {p mn ms mc n : Nat}
theorem Both.still {S : Nat → Prop} (h : Both w0 w p mn ms mc A d L n) (hk : Keeps S w w') (hs : ∀ k, ¬ S k) : Both w0 w' p mn ms mc A d L n := h.below (hk.below (Nat.le_refl _) (fun k _ => hs k))
end
end Go.Proofs.Ytnficiohnhodiaa
namespace Go.Proofs.Ytnficiohnhodiaa.Pre
open Go.RowKit
theorem slice_inj {N : Nat} : ∀ x y : Option Addr × Nat, Value.slice x.1 N x.2 = Value.slice y.1 N y.2 → x = y := fun x y h => by
  obtain ⟨x1, x2⟩ := x; obtain ⟨y1, y2⟩ := y
  injection h with h1 _ h2
  simp only at h1 h2
  rw [h1, h2]
/-- the cells of the call that is laid into memory -/
structure BoxU (bx : Nat) (o : OpD) (w' : World) : Prop where
  c0 : w'.cell? ⟨bx, 0, none⟩ = some (.int .i64 o.kind)
  c1 : w'.cell? ⟨bx, 1, none⟩ = some (.int .i64 o.at_)
  c2 : w'.cell? ⟨bx, 2, none⟩ = some (.int .i64 o.n)
  c3 : w'.cell? ⟨bx, 3, none⟩ = some (.slice o.bq o.bl o.bc)
  c4 : w'.cell? ⟨bx, 4, none⟩ = some (.slice o.kq o.kl o.kc)
theorem BoxU.keeps {S : Nat → Prop} {bx : Nat} {o : OpD} {w w' : World} (h : BoxU bx o w) (hk : Keeps S w w') (hs : ¬ S bx) : BoxU bx o w' :=
  ⟨hk.cell h.1 hs, hk.cell h.2 hs, hk.cell h.3 hs, hk.cell h.4 hs, hk.cell h.5 hs⟩
set_option maxRecDepth 100000 in
set_option maxHeartbeats 4000000 in
theorem plays_ok (size : Int) (a : Option Addr) (len cap : Nat) (zs : List OpD) (w : World) (hz : IsOps w a len cap zs) (hx : ∀ (i : Nat) (o : OpD), zs[i]? = some o → ∃ l ks, o.Holds w l ks) (hs0 : 1 ≤ size) (hs1 : size ≤ 4096) :
    Calls Try.prog 4 #[.int .i64 size, .slice a len cap] w fun e w' => e = .returned (.bool true) ∧ Below w.heap.size w w' := by
  have hal := alive_any w
  have Hz := Lib.hid hz
  have Hx := Lib.hid hx
  obtain ⟨hl, hm⟩ := ops_len hz
  have Hl := Lib.hid hl
  have hm2 := hm
  unfold maxLen at hm2
  clear hz hx hl hm
  go_enter Try.func4, Try.ntmps4
  go_upto_region 5 with (first
    | (go_at_call 21; (with_reducible refine hal.mono ?_); rintro _ w1 ⟨rfl, b1⟩; clear hal; have B1 := Lib.hid b1; have hnw := new_db w w1 size hs0 hs1 b1; clear b1)
    | (go_at_call 22; (with_reducible refine hnw.mono ?_); rintro _ w2 ⟨p, mn, ms, mc, rfl, h2, b2, f2⟩; clear hnw; have H2 := Lib.hid h2; have B2 := Lib.hid b2; have hrn := rnew_any w2 size hs0 hs1; clear h2 b2 f2)
    | (go_at_call 23; (with_reducible refine hrn.mono ?_); rintro _ w3 ⟨A, rfl, h3, b3⟩; clear hrn; have H3 := Lib.hid h3; have B3 := Lib.hid b3; clear h3 b3; have hlg := longX_any a len cap zs w3 (opsU_below Hz.out (H2.out.bel.trans (B3.out.mono H2.out.bel.size))); have hnum := num_any 0 w3 (by omega); rw [errV_zero] at hnum))
  go_wp2_with (first
    | (go_at_call 24; (with_reducible refine hlg.mono ?_); rintro _ w4 ⟨b, rfl, hb, b4⟩; clear hlg; have B4 := Lib.hid b4; have Hb := Lib.hid hb; have hnum4 := num_any 0 w4 (by omega); rw [errV_zero] at hnum4; clear b4 hb)
    | (go_at_call 10; (with_reducible refine hnum.mono ?_); rintro _ _ ⟨rfl, rfl⟩)
    | (go_at_call 10; (with_reducible refine hnum4.mono ?_); rintro _ _ ⟨rfl, rfl⟩))
  · go_ret
    exact ⟨by simp, H2.out.bel.trans ((B3.out.mono H2.out.bel.size).trans (B4.out.mono (Nat.le_trans H2.out.bel.size B3.out.size)))⟩
  · obtain rfl : b = false := by assumption
    obtain ⟨hl4, hbig⟩ := Hb.out rfl
    have Hbig := Lib.hid hbig
    have HB4 : Hid (Both w w4 p mn ms mc A (Dev.new size) 0 0) := by
      refine Lib.hid ⟨H2.out.below (B3.out.trans (B4.out.mono B3.out.size)), (H3.out.weaken H2.out.bel.size).below B4.out, fun k hk e => ?_, fun k e => Nat.le_trans H2.out.bel.size (H3.out.above k e)⟩
      exact Nat.lt_irrefl _ (Nat.lt_of_lt_of_le (H2.out.lay.lt k hk) (H3.out.above k e))
    clear hbig hnum hnum4 Hb
    go_loopw [51] (fun i wr => ∃ (k : Nat) (d : Dev) (L : Int), k ≤ len ∧ i = .int .i64 k ∧ Both w wr p mn ms mc A d L k ∧ -(k : Int) ≤ L ∧ L ≤ 9223372036854775807) (fun i _ => len - (intOf i).toNat)
    case atStart => exact ⟨0, _, _, by omega, rfl, HB4.out, by omega, by omega⟩
    case round =>
      obtain ⟨k, d, L, hk, rfl, hB, hL0, hL1⟩ := hrel
      clear H2 B2 H3 B3 B4 HB4 B1
      by_cases hlt : k < len
      · obtain ⟨o, ho⟩ : ∃ o, zs[k]? = some o := ⟨_, List.getElem?_eq_getElem (by rw [Hl.out]; exact hlt)⟩
        obtain ⟨x, rfl⟩ := ops_some Hz.out ho
        obtain ⟨c0, c1, c2, c3, c4⟩ := ops_at Hz.out hB.dev.bel k o ho
        obtain ⟨l, ks, hh⟩ := Hx.out k o ho
        obtain ⟨hbl, hkl⟩ := Hbig.out k o ho
        have HH := Lib.hid hh
        have HB1 : Hid (Both w (wr.alloc (.cells #[.int .i64 o.kind, .int .i64 o.at_, .int .i64 o.n, .slice o.bq o.bl o.bc, .slice o.kq o.kl o.kc] 54)) p mn ms mc A d L k) := Lib.hid (hB.below ((Below.refl _ _).alloc (Nat.le_refl _) _))
        have Hlt : Hid (∀ k, DFoot p mn ms mc k ∨ A.S k → k < wr.heap.size) := Lib.hid (fun k e => e.elim (hB.dev.lay.lt k) (hB.ref.lt k))
        have hhp := heap_alloc_new wr (.cells #[.int .i64 o.kind, .int .i64 o.at_, .int .i64 o.n, .slice o.bq o.bl o.bc, .slice o.kq o.kl o.kc] 54)
        have g0 := cell_in (o := 0) (u := .int .i64 o.kind) hhp rfl
        have g1 := cell_in (o := 1) (u := .int .i64 o.at_) hhp rfl
        have g2 := cell_in (o := 2) (u := .int .i64 o.n) hhp rfl
        have g3 := cell_in (o := 3) (u := .slice o.bq o.bl o.bc) hhp rfl
        have g4 := cell_in (o := 4) (u := .slice o.kq o.kl o.kc) hhp rfl
        clear ho hh hB hhp
        go_upto_region 10 with fail
        have HW : Hid (wr.heap.size < (wr.alloc (.cells #[.int .i64 o.kind, .int .i64 o.at_, .int .i64 o.n, .slice o.bq o.bl o.bc, .slice o.kq o.kl o.kc] 54)).heap.size) := Lib.hid (by simp)
        clear c0 c1 c2 c3 c4
        generalize wr.alloc (.cells #[.int .i64 o.kind, .int .i64 o.at_, .int .i64 o.n, .slice o.bq o.bl o.bc, .slice o.kq o.kl o.kc] 54) = W at HB1 g0 g1 g2 g3 g4 HW ⊢
        obtain ⟨d', hd'⟩ : ∃ d', (playD d L o l ks).1 = d' := ⟨_, rfl⟩
        obtain ⟨L', hL'⟩ : ∃ L', (playD d L o l ks).2 = L' := ⟨_, rfl⟩
        have Hpl : Hid (∀ w', Both w w' p mn ms mc A d L k → Calls Try.prog 25 #[.pointer (some ⟨p, 0, none⟩), .pointer (some ⟨A.b, 0, none⟩), .agg #[.int .i64 o.kind, .int .i64 o.at_, .int .i64 o.n, .slice o.bq o.bl o.bc, .slice o.kq o.kl o.kc]] w' fun e w'' => e = .returned (.bool true) ∧ Both w w'' p mn ms mc A d' L' (k + 1) ∧ Keeps (fun k => DFoot p mn ms mc k ∨ A.S k) w' w'') := Lib.hid (fun w' h => by
          have h1 := play_all h (by omega) hL1 (by omega) HH.out hbl hkl
          rw [hd', hL'] at h1
          exact h1)
        have HLb := playD_L d L o l ks k (by omega) hL0 hL1 HH.out.nmax
        rw [hL'] at HLb
        have HLb := Lib.hid HLb
        have hok := playD_ok HB1.out.dev.ok L o l ks HH.out.nmax
        rw [hd'] at hok
        obtain ⟨N, hN⟩ : ∃ N : Nat, d'.size = (N : Int) := ⟨d'.size.toNat, by have := hok.z1; omega⟩
        have HN := Lib.hid hN
        obtain ⟨M, hM⟩ : ∃ M : Nat, d'.unsynced.length = M := ⟨_, rfl⟩
        have hMl : M ≤ 4096 := by
          have h1 := hok.z2
          rw [← hM]
          unfold Dev.unsynced
          rw [List.length_map]
          exact Nat.le_trans (List.length_filter_le _ _) (by rw [List.length_range]; omega)
        have HM := Lib.hid hM
        clear hM
        have HOk := Lib.hid hok
        have hsz := playD_size d L o l ks
        rw [hd'] at hsz
        obtain ⟨q46, c46, e46, _⟩ := HB1.out.ref.now.form
        rw [← hsz, show d'.size.toNat = N from by rw [hN]; rfl] at e46
        have E46 := Lib.hid e46
        clear hd' hL' hok hN hsz e46
        have HBm : Hid (∀ (m : Nat) (wa wb : World), Keeps (fun k => m = 3 ∧ (DFoot p mn ms mc k ∨ A.S k)) wa wb → (Keeps (fun k => DFoot p mn ms mc k ∨ A.S k) W wa ∧ BoxU wr.heap.size o wa) → (Keeps (fun k => DFoot p mn ms mc k ∨ A.S k) W wb ∧ BoxU wr.heap.size o wb)) := Lib.hid (fun m wa wb hk h => ⟨h.1.trans (hk.mono (fun k _ e => e.2)), h.2.keeps hk (fun e => Nat.lt_irrefl _ (Hlt.out _ e.2))⟩)
        refine wp_region_textP [3, 7, 16, 25, 34, 36, 37, 42] (fun m k => m = 3 ∧ (DFoot p mn ms mc k ∨ A.S k)) (fun w' => Keeps (fun k => DFoot p mn ms mc k ∨ A.S k) W w' ∧ BoxU wr.heap.size o w') [⟨3, fun w' => Both w w' p mn ms mc A d L k⟩] 50 (by kernel_rfl) ?_ ?_ (by kernel_rfl) ⟨(Keeps.refl _ _).drew, BoxU.keeps ⟨g0, g1, g2, g3, g4⟩ ((Keeps.refl (fun _ => False) _).drew) (fun e => e)⟩ ?_ ?_
        · intro q hq; simp at hq; subst hq; rfl
        · intro q hq m wa wb hm hs hk
          simp at hq
          subst hq
          exact Both.still hs hk (fun k e => hm e.1)
        · intro q hq; simp at hq
          subst hq
          exact Both.still HB1.out ((Keeps.refl (fun _ => False) W).drew) (fun _ e => e)
        simp only [List.take_succ_cons, List.take_zero, List.drop_succ_cons, List.drop_zero]
        repeat (first | (refine text_pure (v := ?_) (by rfl) (fun w' => ?_) ?_; rotate_left; (focus ( go_simp; first | done | with_reducible rfl)); simp only [Act.put, List.setIfInBounds_toArray, List.set_cons_zero, List.set_cons_succ]) | (refine text_skip (by rfl) ?_; simp only [Act.put, List.setIfInBounds_toArray, List.set_cons_zero, List.set_cons_succ]))
        (refine text_read (v := ?_) (by rfl) (by kernel_rfl) (fun w' hB hm => ?_) ?_; rotate_left; (focus (obtain ⟨hc0, hc1, hc2, hc3, hc4⟩ := hB.1.2; (try clear hm); (try clear hB); go_simp; first | done | with_reducible rfl)); simp only [Act.put, List.setIfInBounds_toArray, List.set_cons_zero, List.set_cons_succ])
        refine text_callk (f := 25) (args := #[.pointer (some ⟨p, 0, none⟩), .pointer (some ⟨A.b, 0, none⟩), .agg #[.int .i64 o.kind, .int .i64 o.at_, .int .i64 o.n, .slice o.bq o.bl o.bc, .slice o.kq o.kl o.kc]]) (.bool true) (fun w' => Both w w' p mn ms mc A d' L' (k + 1)) (by rfl) (by kernel_rfl) (by kernel_rfl)
          (keepKStable fun m wa wb hm h kk => Both.still h kk (fun k e => hm e.1)) (fun w' => ?_) (fun w' hB hm => ?_) ?_
        · go_simp
        · refine (Hpl.out w' (hB.2 ⟨3, fun w' => Both w w' p mn ms mc A d L k⟩ (by show _ ∈ [_]; simp) rfl)).mono fun e w'' ⟨he, h1, h2⟩ => ?_
          have hk2 : Keeps (fun k => 3 = 3 ∧ (DFoot p mn ms mc k ∨ A.S k)) w' w'' := h2.mono (fun k _ e => ⟨rfl, e⟩)
          exact ⟨he, ⟨hk2, HBm.out 3 _ _ hk2⟩, h1⟩
        simp only [Act.put, List.setIfInBounds_toArray, List.set_cons_zero, List.set_cons_succ]
        repeat (first | (refine text_pure (v := ?_) (by rfl) (fun w' => ?_) ?_; rotate_left; (focus ( go_simp; first | done | with_reducible rfl)); simp only [Act.put, List.setIfInBounds_toArray, List.set_cons_zero, List.set_cons_succ]) | (refine text_skip (by rfl) ?_; simp only [Act.put, List.setIfInBounds_toArray, List.set_cons_zero, List.set_cons_succ]))
        refine text_callk (f := 26) (args := #[.pointer (some ⟨p, 0, none⟩)]) (.int .i64 d'.steps) (fun _ => True) (by rfl) (by kernel_rfl) (by kernel_rfl) (fun _ _ _ _ _ _ => trivial) (fun w' => ?_) (fun w' hB hm => ?_) ?_
        · go_simp
        · refine (steps_any w' p mn ms mc d' (hm.1 (by kernel_rfl)).dev.lay).mono fun e w'' ⟨he, hw⟩ => ?_
          subst hw
          exact ⟨he, ⟨Keeps.refl _ _, id⟩, trivial⟩
        simp only [Act.put, List.setIfInBounds_toArray, List.set_cons_zero, List.set_cons_succ]
        repeat (first | (refine text_pure (v := ?_) (by rfl) (fun w' => ?_) ?_; rotate_left; (focus ( go_simp; first | done | with_reducible rfl)); simp only [Act.put, List.setIfInBounds_toArray, List.set_cons_zero, List.set_cons_succ]) | (refine text_skip (by rfl) ?_; simp only [Act.put, List.setIfInBounds_toArray, List.set_cons_zero, List.set_cons_succ]))
        (refine text_read (v := ?_) (by rfl) (by kernel_rfl) (fun w' hB hm => ?_) ?_; rotate_left; (focus (have hcA := (hm.2.1 (by kernel_rfl)).ref.cells.c3; (try clear hm); (try clear hB); go_simp; first | done | with_reducible rfl)); simp only [Act.put, List.setIfInBounds_toArray, List.set_cons_zero, List.set_cons_succ])
        repeat (first | (refine text_pure (v := ?_) (by rfl) (fun w' => ?_) ?_; rotate_left; (focus ( go_simp; first | done | with_reducible rfl)); simp only [Act.put, List.setIfInBounds_toArray, List.set_cons_zero, List.set_cons_succ]) | (refine text_skip (by rfl) ?_; simp only [Act.put, List.setIfInBounds_toArray, List.set_cons_zero, List.set_cons_succ]))
        refine text_callk (f := 27) (args := #[.pointer (some ⟨p, 0, none⟩)]) (.int .i64 d'.syncs) (fun _ => True) (by rfl) (by kernel_rfl) (by kernel_rfl) (fun _ _ _ _ _ _ => trivial) (fun w' => ?_) (fun w' hB hm => ?_) ?_
        · go_simp
        · refine (syncs_any w' p mn ms mc d' (hm.2.1 (by kernel_rfl)).dev.lay).mono fun e w'' ⟨he, hw⟩ => ?_
          subst hw
          exact ⟨he, ⟨Keeps.refl _ _, id⟩, trivial⟩
        simp only [Act.put, List.setIfInBounds_toArray, List.set_cons_zero, List.set_cons_succ]
        repeat (first | (refine text_pure (v := ?_) (by rfl) (fun w' => ?_) ?_; rotate_left; (focus ( go_simp; first | done | with_reducible rfl)); simp only [Act.put, List.setIfInBounds_toArray, List.set_cons_zero, List.set_cons_succ]) | (refine text_skip (by rfl) ?_; simp only [Act.put, List.setIfInBounds_toArray, List.set_cons_zero, List.set_cons_succ]))
        (refine text_read (v := ?_) (by rfl) (by kernel_rfl) (fun w' hB hm => ?_) ?_; rotate_left; (focus (have hcA := (hm.2.2.1 (by kernel_rfl)).ref.cells.c4; (try clear hm); (try clear hB); go_simp; first | done | with_reducible rfl)); simp only [Act.put, List.setIfInBounds_toArray, List.set_cons_zero, List.set_cons_succ])
        repeat (first | (refine text_pure (v := ?_) (by rfl) (fun w' => ?_) ?_; rotate_left; (focus ( go_simp; first | done | with_reducible rfl)); simp only [Act.put, List.setIfInBounds_toArray, List.set_cons_zero, List.set_cons_succ]) | (refine text_skip (by rfl) ?_; simp only [Act.put, List.setIfInBounds_toArray, List.set_cons_zero, List.set_cons_succ]))
        refine text_callk (f := 28) (args := #[.pointer (some ⟨p, 0, none⟩)]) (.bool d'.down) (fun _ => True) (by rfl) (by kernel_rfl) (by kernel_rfl) (fun _ _ _ _ _ _ => trivial) (fun w' => ?_) (fun w' hB hm => ?_) ?_
        · go_simp
        · refine (down_any w' p mn ms mc d' (hm.2.2.1 (by kernel_rfl)).dev.lay).mono fun e w'' ⟨he, hw⟩ => ?_
          subst hw
          exact ⟨he, ⟨Keeps.refl _ _, id⟩, trivial⟩
        simp only [Act.put, List.setIfInBounds_toArray, List.set_cons_zero, List.set_cons_succ]
        repeat (first | (refine text_pure (v := ?_) (by rfl) (fun w' => ?_) ?_; rotate_left; (focus ( go_simp; first | done | with_reducible rfl)); simp only [Act.put, List.setIfInBounds_toArray, List.set_cons_zero, List.set_cons_succ]) | (refine text_skip (by rfl) ?_; simp only [Act.put, List.setIfInBounds_toArray, List.set_cons_zero, List.set_cons_succ]))
        (refine text_read (v := ?_) (by rfl) (by kernel_rfl) (fun w' hB hm => ?_) ?_; rotate_left; (focus (have hcA := (hm.2.2.2.1 (by kernel_rfl)).ref.cells.c7; (try clear hm); (try clear hB); go_simp; first | done | with_reducible rfl)); simp only [Act.put, List.setIfInBounds_toArray, List.set_cons_zero, List.set_cons_succ])
        repeat (first | (refine text_pure (v := ?_) (by rfl) (fun w' => ?_) ?_; rotate_left; (focus ( go_simp; first | done | with_reducible rfl)); simp only [Act.put, List.setIfInBounds_toArray, List.set_cons_zero, List.set_cons_succ]) | (refine text_skip (by rfl) ?_; simp only [Act.put, List.setIfInBounds_toArray, List.set_cons_zero, List.set_cons_succ]))
        refine text_call (f := 29) (args := #[.pointer (some ⟨p, 0, none⟩)]) (fun x : Option Addr × Nat => .slice x.1 M x.2) (fun x w' => SubRow w' W.heap.size (.slice x.1 M x.2) (d'.unsynced.map (Value.int .i64))) (by rfl) (by kernel_rfl) (by kernel_rfl) (by kernel_rfl) slice_inj
          (fun x => keepKStable fun m wa wb hm h kk => h.block_keeps kk (fun k' e e' => by have h1 := (h.lt k' e).1; have h2 := Hlt.out k' e'.2; have h3 := HW.out; omega)) (fun w' => ?_) (fun w' hB hm => ?_) (fun x34 => ?_)
        · go_simp
        · refine ((unsynced_any w' p mn ms mc d' (k + 1) (hm.2.2.2.1 (by kernel_rfl)).dev.lay HOk.out).mono fun e w'' ⟨v, he, ho, hb⟩ => show ∃ v, e = Ending.returned v ∧ SubRow w'' w'.heap.size v (d'.unsynced.map (Value.int .i64)) ∧ Below w'.heap.size w' w'' from ⟨v, he, SubRow.of_owns ho, hb⟩).mono fun e w'' ⟨v, he, ho, hb⟩ => ?_
          obtain ⟨q, c, rfl, _⟩ := ho.form
          rw [List.length_map, HM.out] at he ho
          exact ⟨(q, c), he, ⟨Keeps.of_below hb, HBm.out 34 _ _ (Keeps.of_below hb)⟩, ho.weaken hB.1.1.size⟩
        simp only [Act.put, List.setIfInBounds_toArray, List.set_cons_zero, List.set_cons_succ]
        repeat (first | (refine text_pure (v := ?_) (by rfl) (fun w' => ?_) ?_; rotate_left; (focus ( go_simp; first | done | with_reducible rfl)); simp only [Act.put, List.setIfInBounds_toArray, List.set_cons_zero, List.set_cons_succ]) | (refine text_skip (by rfl) ?_; simp only [Act.put, List.setIfInBounds_toArray, List.set_cons_zero, List.set_cons_succ]))
        refine text_call (f := 30) (args := #[.pointer (some ⟨A.b, 0, none⟩)]) (fun x : Option Addr × Nat => .slice x.1 M x.2) (fun x w' => SubRow w' W.heap.size (.slice x.1 M x.2) (d'.unsynced.map (Value.int .i64))) (by rfl) (by kernel_rfl) (by kernel_rfl) (by kernel_rfl) slice_inj
          (fun x => keepKStable fun m wa wb hm h kk => h.block_keeps kk (fun k' e e' => by have h1 := (h.lt k' e).1; have h2 := Hlt.out k' e'.2; have h3 := HW.out; omega)) (fun w' => ?_) (fun w' hB hm => ?_) (fun x36 => ?_)
        · go_simp
        · refine (runsynced_any (hm.2.2.2.2.1 (by kernel_rfl)).ref HOk.out.z1 HOk.out.z2).mono fun e w'' ⟨v, he, ho, hb⟩ => ?_
          obtain ⟨q, c, rfl, _⟩ := ho.form
          rw [List.length_map, HM.out] at he ho
          exact ⟨(q, c), he, ⟨Keeps.of_below hb, HBm.out 36 _ _ (Keeps.of_below hb)⟩, ho.weaken hB.1.1.size⟩
        simp only [Act.put, List.setIfInBounds_toArray, List.set_cons_zero, List.set_cons_succ]
        repeat (first | (refine text_pure (v := ?_) (by rfl) (fun w' => ?_) ?_; rotate_left; (focus ( go_simp; first | done | with_reducible rfl)); simp only [Act.put, List.setIfInBounds_toArray, List.set_cons_zero, List.set_cons_succ]) | (refine text_skip (by rfl) ?_; simp only [Act.put, List.setIfInBounds_toArray, List.set_cons_zero, List.set_cons_succ]))
        refine text_callk (f := 16) (args := #[.slice x34.1 M x34.2, .slice x36.1 M x36.2]) (.bool true) (fun _ => True) (by rfl) (by kernel_rfl) (by kernel_rfl) (fun _ _ _ _ _ _ => trivial) (fun w' => ?_) (fun w' hB hm => ?_) ?_
        · go_simp
        · refine (ints_same w' _ _ d'.unsynced (Ints.of_sub (hm.2.1 (by kernel_rfl))) (Ints.of_sub (hm.1 (by kernel_rfl))) (by rw [HM.out]; omega)).mono fun e w'' ⟨he, n, hw⟩ => ?_
          subst hw
          exact ⟨he, ⟨(Keeps.refl _ _).drewN n, HBm.out 37 _ _ ((Keeps.refl _ _).drewN n)⟩, trivial⟩
        simp only [Act.put, List.setIfInBounds_toArray, List.set_cons_zero, List.set_cons_succ]
        repeat (first | (refine text_pure (v := ?_) (by rfl) (fun w' => ?_) ?_; rotate_left; (focus ( go_simp; first | done | with_reducible rfl)); simp only [Act.put, List.setIfInBounds_toArray, List.set_cons_zero, List.set_cons_succ]) | (refine text_skip (by rfl) ?_; simp only [Act.put, List.setIfInBounds_toArray, List.set_cons_zero, List.set_cons_succ]))
        refine text_callk (f := 31) (args := #[.pointer (some ⟨p, 0, none⟩)]) (.int .i64 (N : Int)) (fun _ => True) (by rfl) (by kernel_rfl) (by kernel_rfl) (fun _ _ _ _ _ _ => trivial) (fun w' => ?_) (fun w' hB hm => ?_) ?_
        · go_simp
        · have hsz := size_any w' p mn ms mc d' (hm.2.2.2.2.2.2.1 (by kernel_rfl)).dev.lay
          rw [HN.out] at hsz
          refine hsz.mono fun e w'' ⟨he, hw⟩ => ?_
          subst hw
          exact ⟨he, ⟨Keeps.refl _ _, id⟩, trivial⟩
        simp only [Act.put, List.setIfInBounds_toArray, List.set_cons_zero, List.set_cons_succ]
        repeat (first | (refine text_pure (v := ?_) (by rfl) (fun w' => ?_) ?_; rotate_left; (focus ( go_simp; first | done | with_reducible rfl)); simp only [Act.put, List.setIfInBounds_toArray, List.set_cons_zero, List.set_cons_succ]) | (refine text_skip (by rfl) ?_; simp only [Act.put, List.setIfInBounds_toArray, List.set_cons_zero, List.set_cons_succ]))
        (refine text_read (v := ?_) (by rfl) (by kernel_rfl) (fun w' hB hm => ?_) ?_; rotate_left; (focus (have hcA := (hm.2.2.2.2.2.2.2.1 (by kernel_rfl)).ref.cells.c0; rw [E46.out] at hcA; (try clear hm); (try clear hB); go_simp; first | done | with_reducible rfl)); simp only [Act.put, List.setIfInBounds_toArray, List.set_cons_zero, List.set_cons_succ])
        repeat (first | (refine text_pure (v := ?_) (by rfl) (fun w' => ?_) ?_; rotate_left; (focus ( go_simp; first | done | with_reducible rfl)); simp only [Act.put, List.setIfInBounds_toArray, List.set_cons_zero, List.set_cons_succ]) | (refine text_skip (by rfl) ?_; simp only [Act.put, List.setIfInBounds_toArray, List.set_cons_zero, List.set_cons_succ]))
        refine text_nil fun w8 hB hF => ?_
        have hb8 : Both w w8 p mn ms mc A d' L' (k + 1) := hF.2.2.2.2.2.2.2.1
        have HB8 := Lib.hid hb8
        clear hF hB hb8 g0 g1 g2 g3 g4
        go_wp2
        refine Calm.normal ?_
        go_wp2
        go_roundw
        case rel => exact ⟨k + 1, d', L', by omega, by go_num, HB8.out, by have := HLb.out.1; omega, HLb.out.2⟩
        case measure => simp [intOf]; omega
      · obtain rfl : k = len := by omega
        clear hlt
        have hcd := hB.ref.cells.c7
        have HB := Lib.hid hB
        cases hdn : d.down
        · rw [hdn] at hcd
          have Hdn := Lib.hid hdn
          obtain ⟨N, hN⟩ : ∃ N : Nat, d.size = (N : Int) := ⟨d.size.toNat, by have := hB.dev.ok.z1; omega⟩
          have HN := Lib.hid hN
          obtain ⟨q46, c46, e46, _⟩ := hB.ref.now.form
          rw [show d.size.toNat = N from by rw [hN]; rfl] at e46
          have E46 := Lib.hid e46
          clear hB hN e46 hdn hk hL0 hL1 hl4
          go_wp2
          clear hcd
          go_loopw [11] (fun i wr => ∃ j : Nat, i = .int .i64 j ∧ j ≤ 64 ∧ Both w wr p mn ms mc A d L k) (fun i _ => 64 - (intOf i).toNat)
          case atStart => exact ⟨0, rfl, by omega, HB.out⟩
          case round =>
            clear HB
            obtain ⟨j, rfl, hj, hB⟩ := hrel
            have hcn := hB.ref.cells.c0
            rw [E46.out] at hcn
            by_cases h1 : j < N
            · by_cases h2 : j < 64
              · have hrd := read_db hB.dev (j : Int) (by omega) (by rw [HN.out]; omega) Hdn.out
                have HB := Lib.hid hB
                clear hB
                go_upto_region 19 with (go_at_call 32; (with_reducible refine hrd.mono ?_); rintro _ w2 ⟨v2, rfl, s2, b2⟩; clear hrd)
                obtain ⟨n8, h8⟩ : ∃ n8, (d.now (j : Int)).length = n8 := ⟨_, rfl⟩
                obtain ⟨q2, c2, e2, _, _⟩ := s2.form
                rw [bytesV_len, h8] at e2
                subst e2
                obtain ⟨g, o, c, q3, c3, e3, hc3, _, hb3, hn3, _⟩ := (HB.out.below b2).ref.now.at (i := j) (by rw [HN.out]; exact h1)
                rw [show d.size.toNat = N from by rw [HN.out]; rfl] at e3
                rw [h8] at hc3 hb3
                have hcn2 := (HB.out.below b2).ref.cells.c0
                rw [e3] at hcn2
                have HS2 := Lib.hid (Bytes.of_sub s2)
                have HS3 := Lib.hid hb3
                have HB2 := Lib.hid (HB.out.below b2)
                obtain ⟨st, hst⟩ : ∃ st, strB (d.now (j : Int)) = st := ⟨_, rfl⟩
                have Hst := Lib.hid hst
                clear s2 b2 hb3 hst h8 HB hcn hn3 e3
                refine wp_region_textP [] (fun _ _ => False) (fun w' => Keeps (fun _ => False) w2 w') [] 15 (by kernel_rfl) (fun q hq => by simp at hq) (fun q hq => by simp at hq) (by kernel_rfl) ((Keeps.refl _ _).drew) (fun q hq => by simp at hq) ?_
                simp only [List.take_succ_cons, List.take_zero, List.drop_succ_cons, List.drop_zero]
                repeat (first | (refine text_pure (v := ?_) (by rfl) (fun w' => ?_) ?_; rotate_left; (focus ( go_simp; first | done | with_reducible rfl)); simp only [Act.put, List.setIfInBounds_toArray, List.set_cons_zero, List.set_cons_succ]) | (refine text_skip (by rfl) ?_; simp only [Act.put, List.setIfInBounds_toArray, List.set_cons_zero, List.set_cons_succ]))
                (refine text_read (v := ?_) (by rfl) (by kernel_rfl) (fun w' hB hm => ?_) ?_; rotate_left; (focus (have hcv := conv_bytes (HS2.out.keeps hB.1 (fun _ _ e => e)); rw [Hst.out] at hcv; (try clear hm); (try clear hB); go_simp; first | done | with_reducible rfl)); simp only [Act.put, List.setIfInBounds_toArray, List.set_cons_zero, List.set_cons_succ])
                repeat (first | (refine text_pure (v := ?_) (by rfl) (fun w' => ?_) ?_; rotate_left; (focus ( go_simp; first | done | with_reducible rfl)); simp only [Act.put, List.setIfInBounds_toArray, List.set_cons_zero, List.set_cons_succ]) | (refine text_skip (by rfl) ?_; simp only [Act.put, List.setIfInBounds_toArray, List.set_cons_zero, List.set_cons_succ]))
                have hjN : (j : Int) < (N : Int) := by omega
                have hj0 : (0 : Int) ≤ (j : Int) := by omega
                (refine text_read (v := ?_) (by rfl) (by kernel_rfl) (fun w' hB hm => ?_) ?_; rotate_left; (focus (have hcA := hB.1.cell hcn2 (fun e => e); (try clear hm); (try clear hB); go_simp; first | done | with_reducible rfl)); simp only [Act.put, List.setIfInBounds_toArray, List.set_cons_zero, List.set_cons_succ])
                repeat (first | (refine text_pure (v := ?_) (by rfl) (fun w' => ?_) ?_; rotate_left; (focus ( go_simp; first | done | with_reducible rfl)); simp only [Act.put, List.setIfInBounds_toArray, List.set_cons_zero, List.set_cons_succ]) | (refine text_skip (by rfl) ?_; simp only [Act.put, List.setIfInBounds_toArray, List.set_cons_zero, List.set_cons_succ]))
                (refine text_read (v := ?_) (by rfl) (by kernel_rfl) (fun w' hB hm => ?_) ?_; rotate_left; (focus (have hcA := hB.1.cell hc3 (fun e => e); (try clear hm); (try clear hB); go_simp; first | done | with_reducible rfl)); simp only [Act.put, List.setIfInBounds_toArray, List.set_cons_zero, List.set_cons_succ])
                repeat (first | (refine text_pure (v := ?_) (by rfl) (fun w' => ?_) ?_; rotate_left; (focus ( go_simp; first | done | with_reducible rfl)); simp only [Act.put, List.setIfInBounds_toArray, List.set_cons_zero, List.set_cons_succ]) | (refine text_skip (by rfl) ?_; simp only [Act.put, List.setIfInBounds_toArray, List.set_cons_zero, List.set_cons_succ]))
                (refine text_read (v := ?_) (by rfl) (by kernel_rfl) (fun w' hB hm => ?_) ?_; rotate_left; (focus (have hcv := conv_bytes (HS3.out.keeps hB.1 (fun _ _ e => e)); rw [Hst.out] at hcv; (try clear hm); (try clear hB); go_simp; first | done | with_reducible rfl)); simp only [Act.put, List.setIfInBounds_toArray, List.set_cons_zero, List.set_cons_succ])
                repeat (first | (refine text_pure (v := ?_) (by rfl) (fun w' => ?_) ?_; rotate_left; (focus ( go_simp; first | done | with_reducible rfl)); simp only [Act.put, List.setIfInBounds_toArray, List.set_cons_zero, List.set_cons_succ]) | (refine text_skip (by rfl) ?_; simp only [Act.put, List.setIfInBounds_toArray, List.set_cons_zero, List.set_cons_succ]))
                refine text_nil fun w8 hB hF => ?_
                have HB8 := Lib.hid (HB2.out.still hB (fun _ e => e))
                clear hF hB hcn2 hc3 hjN hj0
                go_wp2
                refine Calm.normal ?_
                go_wp2
                go_roundw
                case rel => exact ⟨j + 1, by go_num, by omega, HB8.out⟩
                case measure => simp [intOf]; omega
              · go_wp2
                go_ret
                exact ⟨by simp, hB.dev.bel⟩
            · go_wp2
              go_ret
              exact ⟨by simp, hB.dev.bel⟩
        · rw [hdn] at hcd
          clear hB hdn hk hL0 hL1 hl4
          go_wp2
          go_ret
          exact ⟨by simp, HB.out.dev.bel⟩
set_option maxRecDepth 100000 in
set_option maxHeartbeats 1000000 in
theorem plays_bad (size : Int) (v : Value) (w : World) (hs : size < 1 ∨ 4096 < size) :
    Calls Try.prog 4 #[.int .i64 size, v] w fun e w' => e = .returned (.bool true) ∧ Below w.heap.size w w' := by
  have hal := alive_any w
  go_enter Try.func4, Try.ntmps4
  go_wp2_with (first
    | (go_at_call 21; (with_reducible refine hal.mono ?_); rintro _ w1 ⟨rfl, b1⟩; clear hal; have B1 := Lib.hid b1; have hnw := new_bad size w1 hs; have hrn := rnew_none w1 size hs; have hnum := num_any 1 w1 (by omega); clear b1)
    | (go_at_call 22; (with_reducible refine hnw.mono ?_); rintro _ _ ⟨rfl, rfl⟩; clear hnw)
    | (go_at_call 23; (with_reducible refine hrn.mono ?_); rintro _ _ ⟨rfl, rfl⟩; clear hrn)
    | (go_at_call 10; (with_reducible refine hnum.mono ?_); rintro _ _ ⟨rfl, rfl⟩))
  go_ret
  exact ⟨by simp, B1.out⟩
end Go.Proofs.Ytnficiohnhodiaa.Pre
namespace Go.Proofs.Ytnficiohnhodiaa
open Go.ChangeShapes Go.WideShapes Go.ChangeAt Go.RowKit
/-- an argument of the statement, as a row's reading has it -/
def OpsArg (w : World) (v : Value) : Prop := ∃ a len cap zs, v = .slice a len cap ∧ IsOps w a len cap zs ∧ ∀ (i : Nat) (o : OpD), zs[i]? = some o → ∃ l ks, o.Holds w l ks
set_option maxRecDepth 100000 in
theorem OpsArg_of {H : Type} {enc : TypeId × Value → H} {w : World} {base : Nat} {spare : Nat → Bool} {held : Bool} {r : Reach} {b0 : Nat} {v : Value} {d : DataW H} {p : List MemPlace} (hv : Value.okWide Try.prog w r b0 44 v) (h : DataW.Trod enc Try.prog w base spare held 44 v d p) : OpsArg w v := by
  obtain ⟨a, len, cap, rfl⟩ := okWide_slice Try.underlying44 hv
  obtain ⟨fuel, hf⟩ := h
  obtain ⟨zs, h1, h2⟩ := opsX_of_trod (by simpa [Value.cells] using hf)
  exact ⟨a, len, cap, zs, rfl, h1, h2⟩
set_option maxRecDepth 100000 in
theorem diskPlays_walk (size : Int) (v : Value) (w : World) (_ : (Lit.int .i64 size).wf = true) (h : OpsArg w v) : Calls Try.prog 4 #[.int .i64 size, v] w fun e w' => e = .returned (.bool true) ∧ Below w.heap.size w w' := by
  obtain ⟨a, len, cap, zs, rfl, h1, h2⟩ := h
  by_cases hs : size < 1 ∨ 4096 < size
  · exact Pre.plays_bad size _ w hs
  · exact Pre.plays_ok size a len cap zs w h1 h2 (by omega) (by omega)
end Go.Proofs.Ytnficiohnhodiaa
