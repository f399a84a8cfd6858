import Derived.Test.YtnficiohnhodiaaRefL
import Derived.Test.YtnficiohnhodiaaGrowP
/-
  play: a Write of a full sector.
-/
namespace Go.Proofs.Ytnficiohnhodiaa.Pre
open Go.RowKit
def PS (p mn ms mc : Nat) (A : RAd) (i j : Nat) (m k : Nat) : Prop := (m = i ∧ DFoot p mn ms mc k) ∨ (m = j ∧ A.S k)
theorem opsFull (g : Nat) (n : Int) {w' : World} {B : Nat} {m : Nat} (h : SubRow w' B (.slice (some ⟨g, 0, none⟩) m m) (bytesV (fullB n))) : m = 512 := by
  obtain ⟨_, _, e2, _⟩ := h.form
  rw [bytesV_len, fullB_len] at e2
  injection e2 with _ e2 _
theorem DB.oth {S : Nat → Prop} {w0 w w' : World} {p mn ms mc n : Nat} {d : Dev} (h : DB w0 w p mn ms mc d n) (hk : Keeps S w w') (h1 : ∀ k, DFoot p mn ms mc k → ¬ S k) (h2 : ∀ k, S k → w0.heap.size ≤ k) : DB w0 w' p mn ms mc d n :=
  ⟨h.lay.keeps hk h1, h.ok, h.low, h.bel.trans (hk.below h.bel.size (fun k hk' hf' => by have := h2 k hf'; omega))⟩
theorem parts_one {w : World} {B b : Nat} {x : Value} {l : List UInt8} (h : SubRow w B (.slice (some ⟨b, 0, none⟩) 1 1) [x]) (hx : Bytes w x l) : Parts w (.slice (some ⟨b, 0, none⟩) 1 1) [l] := by
  obtain ⟨h1, _⟩ := h.cellAt (j := 0) (u := x) rfl
  refine ⟨_, 1, rfl, Nat.le_refl _, by unfold maxLen; omega, fun k l' hl => ?_⟩
  match k, hl with
  | 0, hl => cases hl; exact ⟨_, x, rfl, by simpa [Addr.add] using h1, hx⟩
  | k + 1, hl => simp at hl
theorem write_code (d : Dev) (k : Int) (l : List UInt8) : 0 ≤ (d.write k l).1 := by
  unfold Dev.write
  split
  · show (0 : Int) ≤ 1; omega
  · split
    · show (0 : Int) ≤ 2; omega
    · split
      · show (0 : Int) ≤ 0; omega
      · rcases step_code d with h | h <;> rw [h] <;> omega
section
variable {w0 w : World} {A : RAd} {d : Dev} {L : Int} {p mn ms mc n : Nat}
set_option maxRecDepth 100000 in
set_option maxHeartbeats 2000000 in
theorem play_full (hD : DB w0 w p mn ms mc d n) (hn : n ≤ 1000000) (hR : RefAt w w0.heap.size A d L) (hL : L ≤ 9223372036854775807) (hL0 : -100000000 ≤ L) (hds : ∀ k, DFoot p mn ms mc k → ¬ A.S k) (hA0 : ∀ k, A.S k → w0.heap.size ≤ k) (at_ x : Int) (bs ks : Value) :
    Calls Try.prog 25 #[.pointer (some ⟨p, 0, none⟩), .pointer (some ⟨A.b, 0, none⟩), .agg #[.int .i64 1, .int .i64 at_, .int .i64 x, bs, ks]] w fun e w' => e = .returned (.bool true) ∧ DB w0 w' p mn ms mc (d.write at_ (fullB x)).2 (n + 1) ∧ RefAt w' w0.heap.size A (d.write at_ (fullB x)).2 (writeL d at_ (fullB x) L) ∧ Keeps (fun k => DFoot p mn ms mc k ∨ A.S k) w w' := by
  have HD := Lib.hid hD
  have HR := Lib.hid hR
  have Hds := Lib.hid hds
  have HA0 := Lib.hid hA0
  clear hD hR hds hA0
  go_enter Try.func25, Try.ntmps25
  go_upto_region 9 with fail
  obtain ⟨vl, hvl⟩ : ∃ v : List Value, v = [.int .i64 1, .int .i64 at_, .int .i64 x, bs, ks] := ⟨_, rfl⟩
  have hal : Below w.heap.size w (w.alloc (.cells #[.int .i64 1, .int .i64 at_, .int .i64 x, bs, ks] 54)) := (Below.refl _ _).alloc (Nat.le_refl _) _
  have hh := heap_alloc_new w (.cells #[.int .i64 1, .int .i64 at_, .int .i64 x, bs, ks] 54)
  have c1 := cell_in (o := 1) (u := .int .i64 at_) hh rfl
  have c2 := cell_in (o := 2) (u := .int .i64 x) hh rfl
  have HD1 := Lib.hid (HD.out.below hal)
  have HX1 := Lib.hid (RefX.of (HR.out.below hal) HD1.out.lay HD.out.ok.lens)
  have Hlt : Hid (∀ k, DFoot p mn ms mc k ∨ A.S k → k < w.heap.size) := Lib.hid (fun k e => e.elim (HD.out.lay.lt k) (HR.out.lt k))
  have Hsz : Hid (w.heap.size ≤ (w.alloc (.cells #[.int .i64 1, .int .i64 at_, .int .i64 x, bs, ks] 54)).heap.size) := Lib.hid hal.size
  have Hal := Lib.hid hal
  clear hvl hh hal HD HR vl
  generalize w.alloc (.cells #[.int .i64 1, .int .i64 at_, .int .i64 x, bs, ks] 54) = w1 at c1 c2 HD1 HX1 Hsz Hal ⊢
  have HBk : Hid (∀ wa wb : World, Below wa.heap.size wa wb → (Keeps (fun k => DFoot p mn ms mc k ∨ A.S k) w1 wa ∧ wa.cell? ⟨w.heap.size, 1, none⟩ = some (.int .i64 at_) ∧ wa.cell? ⟨w.heap.size, 2, none⟩ = some (.int .i64 x)) → (Keeps (fun k => DFoot p mn ms mc k ∨ A.S k) w1 wb ∧ wb.cell? ⟨w.heap.size, 1, none⟩ = some (.int .i64 at_) ∧ wb.cell? ⟨w.heap.size, 2, none⟩ = some (.int .i64 x))) := Lib.hid (fun wa wb hb h => ⟨h.1.trans (Keeps.of_below hb), (Keeps.of_below (S := fun _ => False) hb).cell h.2.1 (fun e => e), (Keeps.of_below (S := fun _ => False) hb).cell h.2.2 (fun e => e)⟩)
  have HBm : Hid (∀ (m : Nat) (wa wb : World), Keeps (PS p mn ms mc A 7 15 m) wa wb → (Keeps (fun k => DFoot p mn ms mc k ∨ A.S k) w1 wa ∧ wa.cell? ⟨w.heap.size, 1, none⟩ = some (.int .i64 at_) ∧ wa.cell? ⟨w.heap.size, 2, none⟩ = some (.int .i64 x)) → (Keeps (fun k => DFoot p mn ms mc k ∨ A.S k) w1 wb ∧ wb.cell? ⟨w.heap.size, 1, none⟩ = some (.int .i64 at_) ∧ wb.cell? ⟨w.heap.size, 2, none⟩ = some (.int .i64 x))) := Lib.hid (fun m wa wb hk h => ⟨h.1.trans (hk.mono (fun k _ e => by rcases e with e | e; exact .inl e.2; exact .inr e.2)), hk.cell h.2.1 (fun e => by rcases e with e | e; exact Nat.lt_irrefl _ (Hlt.out _ (.inl e.2)); exact Nat.lt_irrefl _ (Hlt.out _ (.inr e.2))), hk.cell h.2.2 (fun e => by rcases e with e | e; exact Nat.lt_irrefl _ (Hlt.out _ (.inl e.2)); exact Nat.lt_irrefl _ (Hlt.out _ (.inr e.2)))⟩)
  have hc : 0 ≤ (d.write at_ (fullB x)).1 := write_code _ _ _
  have HPS : Hid (∀ m k, PS p mn ms mc A 7 15 m k → DFoot p mn ms mc k ∨ A.S k) := Lib.hid (fun m k h => h.elim (fun h => .inl h.2) (fun h => .inr h.2))
  have Hb0 : Hid (∀ m, ¬ PS p mn ms mc A 7 15 m w.heap.size) := Lib.hid (fun m h => Nat.lt_irrefl _ (Hlt.out _ (HPS.out m _ h)))
  refine wp_region_textP [5, 7, 8, 14, 15] (PS p mn ms mc A 7 15) (fun w' => Keeps (fun k => DFoot p mn ms mc k ∨ A.S k) w1 w' ∧ w'.cell? ⟨w.heap.size, 1, none⟩ = some (.int .i64 at_) ∧ w'.cell? ⟨w.heap.size, 2, none⟩ = some (.int .i64 x)) [⟨7, fun w' => DB w0 w' p mn ms mc d n⟩, ⟨15, fun w' => RefX w' w0.heap.size A (DFoot p mn ms mc) d L⟩] 17 (by kernel_rfl) ?_ ?_ (by kernel_rfl) ⟨(Keeps.refl _ _).drew, c1, c2⟩ ?_ ?_
  · intro q hq; simp at hq; rcases hq with rfl | rfl <;> rfl
  · intro q hq m wa wb hm hs hk
    simp at hq
    rcases hq with rfl | rfl
    · exact DB.oth hs hk (fun k hk' h => h.elim (fun h => hm h.1) (fun h => Hds.out k hk' h.2)) (fun k h => h.elim (fun h => absurd h.1 hm) (fun h => HA0.out k h.2))
    · exact RefX.keeps hs hk (fun k h => h.elim (fun h => h.2) (fun h => absurd h.1 hm)) Hds.out
  · intro q hq; simp at hq
    rcases hq with rfl | rfl
    · exact HD1.out.below (Below.refl _ _).drew
    · exact RefX.keeps HX1.out ((Keeps.refl (fun _ => False) w1).drew) (fun _ e => e.elim) Hds.out
  simp only [List.take_succ_cons, List.take_zero, List.drop_succ_cons, List.drop_zero]
  repeat (first | (refine text_pure (v := ?_) (by rfl) (fun w' => ?_) ?_; rotate_left; (focus ( go_simp; first | done | with_reducible rfl)); simp only [Act.put, List.setIfInBounds_toArray, List.set_cons_zero, List.set_cons_succ]) | (refine text_skip (by rfl) ?_; simp only [Act.put, List.setIfInBounds_toArray, List.set_cons_zero, List.set_cons_succ]))
  (refine text_read (v := ?_) (by rfl) (by kernel_rfl) (fun w' hB hm => ?_) ?_; rotate_left; (focus (have hcA := hB.1.2.1; (try clear hm); (try clear hB); go_simp; first | done | with_reducible rfl)); simp only [Act.put, List.setIfInBounds_toArray, List.set_cons_zero, List.set_cons_succ])
  repeat (first | (refine text_pure (v := ?_) (by rfl) (fun w' => ?_) ?_; rotate_left; (focus ( go_simp; first | done | with_reducible rfl)); simp only [Act.put, List.setIfInBounds_toArray, List.set_cons_zero, List.set_cons_succ]) | (refine text_skip (by rfl) ?_; simp only [Act.put, List.setIfInBounds_toArray, List.set_cons_zero, List.set_cons_succ]))
  (refine text_read (v := ?_) (by rfl) (by kernel_rfl) (fun w' hB hm => ?_) ?_; rotate_left; (focus (have hcA := hB.1.2.2; (try clear hm); (try clear hB); go_simp; first | done | with_reducible rfl)); simp only [Act.put, List.setIfInBounds_toArray, List.set_cons_zero, List.set_cons_succ])
  refine text_call (f := 46) (args := #[.int .i64 x]) (fun g : Nat => .slice (some ⟨g, 0, none⟩) 512 512) (fun g w' => SubRow w' w1.heap.size (.slice (some ⟨g, 0, none⟩) 512 512) (bytesV (fullB x))) (by rfl) (by kernel_rfl) (by kernel_rfl) (by kernel_rfl)
    (fun x y h => by injection h with h; injection h with h; injection h) (fun g => keepKStable fun m wa wb hm h k => h.block_keeps k (fun k' e e' => by have h3 := (h.lt k' e).1; have h4 := Hlt.out k' (HPS.out m k' e'); have h5 := Hsz.out; omega)) (fun w' => ?_) (fun w' hB hm => ?_) (fun g5 => ?_)
  · go_simp
  · refine (full_any x w').mono fun e w'' ⟨g, m, he, s, hb⟩ => ?_
    obtain rfl := opsFull g x s
    exact ⟨g, he, ⟨Keeps.of_below hb, HBk.out _ _ hb⟩, s.weaken hB.1.1.size⟩
  simp only [Act.put, List.setIfInBounds_toArray, List.set_cons_zero, List.set_cons_succ]
  refine text_new (fun b : Nat => .slice (some ⟨b, 0, none⟩) 1 1) (fun b w' => SubRow w' w1.heap.size (.slice (some ⟨b, 0, none⟩) 1 1) [.slice (some ⟨g5, 0, none⟩) 512 512]) (by rfl) (by kernel_rfl) (by kernel_rfl)
    (fun x y h => by injection h with h; injection h with h; injection h) (fun b => keepKStable fun m wa wb hm h k => h.block_keeps k (fun k' e e' => by have h3 := (h.lt k' e).1; have h4 := Hlt.out k' (HPS.out m k' e'); have h5 := Hsz.out; omega)) (fun w' hB hm K hK => ?_) (fun b6 => ?_)
  · unfold gives
    go_simp
    exact hK _ _ ⟨(Keeps.refl _ _).alloc _, HBk.out _ _ ((Below.refl _ _).alloc (Nat.le_refl _) _)⟩ (sub_one hB.1.1.size)
  simp only [Act.put, List.setIfInBounds_toArray, List.set_cons_zero, List.set_cons_succ]
  refine text_callk (f := 45) (args := #[.pointer (some ⟨p, 0, none⟩), .int .i64 at_, .slice (some ⟨b6, 0, none⟩) 1 1]) (errV (d.write at_ (fullB x)).1) (fun w' => DB w0 w' p mn ms mc (d.write at_ (fullB x)).2 (n + 1)) (by rfl) (by kernel_rfl) (by kernel_rfl)
    (keepKStable fun m wa wb hm h k => DB.oth h k (fun k' hk' e => e.elim (fun e => hm e.1) (fun e => Hds.out k' hk' e.2)) (fun k' e => e.elim (fun e => absurd e.1 hm) (fun e => HA0.out k' e.2))) (fun w' => ?_) (fun w' hB hm => ?_) ?_
  · go_simp
  · have hf6 := hm.1 (by kernel_rfl)
    have hf5 := hm.2.1 (by kernel_rfl)
    have hdb := hB.2 ⟨7, fun w' => DB w0 w' p mn ms mc d n⟩ (by show _ ∈ [_, _]; simp) rfl
    refine (write_db hdb (by omega) at_ _ [fullB x] (fullB x) (by simp) (parts_one hf6 (Bytes.of_sub hf5)) (by simp) (by rw [fullB_len]; omega)).mono fun e w'' ⟨he, h1, h2⟩ => ?_
    have hk : Keeps (PS p mn ms mc A 7 15 7) w' w'' := h2.mono (fun k _ e => .inl ⟨rfl, e⟩)
    exact ⟨he, ⟨hk, HBm.out 7 _ _ hk⟩, h1⟩
  simp only [Act.put, List.setIfInBounds_toArray, List.set_cons_zero, List.set_cons_succ]
  refine text_callk (f := 10) (args := #[errV (d.write at_ (fullB x)).1]) (.int .i64 (d.write at_ (fullB x)).1) (fun _ => True) (by rfl) (by kernel_rfl) (by kernel_rfl) (fun _ _ _ _ _ _ => trivial) (fun w' => ?_) (fun w' hB hm => ?_) ?_
  · go_simp
  · refine (num_any _ w' hc).mono fun e w'' ⟨he, hw⟩ => ?_
    subst hw
    exact ⟨he, ⟨Keeps.refl _ _, id⟩, trivial⟩
  simp only [Act.put, List.setIfInBounds_toArray, List.set_cons_zero, List.set_cons_succ]
  repeat (first | (refine text_pure (v := ?_) (by rfl) (fun w' => ?_) ?_; rotate_left; (focus ( go_simp; first | done | with_reducible rfl)); simp only [Act.put, List.setIfInBounds_toArray, List.set_cons_zero, List.set_cons_succ]) | (refine text_skip (by rfl) ?_; simp only [Act.put, List.setIfInBounds_toArray, List.set_cons_zero, List.set_cons_succ]))
  (refine text_read (v := ?_) (by rfl) (by kernel_rfl) (fun w' hB hm => ?_) ?_; rotate_left; (focus (have hcA := hB.1.2.1; (try clear hm); (try clear hB); go_simp; first | done | with_reducible rfl)); simp only [Act.put, List.setIfInBounds_toArray, List.set_cons_zero, List.set_cons_succ])
  repeat (first | (refine text_pure (v := ?_) (by rfl) (fun w' => ?_) ?_; rotate_left; (focus ( go_simp; first | done | with_reducible rfl)); simp only [Act.put, List.setIfInBounds_toArray, List.set_cons_zero, List.set_cons_succ]) | (refine text_skip (by rfl) ?_; simp only [Act.put, List.setIfInBounds_toArray, List.set_cons_zero, List.set_cons_succ]))
  (refine text_read (v := ?_) (by rfl) (by kernel_rfl) (fun w' hB hm => ?_) ?_; rotate_left; (focus (have hcA := hB.1.2.2; (try clear hm); (try clear hB); go_simp; first | done | with_reducible rfl)); simp only [Act.put, List.setIfInBounds_toArray, List.set_cons_zero, List.set_cons_succ])
  repeat (first | (refine text_pure (v := ?_) (by rfl) (fun w' => ?_) ?_; rotate_left; (focus ( go_simp; first | done | with_reducible rfl)); simp only [Act.put, List.setIfInBounds_toArray, List.set_cons_zero, List.set_cons_succ]) | (refine text_skip (by rfl) ?_; simp only [Act.put, List.setIfInBounds_toArray, List.set_cons_zero, List.set_cons_succ]))
  refine text_call (f := 46) (args := #[.int .i64 x]) (fun g : Nat => .slice (some ⟨g, 0, none⟩) 512 512) (fun g w' => SubRow w' w1.heap.size (.slice (some ⟨g, 0, none⟩) 512 512) (bytesV (fullB x))) (by rfl) (by kernel_rfl) (by kernel_rfl) (by kernel_rfl)
    (fun x y h => by injection h with h; injection h with h; injection h) (fun g => keepKStable fun m wa wb hm h k => h.block_keeps k (fun k' e e' => by have h3 := (h.lt k' e).1; have h4 := Hlt.out k' (HPS.out m k' e'); have h5 := Hsz.out; omega)) (fun w' => ?_) (fun w' hB hm => ?_) (fun g14 => ?_)
  · go_simp
  · refine (full_any x w').mono fun e w'' ⟨g, m, he, s, hb⟩ => ?_
    obtain rfl := opsFull g x s
    exact ⟨g, he, ⟨Keeps.of_below hb, HBk.out _ _ hb⟩, s.weaken hB.1.1.size⟩
  simp only [Act.put, List.setIfInBounds_toArray, List.set_cons_zero, List.set_cons_succ]
  refine text_callk (f := 51) (args := #[.pointer (some ⟨A.b, 0, none⟩), .int .i64 at_, .slice (some ⟨g14, 0, none⟩) 512 512]) (.int .i64 (d.write at_ (fullB x)).1) (fun w' => RefX w' w0.heap.size A (DFoot p mn ms mc) (d.write at_ (fullB x)).2 (writeL d at_ (fullB x) L)) (by rfl) (by kernel_rfl) (by kernel_rfl)
    (keepKStable fun m wa wb hm h k => RefX.keeps h k (fun k' e => e.elim (fun e => e.2) (fun e => absurd e.1 hm)) Hds.out) (fun w' => ?_) (fun w' hB hm => ?_) ?_
  · go_simp
  · have hf14 := hm.1 (by kernel_rfl)
    have hf7 := hm.2.2.1 (by kernel_rfl)
    have hrx := hB.2 ⟨15, fun w' => RefX w' w0.heap.size A (DFoot p mn ms mc) d L⟩ (by show _ ∈ [_, _]; simp) rfl
    refine (rwrite_any hrx.ref (n := n) ?_ hn hL hL0 at_ (Bytes.of_sub hf14) (fun k e e' => ?_) (by rw [fullB_len]; omega)).mono fun e w'' ⟨he, h1, h2⟩ => ?_
    · exact HD1.out.ok
    · have h3 := (SubRow.lt hf14 k e).1
      have h4 := Hlt.out k (.inr e')
      have h5 := Hsz.out
      omega
    have hk : Keeps (PS p mn ms mc A 7 15 15) w' w'' := h2.mono (fun k _ e => .inr ⟨rfl, e⟩)
    have hd2 := DB.oth hf7 h2 Hds.out HA0.out
    exact ⟨he, ⟨hk, HBm.out 15 _ _ hk⟩, RefX.of h1 hd2.lay hd2.ok.lens⟩
  simp only [Act.put, List.setIfInBounds_toArray, List.set_cons_zero, List.set_cons_succ]
  repeat (first | (refine text_pure (v := ?_) (by rfl) (fun w' => ?_) ?_; rotate_left; (focus ( go_simp; first | done | with_reducible rfl)); simp only [Act.put, List.setIfInBounds_toArray, List.set_cons_zero, List.set_cons_succ]) | (refine text_skip (by rfl) ?_; simp only [Act.put, List.setIfInBounds_toArray, List.set_cons_zero, List.set_cons_succ]))
  refine text_nil fun w8 hB hF => ?_
  have hx8 : RefX w8 w0.heap.size A (DFoot p mn ms mc) (d.write at_ (fullB x)).2 (writeL d at_ (fullB x) L) := hF.1
  have hd8 : DB w0 w8 p mn ms mc (d.write at_ (fullB x)).2 (n + 1) := hF.2.2.2.1
  have HX8 := Lib.hid hx8.ref
  have HD8 := Lib.hid hd8
  have HK8 : Hid (Keeps (fun k => DFoot p mn ms mc k ∨ A.S k) w w8) := Lib.hid ((Keeps.of_below Hal.out).trans hB.1)
  clear hF hB hx8 hd8 HBk HBm HX1 HD1
  go_wp2
  refine Calm.normal ?_
  go_wp2
  go_ret
  exact ⟨by simp, HD8.out, HX8.out, HK8.out⟩
end
end Go.Proofs.Ytnficiohnhodiaa.Pre
