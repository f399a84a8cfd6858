import Derived.Test.YtnficiohnhodiaaRefN
/-
  play: Crash.
-/
namespace Go.Proofs.Ytnficiohnhodiaa
open Go.RowKit
theorem Ints.lt {w : World} {v : Value} {l : List Int} (h : Ints w v l) (h0 : l ≠ []) (k : Nat) (e : v.ownBlock = some k) : k < w.heap.size := by
  obtain ⟨q, cap, rfl, h1, h2, h3⟩ := h
  cases l with
  | nil => exact absurd rfl h0
  | cons x l =>
    obtain ⟨b, off, rfl, hc⟩ := h3 0 x rfl
    have e2 : b = k := by cases e; rfl
    subst e2
    exact World.block_lt_of_cell? w _ hc
theorem Ints.src {w : World} {v : Value} {l : List Int} (h : Ints w v l) : Src Try.prog 1 41 v (l.map (Value.int .i64)).length (l.map (Value.int .i64)) w := by
  obtain ⟨q, cap, rfl, h1, h2, h3⟩ := h
  rw [List.length_map]
  cases q with
  | none =>
    have : l = [] := by
      cases l with
      | nil => rfl
      | cons b l => obtain ⟨_, _, e, _⟩ := h3 0 b rfl; cases e
    subst this
    exact Src.ofNil (P := Try.prog) w Try.underlying41 cap
  | some a =>
    refine Src.ofSlice w Try.underlying41 a l.length cap _ (by simp) (fun j u hu => ?_) (fun u hu => by obtain ⟨x, _, rfl⟩ := List.mem_map.1 hu; rfl)
    rw [List.getElem?_map] at hu
    obtain ⟨x, hx, rfl⟩ := Option.map_eq_some_iff.1 hu
    obtain ⟨b, off, e, hc⟩ := h3 j x hx
    cases e
    unfold Addr.add; split
    · rename_i h0; subst h0; simpa using hc
    · exact hc
set_option maxRecDepth 100000 in
set_option maxHeartbeats 1000000 in
theorem ints_same (w : World) (va vb : Value) (l : List Int) (ha : Ints w va l) (hb : Ints w vb l) (hl : l.length ≤ 1000000000) : Calls Try.prog 16 #[va, vb] w fun e w' => e = .returned (.bool true) ∧ ∃ n, w' = w.drewN n := by
  obtain ⟨q, cap, rfl, h1, h2, h3⟩ := ha
  obtain ⟨q2, cap2, rfl, k1, k2, k3⟩ := hb
  have H3 := Lib.hid h3
  have K3 := Lib.hid k3
  clear h3 k3
  go_enter Try.func16, Try.ntmps16
  go_wp2
  go_loopw [13] (fun i wr => ∃ k n : Nat, k ≤ l.length ∧ i = .int .i64 k ∧ wr = w.drewN n) (fun i _ => l.length - (intOf i).toNat)
  case atStart => exact ⟨0, 0, by omega, rfl, rfl⟩
  case round =>
    obtain ⟨k, n, hk, rfl, rfl⟩ := hrel
    by_cases hlt : k < l.length
    · obtain ⟨x, hx⟩ : ∃ x, l[k]? = some x := ⟨_, List.getElem?_eq_getElem hlt⟩
      obtain ⟨b, off, rfl, hc⟩ := H3.out k x hx
      obtain ⟨b2, off2, rfl, hc2⟩ := K3.out k x hx
      clear hx
      have hki : (k : Int) < (l.length : Int) := by omega
      go_wp2_with fail
      go_quiet (fail)
      go_wp2
      go_roundw
      case rel => exact ⟨k + 1, _, by omega, by go_num, rfl⟩
      case measure => simp [intOf]; omega
    · obtain rfl : k = l.length := by omega
      go_wp2
      go_ret
      exact ⟨rfl, n, rfl⟩
section
variable {w0 w w' : World} {A : RAd} {d d' : Dev} {L L' : Int} {p mn ms mc n m : Nat}
set_option maxRecDepth 100000 in
set_option maxHeartbeats 2000000 in
theorem play_crash (h : Both w0 w p mn ms mc A d L n) (kind at_ x : Int) (hkd : kind < 0 ∨ 4 < kind) (bs : Value) {q : Option Addr} {nk ck : Nat} {ks : List Int} (hnk : ks.length = nk) (hks : Ints w0 (.slice q nk ck) ks) (hnl : nk ≤ 1000000000) :
    Calls Try.prog 25 #[.pointer (some ⟨p, 0, none⟩), .pointer (some ⟨A.b, 0, none⟩), .agg #[.int .i64 kind, .int .i64 at_, .int .i64 x, bs, .slice q nk ck]] w fun e w' => e = .returned (.bool true) ∧ Both w0 w' p mn ms mc A (d.crash ks) L n ∧ Keeps (fun k => DFoot p mn ms mc k ∨ A.S k) w w' := by
  obtain ⟨i0, hi, hz0, hz1, hz2⟩ := info_parts infoInt
  have hal : Below w.heap.size w (w.alloc (.cells #[.int .i64 kind, .int .i64 at_, .int .i64 x, bs, .slice q nk ck] 54)) := (Below.refl _ _).alloc (Nat.le_refl _) _
  have hh := heap_alloc_new w (.cells #[.int .i64 kind, .int .i64 at_, .int .i64 x, bs, .slice q nk ck] 54)
  have hcell : (w.alloc (.cells #[.int .i64 kind, .int .i64 at_, .int .i64 x, bs, .slice q nk ck] 54)).cell? ⟨w.heap.size, 4, none⟩ = some (.slice q nk ck) := cell_in hh rfl
  have H1 := Lib.hid (h.below hal)
  have Hal := Lib.hid hal
  have HI0 := Lib.hid hks
  have Hlt : Hid (∀ k, DFoot p mn ms mc k ∨ A.S k → k < w.heap.size) := Lib.hid (fun k e => e.elim (h.dev.lay.lt k) (h.ref.lt k))
  have Hw0 : Hid (w0.heap.size ≤ w.heap.size) := Lib.hid h.dev.bel.size
  have Hnk := Lib.hid hnk
  have e0 : decide (kind = 0) = false := by simp; omega
  have e1 : decide (kind = 1) = false := by simp; omega
  have e2 : decide (kind = 2) = false := by simp; omega
  have e3 : decide (kind = 3) = false := by simp; omega
  have e4 : decide (kind = 4) = false := by simp; omega
  have f0 : (kind == 0) = false := by simp; omega
  have f1 : (kind == 1) = false := by simp; omega
  have f2 : (kind == 2) = false := by simp; omega
  have f3 : (kind == 3) = false := by simp; omega
  have f4 : (kind == 4) = false := by simp; omega
  clear h hal hh hks hnk
  go_enter Try.func25, Try.ntmps25
  go_upto_region 24 with fail
  generalize w.alloc (.cells #[.int .i64 kind, .int .i64 at_, .int .i64 x, bs, .slice q nk ck] 54) = w1 at hcell H1 Hal ⊢
  have Hcell : Hid (∀ w' : World, Keeps (fun k => DFoot p mn ms mc k ∨ A.S k) w1 w' → w'.cell? ⟨w.heap.size, 4, none⟩ = some (.slice q nk ck)) := Lib.hid (fun w' hk => hk.cell hcell (fun e => Nat.lt_irrefl _ (Hlt.out _ e)))
  have hr0 : SubRow (w1.alloc (.cells #[] 3)) w1.heap.size (.slice (some ⟨w1.heap.size, 0, none⟩) 0 0) [] := .inr ⟨w1.heap.size, 0, 0, rfl, Nat.le_refl _, by simp, by simp, by simp, fun j hj => by omega, fun j u hu => by simp at hu⟩
  have hB : Below w1.heap.size w1 (w1.alloc (.cells #[] 3)) := (Below.refl _ w1).alloc (Nat.le_refl _) _
  have hI1 := HI0.out.below (H1.out.dev.bel.trans (hB.mono H1.out.dev.bel.size))
  have hsrc := hI1.src
  have Hlen : Hid ((ks.map (Value.int .i64)).length = nk) := Lib.hid (by rw [List.length_map]; exact Hnk.out)
  have HB := Lib.hid hB
  have hcell1 := Hcell.out (w1.alloc (.cells #[] 3)) ((Keeps.refl _ w1).alloc _)
  clear hB hI1
  go_wp2_with (first
    | (at_builtin; refine wpList_append_sub _ rfl _ _ 41 rfl 3 i0 (.int .i64 0) 8 Try.underlying41 hi hz0 hz1 hz2 rfl w1.heap.size _ [] rfl hr0 _ rfl _ hsrc (by rw [Hlen.out]; simp; unfold maxLen; omega) (by rw [Hlen.out]; simp; omega) (by simp) ?_; intro v7 w7 h7 hk7 hn7; (rw [List.nil_append] at h7); (obtain ⟨q7, c7, ev, _, _⟩ := h7.form); (rw [Hlen.out] at ev); subst ev; have H7 := Lib.hid h7; (have HB7 : Hid (Below w1.heap.size w1 w7) := Lib.hid (HB.out.trans (hk7.below (by simp) (fun k hk e => by have e' : some w1.heap.size = some k := e; cases e'; omega)))); clear h7 hk7 hn7 hsrc hr0; have hcr := crash_db (H1.out.below HB7.out).dev _ ks (Ints.of_sub H7.out); have hcell7 := Hcell.out w7 (Keeps.of_below HB7.out))
    | (go_at_call 48; (with_reducible refine hcr.mono ?_); rintro _ w8 ⟨rfl, h8, k8⟩; clear hcr; have HD8 := Lib.hid h8; have K8 : Hid (Keeps (fun k => DFoot p mn ms mc k ∨ A.S k) w1 w8) := Lib.hid ((Keeps.of_below HB7.out).trans (k8.mono (fun _ _ e => .inl e))); have hcell8 := Hcell.out w8 K8.out; have H8 : Hid (SubRow w8 w1.heap.size (.slice q7 nk c7) (ks.map (Value.int .i64))) := Lib.hid (H7.out.block_keeps k8 (fun k e e' => by have h1 := (H7.out.lt k e).1; have h2 := Hlt.out k (.inl e'); have h3 := Hal.out.size; omega)); have hrc := rcrash_any ((H1.out.below HB7.out).ahead k8) H1.out.dev.ok (HI0.out.below (HD8.out.bel)) (fun h0 k e e' => by have h1 := HI0.out.lt h0 k e; have h2 := H1.out.low k e'; omega); clear h8 k8)
    | (go_at_call 57; (with_reducible refine hrc.mono ?_); rintro _ w9 ⟨rfl, h9, k9⟩; clear hrc; have HR9 := Lib.hid h9; have HD9 := Lib.hid (Pre.DB.oth HD8.out k9 H1.out.off H1.out.low); have K9 : Hid (Keeps (fun k => DFoot p mn ms mc k ∨ A.S k) w1 w9) := Lib.hid (K8.out.trans (k9.mono (fun _ _ e => .inr e))); have hcell9 := Hcell.out w9 K9.out; have hsm := ints_same w9 _ _ ks (Ints.of_sub (H8.out.block_keeps k9 (fun k e e' => by have h1 := (H8.out.lt k e).1; have h2 := Hlt.out k (.inr e'); have h3 := Hal.out.size; omega))) (HI0.out.below HD9.out.bel) (by rw [Hnk.out]; exact hnl); clear h9 k9)
    | (go_at_call 16; (with_reducible refine hsm.mono ?_); rintro _ _ ⟨rfl, nd, rfl⟩; clear hsm))
  go_ret
  have hb9 : Below w9.heap.size w9 (w9.drewN nd) := (Below.refl _ w9).trans ⟨rfl, rfl, rfl, Nat.le_refl _, fun _ _ => rfl⟩
  exact ⟨rfl, ⟨HD9.out.below hb9, HR9.out.below hb9, H1.out.off, H1.out.low⟩, (Keeps.of_below Hal.out).trans (K9.out.trans (Keeps.of_below hb9))⟩
end
end Go.Proofs.Ytnficiohnhodiaa
