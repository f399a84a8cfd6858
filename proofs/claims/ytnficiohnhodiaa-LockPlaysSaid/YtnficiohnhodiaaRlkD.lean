import Derived.Test.YtnficiohnhodiaaRlkC
/-
  The document's table of locks: forget, Release.
-/
namespace Go.Proofs.Ytnficiohnhodiaa
open Go.RowKit
theorem infoLk : (Try.prog.info? 82).map (fun i => (i.zero, i.size, i.bytes)) = some (some (.agg #[.int .i64 0, .int .i64 0, .int .i64 0]), 3, 24) := by kernel_rfl
theorem Keeps.of_grown {w w' : World} {row : Option Nat} (h : w.grownBy w' row) : Keeps (fun k => row = some k) w w' := ⟨h.os, h.tape, h.output, h.size, fun k hk hs => h.block k hk (fun e => hs e.symm)⟩
theorem lk_news (w : World) (x : Lk) (T : TypeId) : ∀ j u, (lkV [x])[j]? = some u → (w.alloc (.cells #[.int .i64 x.txn, .int .i64 x.page, .int .i64 x.mode] T)).cell? ((⟨w.heap.size, 0, none⟩ : Addr).add j) = some u := by
  intro j u hu
  rw [Addr.add_mid, Nat.zero_add]
  exact cell_in (heap_alloc_new w _) (by simpa [lkV, Lk.vals] using hu)
theorem RowK.below {w w' : World} {B : Nat} {v : Value} {l : List Lk} (h : RowK w B v l) (hb : Below w.heap.size w w') : RowK w' B v l := h.keeps (S := fun _ => False) (Keeps.of_below hb) (fun _ _ e => e)
theorem RowK.weaken {w : World} {B B' : Nat} {v : Value} {l : List Lk} (h : RowK w B v l) (hb : B' ≤ B) : RowK w B' v l := by
  obtain ⟨h0, h1⟩ := h
  refine ⟨h0, ?_⟩
  rcases h1 with h1 | ⟨g, cap, cur, rfl, hb', h2⟩
  · exact .inl h1
  · exact .inr ⟨g, cap, cur, rfl, Nat.le_trans hb hb', h2⟩
theorem RowK.snoc {w : World} {B : Nat} {v : Value} {l : List Lk} {x : Lk} (h : w.ownsRow B 82 3 v (l.length + 1) (lkV l ++ lkV [x])) : RowK w B v (l ++ [x]) := by
  unfold RowK; rw [lkV_append, List.length_append]; exact h
theorem filter_take {p : Lk → Bool} {l : List Lk} {k : Nat} {x : Lk} (hx : l[k]? = some x) : (l.take (k + 1)).filter p = if p x then (l.take k).filter p ++ [x] else (l.take k).filter p := by
  rw [List.take_add_one, hx, List.filter_append]
  cases h : p x <;> simp [h]
def keepP (txn : Int) (x : Lk) : Bool := !(x.txn == txn)
def forgetR (l : List Lk) (txn : Int) : List Lk := l.filter (keepP txn)
theorem Keeps.cellAt' {S : Nat → Prop} {w : World} {p : Addr} (h : S p.block) (u : Value) : Keeps S w (w.setCell p u) := (Keeps.refl S w).setCell (.inl h) u
section
variable {w w' : World} {B b : Nat} {vl vw : Value} {ls ws : List Lk}
/-- a field is stored anew -/
theorem TabAt.setWaits (h : TabAt w B b vl vw ls ws) {v : Value} {l : List Lk} (hv : RowK w B v l) (h1 : ∀ k, vl.ownBlock = some k → v.ownBlock ≠ some k) (h2 : v.ownBlock ≠ some b) : TabAt (w.setCell ⟨b, 1, none⟩ v) B b vl v ls l := by
  have hk : Keeps (· = b) w (w.setCell ⟨b, 1, none⟩ v) := Keeps.cellAt' (S := (· = b)) rfl v
  refine ⟨?_, h.locks.keeps hk (fun k e e' => h.ap1 (by have e2 : k = b := e'; rw [← e2]; exact e)), hv.keeps hk (fun k e e' => h2 (by have e2 : k = b := e'; rw [← e2]; exact e)), h.low, h.ap1, h2, h1⟩
  rw [heap_setCell _ _ _ _ _ _ _ h.self]; rfl
theorem TabAt.setLocks (h : TabAt w B b vl vw ls ws) {v : Value} {l : List Lk} (hv : RowK w B v l) (h1 : ∀ k, v.ownBlock = some k → vw.ownBlock ≠ some k) (h2 : v.ownBlock ≠ some b) : TabAt (w.setCell ⟨b, 0, none⟩ v) B b v vw l ws := by
  have hk : Keeps (· = b) w (w.setCell ⟨b, 0, none⟩ v) := Keeps.cellAt' (S := (· = b)) rfl v
  refine ⟨?_, hv.keeps hk (fun k e e' => h2 (by have e2 : k = b := e'; rw [← e2]; exact e)), h.waits.keeps hk (fun k e e' => h.ap2 (by have e2 : k = b := e'; rw [← e2]; exact e)), h.low, h2, h.ap2, h1⟩
  rw [heap_setCell _ _ _ _ _ _ _ h.self]; rfl
/-- the blocks of the table may change, and new ones may be its own -/
def TPost (w : World) (B b : Nat) (vl vw : Value) (ls ws : List Lk) (w' : World) : Prop :=
  ∃ vl' vw', TabAt w' B b vl' vw' ls ws ∧ Keeps (TFoot b vl vw) w w' ∧ ∀ k, TFoot b vl' vw' k → TFoot b vl vw k ∨ w.heap.size ≤ k
set_option maxRecDepth 100000 in
set_option maxHeartbeats 2000000 in
theorem rforget_any (h : TabAt w B b vl vw ls ws) (txn : Int) (hl : ws.length ≤ 1000000) (hB : B ≤ w.heap.size) :
    Calls Try.prog 36 #[.pointer (some ⟨b, 0, none⟩), .int .i64 txn] w fun e w' => e = .returned (.tuple #[]) ∧ ∃ vw', TabAt w' B b vl vw' ls (forgetR ws txn) ∧ Keeps (· = b) w w' ∧ (∀ k, vw'.ownBlock = some k → w.heap.size ≤ k) := by
  obtain ⟨i0, hi, hz0, hz1, hz2⟩ := info_partsL infoLk
  have H := Lib.hid h
  have HB := Lib.hid hB
  obtain ⟨q, c, rfl, hc, hm⟩ := h.waits.form
  unfold maxLen at hm
  clear h
  go_enter Try.func36, Try.ntmps36
  go_wp2
  go_loopw [4, 5] (fun v4 v5 wr => ∃ k : Nat, v5 = .int .i64 k ∧ k ≤ ws.length ∧ RowK wr w.heap.size v4 ((ws.take k).filter (keepP txn)) ∧ Below w.heap.size w wr) (fun _ v5 _ => ws.length - (intOf v5).toNat)
  case atStart => exact ⟨0, rfl, Nat.zero_le _, RowK.nil _ _, Below.refl _ _⟩
  case round =>
    obtain ⟨k, rfl, hk, hO, hb⟩ := hrel
    have Hb := Lib.hid hb
    have H2 := Lib.hid (H.out.below hb)
    have c1 := H2.out.c1
    by_cases hlt : k < ws.length
    · obtain ⟨y, hy⟩ : ∃ y, ws[k]? = some y := ⟨_, List.getElem?_eq_getElem hlt⟩
      obtain ⟨g, c', ev, _, d0, d1, d2⟩ := H2.out.waits.at hy
      injection ev with e1 _ e3
      subst e1 e3
      have Hfo := Lib.hid (filter_take (p := keepP txn) hy)
      have Hlen : Hid (((ws.take k).filter (keepP txn)).length ≤ 1000000) := Lib.hid (by have := List.length_filter_le (keepP txn) (ws.take k); rw [List.length_take] at this; omega)
      have hki : (k : Int) < (ws.length : Int) := by omega
      have hsw := hb.size
      clear hy hb
      generalize ho1e : (ws.take (k + 1)).filter (keepP txn) = o1 at Hfo
      have HO1 := Lib.hid ho1e
      clear ho1e
      generalize (ws.take k).filter (keepP txn) = o0 at hO Hfo Hlen
      by_cases e1 : y.txn = txn
      · have Hp : Hid (keepP txn y = false) := Lib.hid (by unfold keepP; simp [e1])
        go_wp2
        go_roundw
        case rel => exact ⟨k + 1, by go_num, by omega, by rw [HO1.out, Hfo.out, Hp.out]; exact hO, Hb.out⟩
        case measure => simp [intOf]; omega
      · have Hp : Hid (keepP txn y = true) := Lib.hid (by unfold keepP; simp [e1])
        have hal : Below wr.heap.size wr (wr.alloc (.cells #[.int .i64 y.txn, .int .i64 y.page, .int .i64 y.mode] 82)) := (Below.refl _ _).alloc (Nat.le_refl _) _
        go_wp2_with (at_builtin; refine wpList_append_lies _ rfl _ _ 27 rfl w.heap.size 82 i0 _ 3 24 Try.underlying27 hi hz0 hz1 hz2 rfl (by decide) _ o0.length (lkV o0) rfl (RowK.below hO hal) ⟨wr.heap.size, 0, none⟩ 1 1 (lkV [y]) rfl rfl (lk_news wr y _) (lkV_one _) (by decide) (by have := Hlen.out; unfold maxLen; omega) (by have := Hlen.out; omega) (by simp; omega) _ rfl ?_; intro g7 cap7 w7 h7 hg7 hn7 hl7)
        have hk7 := Keeps.of_grown hg7
        have hlt7 := hO.lt
        have hb7 : Below w.heap.size w w7 := (Hb.out.alloc hsw _).trans (hk7.below (by simp; omega) (fun j hj e => by have := (hlt7 j e).1; omega))
        have h7' : RowK w7 w.heap.size (.slice (some ⟨g7, 0, none⟩) (o0.length + 1) cap7) (o0 ++ [y]) := RowK.snoc h7
        clear hk7 hn7 hlt7 hO h7 hg7 hl7
        go_wp2
        go_roundw
        case rel => exact ⟨k + 1, by go_num, by omega, by rw [HO1.out, Hfo.out, Hp.out]; exact h7', hb7⟩
        case measure => simp [intOf]; omega
    · obtain rfl : k = ws.length := by omega
      rw [List.take_length] at hO
      have hw0 := hb.size
      have fz : wr.frozen? ⟨b, 1, none⟩ = false := free_in H2.out.self
      have hvb := fun j e => (hO.lt j e).1
      obtain ⟨q4, c4, rfl, _, _⟩ := hO.form
      go_wp2
      go_end0
      have hlo := H.out.lt
      exact ⟨rfl, _, H2.out.setWaits (hO.weaken HB.out) (fun j e e' => by have := (hlo j (.inr (.inl e))).2; have := hvb j e'; omega) (fun e => by have := (hlo b (.inl rfl)).2; have := hvb b e; omega), (Keeps.of_below hb).trans (Keeps.cellAt' (S := (· = b)) rfl _), hvb⟩
set_option maxRecDepth 100000 in
set_option maxHeartbeats 2000000 in
theorem rrelease_any (h : TabAt w B b vl vw ls ws) (txn : Int) (hl : ls.length ≤ 1000000) (hl2 : ws.length ≤ 1000000) (hB : B ≤ w.heap.size) :
    Calls Try.prog 9 #[.pointer (some ⟨b, 0, none⟩), .int .i64 txn] w fun e w' => e = .returned (.int .i64 ((ls.length : Int) - ((forgetR ls txn).length : Int))) ∧ ∃ vl' vw', TabAt w' B b vl' vw' (forgetR ls txn) (forgetR ws txn) ∧ Keeps (· = b) w w' ∧ (∀ k, vl'.ownBlock = some k → w.heap.size ≤ k) ∧ (∀ k, vw'.ownBlock = some k → w.heap.size ≤ k) := by
  obtain ⟨i0, hi, hz0, hz1, hz2⟩ := info_partsL infoLk
  have HB := Lib.hid hB
  have hfg := rforget_any h txn hl2 hB
  have Hlt0 := Lib.hid h.lt
  clear h
  go_enter Try.func9, Try.ntmps9
  go_upto_region 2 with (go_at_call 36; (with_reducible refine hfg.mono ?_); rintro _ w1 ⟨rfl, vw1, h1, k1, n1⟩; clear hfg; have H := Lib.hid h1; have K1 := Lib.hid k1; have N1 := Lib.hid n1; clear h1 k1 n1)
  have hs1 := K1.out.size
  obtain ⟨q, c, rfl, hc, hm⟩ := H.out.locks.form
  unfold maxLen at hm
  go_wp2
  go_loopw [5, 6] (fun v4 v5 wr => ∃ k : Nat, v5 = .int .i64 k ∧ k ≤ ls.length ∧ RowK wr w1.heap.size v4 ((ls.take k).filter (keepP txn)) ∧ Below w1.heap.size w1 wr) (fun _ v5 _ => ls.length - (intOf v5).toNat)
  case atStart => exact ⟨0, rfl, Nat.zero_le _, RowK.nil _ _, Below.refl _ _⟩
  case round =>
    obtain ⟨k, rfl, hk, hO, hb⟩ := hrel
    have Hb := Lib.hid hb
    have H2 := Lib.hid (H.out.below hb)
    have c1 := H2.out.c0
    by_cases hlt : k < ls.length
    · obtain ⟨y, hy⟩ : ∃ y, ls[k]? = some y := ⟨_, List.getElem?_eq_getElem hlt⟩
      obtain ⟨g, c', ev, _, d0, d1, d2⟩ := H2.out.locks.at hy
      injection ev with e1 _ e3
      subst e1 e3
      have Hfo := Lib.hid (filter_take (p := keepP txn) hy)
      have Hlen : Hid (((ls.take k).filter (keepP txn)).length ≤ 1000000) := Lib.hid (by have := List.length_filter_le (keepP txn) (ls.take k); rw [List.length_take] at this; omega)
      have hki : (k : Int) < (ls.length : Int) := by omega
      have hsw := hb.size
      clear hy hb
      generalize ho1e : (ls.take (k + 1)).filter (keepP txn) = o1 at Hfo
      have HO1 := Lib.hid ho1e
      clear ho1e
      generalize (ls.take k).filter (keepP txn) = o0 at hO Hfo Hlen
      by_cases e1 : y.txn = txn
      · have Hp : Hid (keepP txn y = false) := Lib.hid (by unfold keepP; simp [e1])
        go_wp2
        go_roundw
        case rel => exact ⟨k + 1, by go_num, by omega, by rw [HO1.out, Hfo.out, Hp.out]; exact hO, Hb.out⟩
        case measure => simp [intOf]; omega
      · have Hp : Hid (keepP txn y = true) := Lib.hid (by unfold keepP; simp [e1])
        have hal : Below wr.heap.size wr (wr.alloc (.cells #[.int .i64 y.txn, .int .i64 y.page, .int .i64 y.mode] 82)) := (Below.refl _ _).alloc (Nat.le_refl _) _
        go_wp2_with (at_builtin; refine wpList_append_lies _ rfl _ _ 27 rfl w1.heap.size 82 i0 _ 3 24 Try.underlying27 hi hz0 hz1 hz2 rfl (by decide) _ o0.length (lkV o0) rfl (RowK.below hO hal) ⟨wr.heap.size, 0, none⟩ 1 1 (lkV [y]) rfl rfl (lk_news wr y _) (lkV_one _) (by decide) (by have := Hlen.out; unfold maxLen; omega) (by have := Hlen.out; omega) (by simp; omega) _ rfl ?_; intro g7 cap7 w7 h7 hg7 hn7 hl7)
        have hk7 := Keeps.of_grown hg7
        have hlt7 := hO.lt
        have hb7 : Below w1.heap.size w1 w7 := (Hb.out.alloc hsw _).trans (hk7.below (by simp; omega) (fun j hj e => by have := (hlt7 j e).1; omega))
        have h7' : RowK w7 w1.heap.size (.slice (some ⟨g7, 0, none⟩) (o0.length + 1) cap7) (o0 ++ [y]) := RowK.snoc h7
        clear hk7 hn7 hlt7 hO h7 hg7 hl7
        go_wp2
        go_roundw
        case rel => exact ⟨k + 1, by go_num, by omega, by rw [HO1.out, Hfo.out, Hp.out]; exact h7', hb7⟩
        case measure => simp [intOf]; omega
    · obtain rfl : k = ls.length := by omega
      rw [List.take_length] at hO
      have hw0 := hb.size
      have fz : wr.frozen? ⟨b, 0, none⟩ = false := free_in H2.out.self
      have hvb := fun j e => (hO.lt j e).1
      have hfl : (ls.filter (keepP txn)).length ≤ ls.length := List.length_filter_le _ _
      obtain ⟨q4, c4, rfl, _, _⟩ := hO.form
      have HO := Lib.hid hO
      clear hO
      generalize ho : ls.filter (keepP txn) = o0 at HO hfl hvb ⊢
      have Ho : Hid (forgetR ls txn = o0) := Lib.hid ho
      clear ho
      go_wp2
      go_ret
      have hlo := H.out.lt
      rw [Ho.out]
      exact ⟨rfl, _, _, H2.out.setLocks (HO.out.weaken (Nat.le_trans HB.out hs1)) (fun j e e' => by have := (hlo j (.inr (.inr e'))).2; have := hvb j e; omega) (fun e => by have := (hlo b (.inl rfl)).2; have := hvb b e; omega), K1.out.trans ((Keeps.of_below hb).trans (Keeps.cellAt' (S := (· = b)) rfl _)), fun j e => by have := hvb j e; omega, N1.out⟩
end
end Go.Proofs.Ytnficiohnhodiaa
