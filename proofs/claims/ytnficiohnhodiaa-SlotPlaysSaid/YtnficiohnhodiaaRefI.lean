import Derived.Test.YtnficiohnhodiaaRefH
/-
  The document's device: blank, New (the walk).
-/
namespace Go.Proofs.Ytnficiohnhodiaa
open Go.RowKit
theorem info24' : (Try.prog.info? 52).map (fun i => (i.zero, i.size, i.bytes)) = some (some (.slice none 0 0), 1, 24) := by kernel_rfl
theorem info1 : (Try.prog.info? 4).map (fun i => (i.zero, i.size, i.bytes)) = some (some (.bool false), 1, 1) := by kernel_rfl
/-- as KeepR, but only operation j may change the blocks of S; what holds all the time, holds on -/
def KeepB (j : Nat) (S : Nat → Prop) (B : World → Prop) (k : Nat) (w w' : World) : Prop := Keeps (fun b => k = j ∧ S b) w w' ∧ (B w → B w')
section
variable {l : List Oper} {calls : List Nat} {j : Nat} {S : Nat → Prop} {B : World → Prop}
theorem keepBOk : (plan l calls (KeepB j S B) B).Ok := ⟨fun _ w => ⟨Keeps.refl _ w, id⟩, fun _ _ _ hb hk => hk.2 hb⟩
theorem keepBStable {i : Nat} {F : World → Prop} (h : ∀ w w', F w → Keeps S w w' → F w') : (plan l calls (KeepB j S B) B).stable i F := fun _ w w' _ hf hk => h w w' hf (hk.1.mono (fun _ _ e => e.2))
theorem keepBStable' {F : World → Prop} (h : ∀ w w', F w → Keeps (fun _ => False) w w' → F w') : (plan l calls (KeepB j S B) B).stable j F := fun _ w w' hm hf hk => h w w' hf (hk.1.mono (fun _ _ e => hm e.1))
theorem wp_region_textB {P : Program} {id : Nat} {Q : Exit → Act → World → Prop} {a : Act} {w : World} {l : List Oper} (calls : List Nat) (j : Nat) (S : Nat → Prop) (B : World → Prop) (n : Nat) (hm : P.follows .mixedOrders = true)
    (hB : growB l.toArray (plan l calls (KeepB j S B) B) n (List.range' 0 (l.take n).length) = true) (hB0 : B w.drew)
    (h : text P l.toArray (plan l calls (KeepB j S B) B) n (fun fs a' => ∀ w', B w' → allSay fs w' → wpList P l.toArray (Calm Q) (l.drop n) a' w') 0 (l.take n) (Array.replicate l.length false) [] a) : (Code.region id l.toArray true).wp P Q a w :=
  wp_region_grow (plan l calls (KeepB j S B) B) n _ hm keepBOk hB hB0 (walk_of_text (l.take n) 0 _ _ _ (fun j hj => by rw [List.length_take] at hj; simp [show j < n by omega]) h)
end
theorem rowForm1 {w : World} {B : Nat} {v : Value} {xs : List Value} (h : SubRow w B v xs) (hl : 1 ≤ xs.length) : ∃ g o c, v = .slice (some ⟨g, o, none⟩) xs.length c ∧ B ≤ g ∧ g < w.heap.size := by
  rcases h with ⟨_, e⟩ | ⟨g, o, c, e, h1, h2, _⟩
  · rw [e] at hl; simp at hl
  · exact ⟨g, o, c, e, h1, h2⟩
set_option maxRecDepth 100000 in
theorem rblank_any (w : World) : Calls Try.prog 49 #[] w fun e w' => ∃ g, e = .returned (.slice (some ⟨g, 0, none⟩) 512 512) ∧ SubRow w' w.heap.size (.slice (some ⟨g, 0, none⟩) 512 512) (bytesV blank) ∧ Below w.heap.size w w' := by
  have hmk := run_make_row' (P := Try.prog) 52 5 (.int .u8 0) 1 Try.underlying52 info8 rfl .i64 .i64 512 (by omega) (by omega)
  have hmk' : ∀ w, (Instr.makeSlice 52 (.int .i64 512) (.int .i64 512)).run Try.prog w = .ok (.slice (some ⟨w.heap.size, 0, none⟩) 512 512) (w.alloc (.cells (bytesV blank).toArray 5)) := fun w => by
    have := hmk w
    rw [show (madeCells #[Value.int .u8 0] 512) = (bytesV blank).toArray from by
      apply Array.ext'
      rw [toList_madeCells_one]; unfold bytesV blank; rw [List.map_replicate]; rfl] at this
    exact this
  clear hmk
  have hh : (w.alloc (.cells (bytesV blank).toArray 5)).heap[w.heap.size]? = some (.cells (bytesV blank).toArray 5 (0, 0)) := heap_alloc_new _ _
  have hB : Below w.heap.size w (w.alloc (.cells (bytesV blank).toArray 5)) := (Below.refl _ _).alloc (Nat.le_refl _) _
  have Hh := Lib.hid hh
  have HB := Lib.hid hB
  clear hh hB
  go_enter Try.func49, Try.ntmps49
  go_wp2
  go_ret
  have hbl : (bytesV blank).length = 512 := by rw [bytesV_len, blank_l]
  refine ⟨w.heap.size, rfl, .inr ⟨w.heap.size, 0, 512, by rw [hbl], Nat.le_refl _, lt_of Hh.out, by rw [hbl]; omega, by unfold maxLen; omega, fun j hj => ?_, fun j u hu => ?_⟩, HB.out⟩
  · rw [Nat.zero_add, cell_in (o := j) (u := (bytesV blank)[j]'(by rw [hbl]; exact hj)) Hh.out (by simp)]
    exact ⟨rfl, free_in Hh.out⟩
  · rw [Nat.zero_add]; exact cell_in Hh.out (by simpa using hu)
theorem sub_one {w : World} {B : Nat} {x : Value} {T : TypeId} (h : B ≤ w.heap.size) : SubRow (w.alloc (.cells #[x] T)) B (.slice (some ⟨w.heap.size, 0, none⟩) 1 1) [x] := by
  have hh := heap_alloc_new w (.cells #[x] T)
  refine .inr ⟨w.heap.size, 0, 1, rfl, h, by simp, Nat.le_refl _, by unfold maxLen; omega, fun j hj => ?_, fun j u hu => ?_⟩
  · obtain rfl : j = 0 := by omega
    rw [cell_in hh rfl]
    exact ⟨rfl, free_in hh⟩
  · cases j with
    | zero => simp at hu; subst hu; exact cell_in hh rfl
    | succ j => simp at hu
section
variable {w : World} {B : Nat} {A : RAd} {i j k : Nat}
set_option maxRecDepth 100000 in
set_option maxHeartbeats 2000000 in
theorem rnew_any (w : World) (n : Int) (h1 : 1 ≤ n) (h2 : n ≤ 4096) : Calls Try.prog 23 #[.int .i64 n] w fun e w' => ∃ A, e = .returned (.tuple #[.pointer (some ⟨A.b, 0, none⟩), .int .i64 0]) ∧ RefAt w' w.heap.size A (Dev.new n) 0 ∧ Below w.heap.size w w' := by
  obtain ⟨N, rfl⟩ : ∃ N : Nat, n = (N : Int) := ⟨n.toNat, by omega⟩
  have e0 : decide ((N : Int) < 1) = false := by simp; omega
  have e0' : decide ((N : Int) > 4096) = false := by simp; omega
  obtain ⟨i24, hi24, hz24, hz241, hz242⟩ := info_parts info24'
  obtain ⟨i1, hi1, hz1, hz11, hz12⟩ := info_parts info1
  go_enter Try.func23, Try.ntmps23
  go_wp2
  go_loopw [5] (fun t wr => ∃ (i : Nat) (A : RAd), t = .int .i64 i ∧ i ≤ N ∧ A.b = w.heap.size ∧ NewAt wr w.heap.size A i i i ∧ Below w.heap.size w wr) (fun t _ => N - (intOf t).toNat)
  case atStart =>
    refine ⟨0, ⟨w.heap.size, .slice none 0 0, .slice none 0 0, .slice none 0 0⟩, rfl, Nat.zero_le _, rfl, ⟨heap_alloc_new _ _, ⟨[], rfl, .inl ⟨rfl, rfl⟩, fun n x hx => by simp at hx⟩, ⟨[], rfl, .inl ⟨rfl, rfl⟩, fun n x hx => by simp at hx⟩, .inl ⟨rfl, rfl⟩, Nat.le_refl _, (fun k e => by cases e), (fun k e => by cases e), (fun k e => by cases e)⟩, (Below.refl _ _).alloc (Nat.le_refl _) _⟩
  case round =>
    obtain ⟨i, ⟨b, vn, vs, vc⟩, rfl, hiN, hAb, hN, hb⟩ := hrel
    have hAb : b = w.heap.size := hAb
    have HN := Lib.hid hN
    have Hb := Lib.hid hb
    subst hAb
    clear hN hb
    by_cases hlt : i < N
    · have e1 : decide ((i : Int) < (N : Int)) = true := by simp; omega
      go_upto_region 7 with fail
      obtain ⟨rowsp, hlp, hsp, hrp⟩ := HN.out.now
      have HLp : Hid (rowsp.length = i) := Lib.hid hlp
      have HRp := Lib.hid hrp
      have hsp' : SubRow wr w.heap.size vn rowsp := hsp
      have HIp : Hid (∀ k, vn.ownBlock = some k → w.heap.size ≤ k ∧ k < wr.heap.size) := Lib.hid (fun k e => hsp'.lt k e)
      have HAp : Hid (¬ vn.ownBlock = some w.heap.size) := Lib.hid (fun e => (HN.out.ap1 w.heap.size e).1 rfl)
      have cbp : wr.cell? ⟨w.heap.size, 0, none⟩ = some vn := cell_in HN.out.self rfl
      have hBk : ∀ w' w'' : World, Below w'.heap.size w' w'' → (Keeps (fun k => vn.ownBlock = some k) wr w' ∧ w'.cell? ⟨w.heap.size, 0, none⟩ = some vn ∧ SubRow w' w.heap.size vn rowsp) → (Keeps (fun k => vn.ownBlock = some k) wr w'' ∧ w''.cell? ⟨w.heap.size, 0, none⟩ = some vn ∧ SubRow w'' w.heap.size vn rowsp) := fun w' w'' hb h => ⟨h.1.trans (Keeps.of_below hb), (Keeps.of_below (S := fun _ => False) hb).cell h.2.1 (fun e => e), h.2.2.below hb⟩
      have HBk := Lib.hid hBk
      refine wp_region_textB [5] 7 (fun k => vn.ownBlock = some k) (fun w' => (Keeps (fun k => vn.ownBlock = some k) wr w' ∧ w'.cell? ⟨w.heap.size, 0, none⟩ = some vn ∧ SubRow w' w.heap.size vn rowsp)) 8 (by kernel_rfl) (by kernel_rfl) (hBk _ _ (Below.refl _ _).drew ⟨Keeps.refl _ _, cbp, hsp'⟩) ?_
      clear hlp hsp hsp' hrp hBk cbp
      simp only [List.take_succ_cons, List.take_zero, List.drop_succ_cons, List.drop_zero]
      repeat (first | (refine text_pure (v := ?_) (by rfl) (fun w' => ?_) ?_; rotate_left; (focus ( go_simp; first | done | with_reducible rfl)); simp only [Act.put, List.setIfInBounds_toArray, List.set_cons_zero, List.set_cons_succ]) | (refine text_skip (by rfl) ?_; simp only [Act.put, List.setIfInBounds_toArray, List.set_cons_zero, List.set_cons_succ]))
      (refine text_read (v := ?_) (by rfl) (by kernel_rfl) (fun w' hB hm => ?_) ?_; rotate_left; (focus (have hc := hB.2.1; (try clear hm); (try clear hB); go_simp; first | done | with_reducible rfl)); simp only [Act.put, List.setIfInBounds_toArray, List.set_cons_zero, List.set_cons_succ])
      refine text_call (f := 49) (args := #[]) (fun g : Nat => .slice (some ⟨g, 0, none⟩) 512 512) (fun g w' => SubRow w' wr.heap.size (.slice (some ⟨g, 0, none⟩) 512 512) (bytesV blank)) (by rfl) (by kernel_rfl) (by kernel_rfl) (by kernel_rfl)
        (fun x y h => by injection h with h; injection h with h; injection h) (fun x => keepBStable fun _ _ h k => h.block_keeps k (fun k' e e' => by have h3 := (h.lt k' e).1; have h4 := (HIp.out k' e').2; omega)) (fun w' => ?_) (fun w' hB hm => ?_) (fun gp => ?_)
      · go_simp
      · refine (rblank_any w').mono fun e w'' ⟨g, he, s, hb⟩ => ?_
        exact ⟨g, he, ⟨Keeps.of_below hb, HBk.out _ _ hb⟩, s.weaken hB.1.size⟩
      simp only [Act.put, List.setIfInBounds_toArray, List.set_cons_zero, List.set_cons_succ]
      refine text_new (fun b : Nat => .slice (some ⟨b, 0, none⟩) 1 1) (fun b w' => SubRow w' wr.heap.size (.slice (some ⟨b, 0, none⟩) 1 1) [.slice (some ⟨gp, 0, none⟩) 512 512]) (by rfl) (by kernel_rfl) (by kernel_rfl)
        (fun x y h => by injection h with h; injection h with h; injection h) (fun x => keepBStable fun _ _ h k => h.block_keeps k (fun k' e e' => by have h3 := (h.lt k' e).1; have h4 := (HIp.out k' e').2; omega)) (fun w' hB hm K hK => ?_) (fun bp => ?_)
      · unfold gives
        go_simp
        exact hK _ _ ⟨(Keeps.refl _ _).alloc _, HBk.out _ _ ((Below.refl _ _).alloc (Nat.le_refl _) _)⟩ (sub_one hB.1.size)
      simp only [Act.put, List.setIfInBounds_toArray, List.set_cons_zero, List.set_cons_succ]
      refine text_new (fun b : Nat × Nat × Nat => .slice (some ⟨b.1, b.2.1, none⟩) (i + 1) b.2.2) (fun b w' => SubRow w' w.heap.size (.slice (some ⟨b.1, b.2.1, none⟩) (i + 1) b.2.2) (rowsp ++ [.slice (some ⟨gp, 0, none⟩) 512 512]) ∧ (vn.ownBlock = some b.1 ∨ wr.heap.size ≤ b.1) ∧ b.1 ≠ gp) (by rfl) (by kernel_rfl) (by kernel_rfl)
        (fun x y h => by obtain ⟨x1, x2, x3⟩ := x; obtain ⟨y1, y2, y3⟩ := y; injection h with h _ h3; injection h with h; injection h with h1 h2 _; subst h1; subst h2; subst h3; rfl) (fun x => keepBStable' fun _ _ h k => ⟨h.1.block_keeps k (fun _ _ e => e), h.2⟩) (fun w' hB hm K hK => ?_) (fun pp => ?_)
      · have hf6 := hm.1 (by kernel_rfl)
        have hf5 := hm.2.1 (by kernel_rfl)
        obtain ⟨v2, w2, hr, s2, s2', k2, o2⟩ := run_append_own2 (P := Try.prog) w' 56 56 52 i24 (.slice none 0 0) 24 Try.underlying56 hi24 hz24 hz241 hz242 rfl w.heap.size vn rowsp hB.2.2 _ [.slice (some ⟨gp, 0, none⟩) 512 512] (hf6.src Try.underlying56 (fun u hu => by simp at hu; subst hu; rfl)) (by rw [HLp.out]; simp only [List.length_cons, List.length_nil]; unfold maxLen; omega) (by rw [HLp.out]; simp only [List.length_cons, List.length_nil]; omega) (Nat.le_trans Hb.out.size hB.1.size)
        obtain ⟨g2, o3, c2, e2, l1, l2⟩ := rowForm1 s2 (by rw [List.length_append]; simp only [List.length_cons, List.length_nil]; omega)
        rw [show (rowsp ++ [Value.slice (some ⟨gp, 0, none⟩) 512 512]).length = i + 1 from by rw [List.length_append, HLp.out]; rfl] at e2
        subst e2
        have hg5 := SubRow.lt hf5 gp rfl
        have hcase : (vn.ownBlock = some g2 ∨ wr.heap.size ≤ g2) ∧ g2 ≠ gp := by
          rcases o2 with h | h | h
          · have h3 := h.own
            have h4 : vn.ownBlock = some g2 := h3
            exact ⟨.inl h4, fun e => by have := (HIp.out g2 h4).2; omega⟩
          · have h3 : g2 = w'.heap.size := by cases h; rfl
            have := hB.1.size
            exact ⟨.inr (by omega), by omega⟩
          · cases h
        exact gives_append (v := vn) (y := .slice (some ⟨bp, 0, none⟩) 1 1) rfl rfl rfl hr (hK (g2, o3, c2) _ ⟨k2.mono (fun _ _ e => ⟨rfl, e⟩), fun hB' => ⟨hB'.1.trans k2, k2.cell hB'.2.1 (fun e => HAp.out e), s2'⟩⟩ ⟨s2, hcase⟩)
      simp only [Act.put, List.setIfInBounds_toArray, List.set_cons_zero, List.set_cons_succ]
      refine text_nil fun w2 hB hF => ?_
      obtain ⟨gv, ov, cv⟩ := pp
      have hs7 : SubRow w2 w.heap.size (.slice (some ⟨gv, ov, none⟩) (i + 1) cv) (rowsp ++ [.slice (some ⟨gp, 0, none⟩) 512 512]) := hF.1.1
      have hc7 : (vn.ownBlock = some gv ∨ wr.heap.size ≤ gv) ∧ gv ≠ gp := hF.1.2
      have hs5 : SubRow w2 wr.heap.size (.slice (some ⟨gp, 0, none⟩) 512 512) (bytesV blank) := hF.2.2.1
      have HG : Hid (NewAt (w2.setCell ⟨w.heap.size, 0, none⟩ (.slice (some ⟨gv, ov, none⟩) (i + 1) cv)) w.heap.size ⟨w.heap.size, (.slice (some ⟨gv, ov, none⟩) (i + 1) cv), vs, vc⟩ (i + 1) i i) := Lib.hid (HN.out.growNow HLp.out HRp.out hB.1 hs7 (hc7.1.elim (fun e => .inl e.symm) (fun e => .inr ⟨gv, rfl, e⟩)) hs5 (fun e => hc7.2 (by cases e; rfl)))
      have HW : Hid (Below w.heap.size w (w2.setCell ⟨w.heap.size, 0, none⟩ (.slice (some ⟨gv, ov, none⟩) (i + 1) cv))) := Lib.hid ((Hb.out.trans (hB.1.below Hb.out.size (fun k hk e => by have h3 := (HIp.out k e).1; omega))).setCell HN.out.low _)
      have cst : w2.cell? ⟨w.heap.size, 0, none⟩ = some vn := hB.2.1
      have fst : w2.frozen? ⟨w.heap.size, 0, none⟩ = false := free_in (hB.1.at HN.out.self HAp.out)
      clear hF hB hs7 hc7 hs5 HBk HIp HAp HRp HLp HN Hb
      go_wp2
      refine Calm.normal ?_
      clear cst fst
      generalize w2.setCell ⟨w.heap.size, 0, none⟩ (.slice (some ⟨gv, ov, none⟩) (i + 1) cv) = wr1 at HG HW ⊢
      generalize (Value.slice (some ⟨gv, ov, none⟩) (i + 1) cv) = vn1 at HG ⊢
      go_upto_region 8 with fail
      obtain ⟨rowsq, hlq, hsq, hrq⟩ := HG.out.synced
      have HLq : Hid (rowsq.length = i) := Lib.hid hlq
      have HRq := Lib.hid hrq
      have hsq' : SubRow wr1 w.heap.size vs rowsq := hsq
      have HIq : Hid (∀ k, vs.ownBlock = some k → w.heap.size ≤ k ∧ k < wr1.heap.size) := Lib.hid (fun k e => hsq'.lt k e)
      have HAq : Hid (¬ vs.ownBlock = some w.heap.size) := Lib.hid (fun e => (HG.out.ap2 w.heap.size e).1 rfl)
      have cbq : wr1.cell? ⟨w.heap.size, 1, none⟩ = some vs := cell_in HG.out.self rfl
      have hBk : ∀ w' w'' : World, Below w'.heap.size w' w'' → (Keeps (fun k => vs.ownBlock = some k) wr1 w' ∧ w'.cell? ⟨w.heap.size, 1, none⟩ = some vs ∧ SubRow w' w.heap.size vs rowsq) → (Keeps (fun k => vs.ownBlock = some k) wr1 w'' ∧ w''.cell? ⟨w.heap.size, 1, none⟩ = some vs ∧ SubRow w'' w.heap.size vs rowsq) := fun w' w'' hb h => ⟨h.1.trans (Keeps.of_below hb), (Keeps.of_below (S := fun _ => False) hb).cell h.2.1 (fun e => e), h.2.2.below hb⟩
      have HBk := Lib.hid hBk
      refine wp_region_textB [5] 7 (fun k => vs.ownBlock = some k) (fun w' => (Keeps (fun k => vs.ownBlock = some k) wr1 w' ∧ w'.cell? ⟨w.heap.size, 1, none⟩ = some vs ∧ SubRow w' w.heap.size vs rowsq)) 8 (by kernel_rfl) (by kernel_rfl) (hBk _ _ (Below.refl _ _).drew ⟨Keeps.refl _ _, cbq, hsq'⟩) ?_
      clear hlq hsq hsq' hrq hBk cbq
      simp only [List.take_succ_cons, List.take_zero, List.drop_succ_cons, List.drop_zero]
      repeat (first | (refine text_pure (v := ?_) (by rfl) (fun w' => ?_) ?_; rotate_left; (focus ( go_simp; first | done | with_reducible rfl)); simp only [Act.put, List.setIfInBounds_toArray, List.set_cons_zero, List.set_cons_succ]) | (refine text_skip (by rfl) ?_; simp only [Act.put, List.setIfInBounds_toArray, List.set_cons_zero, List.set_cons_succ]))
      (refine text_read (v := ?_) (by rfl) (by kernel_rfl) (fun w' hB hm => ?_) ?_; rotate_left; (focus (have hc := hB.2.1; (try clear hm); (try clear hB); go_simp; first | done | with_reducible rfl)); simp only [Act.put, List.setIfInBounds_toArray, List.set_cons_zero, List.set_cons_succ])
      refine text_call (f := 49) (args := #[]) (fun g : Nat => .slice (some ⟨g, 0, none⟩) 512 512) (fun g w' => SubRow w' wr1.heap.size (.slice (some ⟨g, 0, none⟩) 512 512) (bytesV blank)) (by rfl) (by kernel_rfl) (by kernel_rfl) (by kernel_rfl)
        (fun x y h => by injection h with h; injection h with h; injection h) (fun x => keepBStable fun _ _ h k => h.block_keeps k (fun k' e e' => by have h3 := (h.lt k' e).1; have h4 := (HIq.out k' e').2; omega)) (fun w' => ?_) (fun w' hB hm => ?_) (fun gq => ?_)
      · go_simp
      · refine (rblank_any w').mono fun e w'' ⟨g, he, s, hb⟩ => ?_
        exact ⟨g, he, ⟨Keeps.of_below hb, HBk.out _ _ hb⟩, s.weaken hB.1.size⟩
      simp only [Act.put, List.setIfInBounds_toArray, List.set_cons_zero, List.set_cons_succ]
      refine text_new (fun b : Nat => .slice (some ⟨b, 0, none⟩) 1 1) (fun b w' => SubRow w' wr1.heap.size (.slice (some ⟨b, 0, none⟩) 1 1) [.slice (some ⟨gq, 0, none⟩) 512 512]) (by rfl) (by kernel_rfl) (by kernel_rfl)
        (fun x y h => by injection h with h; injection h with h; injection h) (fun x => keepBStable fun _ _ h k => h.block_keeps k (fun k' e e' => by have h3 := (h.lt k' e).1; have h4 := (HIq.out k' e').2; omega)) (fun w' hB hm K hK => ?_) (fun bq => ?_)
      · unfold gives
        go_simp
        exact hK _ _ ⟨(Keeps.refl _ _).alloc _, HBk.out _ _ ((Below.refl _ _).alloc (Nat.le_refl _) _)⟩ (sub_one hB.1.size)
      simp only [Act.put, List.setIfInBounds_toArray, List.set_cons_zero, List.set_cons_succ]
      refine text_new (fun b : Nat × Nat × Nat => .slice (some ⟨b.1, b.2.1, none⟩) (i + 1) b.2.2) (fun b w' => SubRow w' w.heap.size (.slice (some ⟨b.1, b.2.1, none⟩) (i + 1) b.2.2) (rowsq ++ [.slice (some ⟨gq, 0, none⟩) 512 512]) ∧ (vs.ownBlock = some b.1 ∨ wr1.heap.size ≤ b.1) ∧ b.1 ≠ gq) (by rfl) (by kernel_rfl) (by kernel_rfl)
        (fun x y h => by obtain ⟨x1, x2, x3⟩ := x; obtain ⟨y1, y2, y3⟩ := y; injection h with h _ h3; injection h with h; injection h with h1 h2 _; subst h1; subst h2; subst h3; rfl) (fun x => keepBStable' fun _ _ h k => ⟨h.1.block_keeps k (fun _ _ e => e), h.2⟩) (fun w' hB hm K hK => ?_) (fun pq => ?_)
      · have hf6 := hm.1 (by kernel_rfl)
        have hf5 := hm.2.1 (by kernel_rfl)
        obtain ⟨v2, w2, hr, s2, s2', k2, o2⟩ := run_append_own2 (P := Try.prog) w' 56 56 52 i24 (.slice none 0 0) 24 Try.underlying56 hi24 hz24 hz241 hz242 rfl w.heap.size vs rowsq hB.2.2 _ [.slice (some ⟨gq, 0, none⟩) 512 512] (hf6.src Try.underlying56 (fun u hu => by simp at hu; subst hu; rfl)) (by rw [HLq.out]; simp only [List.length_cons, List.length_nil]; unfold maxLen; omega) (by rw [HLq.out]; simp only [List.length_cons, List.length_nil]; omega) (Nat.le_trans HW.out.size hB.1.size)
        obtain ⟨g2, o3, c2, e2, l1, l2⟩ := rowForm1 s2 (by rw [List.length_append]; simp only [List.length_cons, List.length_nil]; omega)
        rw [show (rowsq ++ [Value.slice (some ⟨gq, 0, none⟩) 512 512]).length = i + 1 from by rw [List.length_append, HLq.out]; rfl] at e2
        subst e2
        have hg5 := SubRow.lt hf5 gq rfl
        have hcase : (vs.ownBlock = some g2 ∨ wr1.heap.size ≤ g2) ∧ g2 ≠ gq := by
          rcases o2 with h | h | h
          · have h3 := h.own
            have h4 : vs.ownBlock = some g2 := h3
            exact ⟨.inl h4, fun e => by have := (HIq.out g2 h4).2; omega⟩
          · have h3 : g2 = w'.heap.size := by cases h; rfl
            have := hB.1.size
            exact ⟨.inr (by omega), by omega⟩
          · cases h
        exact gives_append (v := vs) (y := .slice (some ⟨bq, 0, none⟩) 1 1) rfl rfl rfl hr (hK (g2, o3, c2) _ ⟨k2.mono (fun _ _ e => ⟨rfl, e⟩), fun hB' => ⟨hB'.1.trans k2, k2.cell hB'.2.1 (fun e => HAq.out e), s2'⟩⟩ ⟨s2, hcase⟩)
      simp only [Act.put, List.setIfInBounds_toArray, List.set_cons_zero, List.set_cons_succ]
      refine text_nil fun w2 hB hF => ?_
      obtain ⟨gv, ov, cv⟩ := pq
      have hs7 : SubRow w2 w.heap.size (.slice (some ⟨gv, ov, none⟩) (i + 1) cv) (rowsq ++ [.slice (some ⟨gq, 0, none⟩) 512 512]) := hF.1.1
      have hc7 : (vs.ownBlock = some gv ∨ wr1.heap.size ≤ gv) ∧ gv ≠ gq := hF.1.2
      have hs5 : SubRow w2 wr1.heap.size (.slice (some ⟨gq, 0, none⟩) 512 512) (bytesV blank) := hF.2.2.1
      have HG2 : Hid (NewAt (w2.setCell ⟨w.heap.size, 1, none⟩ (.slice (some ⟨gv, ov, none⟩) (i + 1) cv)) w.heap.size ⟨w.heap.size, vn1, (.slice (some ⟨gv, ov, none⟩) (i + 1) cv), vc⟩ (i + 1) (i + 1) i) := Lib.hid (HG.out.growSynced HLq.out HRq.out hB.1 hs7 (hc7.1.elim (fun e => .inl e.symm) (fun e => .inr ⟨gv, rfl, e⟩)) hs5 (fun e => hc7.2 (by cases e; rfl)))
      have HW2 : Hid (Below w.heap.size w (w2.setCell ⟨w.heap.size, 1, none⟩ (.slice (some ⟨gv, ov, none⟩) (i + 1) cv))) := Lib.hid ((HW.out.trans (hB.1.below HW.out.size (fun k hk e => by have h3 := (HIq.out k e).1; omega))).setCell HG.out.low _)
      have cst : w2.cell? ⟨w.heap.size, 1, none⟩ = some vs := hB.2.1
      have fst : w2.frozen? ⟨w.heap.size, 1, none⟩ = false := free_in (hB.1.at HG.out.self HAq.out)
      clear hF hB hs7 hc7 hs5 HBk HIq HAq HRq HLq HG HW
      go_wp2
      refine Calm.normal ?_
      clear cst fst
      generalize w2.setCell ⟨w.heap.size, 1, none⟩ (.slice (some ⟨gv, ov, none⟩) (i + 1) cv) = wr2 at HG2 HW2 ⊢
      generalize (Value.slice (some ⟨gv, ov, none⟩) (i + 1) cv) = vs1 at HG2 ⊢
      have hch : SubRow wr2 w.heap.size vc (boolsV (fun _ => false) i) := HG2.out.chg
      have c2 : wr2.cell? ⟨w.heap.size, 2, none⟩ = some vc := cell_in HG2.out.self rfl
      have Hbl : Hid ((boolsV (fun _ => false) i).length = i) := Lib.hid (boolsV_len _ _)
      have hws := HW2.out.size
      have HAc : Hid (¬ vc.ownBlock = some w.heap.size) := Lib.hid (fun e => (HG2.out.ap3 w.heap.size e) rfl)
      have HIc : Hid (∀ k, vc.ownBlock = some k → w.heap.size ≤ k ∧ k < wr2.heap.size) := Lib.hid (fun k e => hch.lt k e)
      go_wp2_with (at_builtin; refine wpList_append_sub _ rfl _ _ 57 rfl 4 i1 (.bool false) 1 Try.underlying57 hi1 hz1 hz11 hz12 rfl w.heap.size _ (boolsV (fun _ => false) i) rfl (hch.below ((Below.refl _ _).alloc (Nat.le_refl _) _)) _ rfl [.bool false] (src_cell Try.underlying57 _ rfl _) (by rw [Hbl.out]; simp only [List.length_cons, List.length_nil]; unfold maxLen; omega) (by rw [Hbl.out]; simp only [List.length_cons, List.length_nil]; omega) (by simp; omega) ?_; intro v' w7 h7 hk7 hn7; (have cst : w7.cell? ⟨w.heap.size, 2, none⟩ = some vc := hk7.cell ((Keeps.of_below (S := fun _ => False) ((Below.refl _ wr2).alloc (Nat.le_refl _) _)).cell c2 (fun e => e)) HAc.out); (have fst : w7.frozen? ⟨w.heap.size, 2, none⟩ = false := free_in (hk7.at ((Keeps.of_below (S := fun _ => False) ((Below.refl _ wr2).alloc (Nat.le_refl _) _)).at HG2.out.self (fun e => e)) HAc.out)); (have HK7 : Hid (Keeps (fun k => vc.ownBlock = some k) (wr2.alloc (.cells #[.bool false] 4)) w7) := Lib.hid hk7); (obtain ⟨q2, cp2, ev, _, _⟩ := h7.form); (rw [show (boolsV (fun _ => false) i ++ [Value.bool false]).length = i + 1 from by rw [List.length_append, Hbl.out]; rfl] at ev); subst ev; have H7 := Lib.hid h7; (have HN7 : Hid ((Value.slice q2 (i + 1) cp2).ownBlock = vc.ownBlock ∨ (Value.slice q2 (i + 1) cp2).ownBlock = some (wr2.alloc (.cells #[.bool false] 4)).heap.size) := Lib.hid hn7); clear h7 hk7 hn7 c2)
      have hN3 := (HG2.out.below ((Below.refl _ wr2).alloc (Nat.le_refl _) (.cells #[.bool false] 4))).growMark HK7.out H7.out (HN7.out.imp id (fun e => ⟨_, e, by simp⟩))
      have hB3 := ((HW2.out.alloc hws (.cells #[.bool false] 4)).trans (HK7.out.below (by simp; omega) (fun k hk e => by have := (HIc.out k e).1; omega))).setCell (p := ⟨w.heap.size, 2, none⟩) (Nat.le_refl _) (.slice q2 (i + 1) cp2)
      have HN3 := Lib.hid hN3
      have HB3 := Lib.hid hB3
      clear hN3 hB3 hch
      go_roundw
      case rel => exact ⟨i + 1, ⟨w.heap.size, vn1, vs1, .slice q2 (i + 1) cp2⟩, by go_num, by omega, rfl, HN3.out, HB3.out⟩
      case measure => simp [intOf]; omega
    · obtain rfl : i = N := by omega
      have e1 : decide ((i : Int) < (i : Int)) = false := by simp
      go_wp2
      go_ret2
      exact ⟨⟨w.heap.size, vn, vs, vc⟩, rfl, HN.out.ref, Hb.out⟩
end
end Go.Proofs.Ytnficiohnhodiaa
