import Derived.Test.YtfcgegglipmdlaaScanC
namespace Go.Proofs.Ytfcgegglipmdlaa
open Go.RowKit
theorem ext_ext (s : ByteArray) (a n : Nat) : (s.extract a s.size).extract 0 n = ⟨((s.data.toList.drop a).take n).toArray⟩ := by
  apply ByteArray.ext; apply Array.ext'; rw [ext_take, ext_drop]
theorem post_ok {l : List UInt8} {w w1 : World} {ts : List Tk} {v : Value} {e : Ending} (hl : l.length ≤ 480) (h : toksR l 0 = .ok ts) (hB : Below w.heap.size w w1)
    (hown : w1.ownsRow w.heap.size 35 3 v ts.length (ts.flatMap Tk.cells)) (he : e = .returned (.tuple #[v, .nilIface])) : ToksPost l w e w1 := by
  have : toksT l = .ok ts := by unfold toksT; rw [if_neg (by omega), h]; rfl
  unfold ToksPost; rw [this]; exact ⟨hB, v, he, hown⟩
theorem post_bad {l : List UInt8} {w w1 : World} {k : Nat} {b : Nat} {e : Ending} (hl : l.length ≤ 480) (h : toksR l 0 = .error k) (hB : Below w.heap.size w w1)
    (hb : w.heap.size ≤ b) (hc : w1.heap[b]? = some (.cells #[.int .i64 7, .int .i64 k] 46 (0, 0))) (he : e = .returned (.tuple #[.slice none 0 0, .iface 43 (.pointer (some ⟨b, 0, none⟩))])) : ToksPost l w e w1 := by
  have : toksT l = .error (7, k) := by unfold toksT; rw [if_neg (by omega), h]; rfl
  unfold ToksPost; rw [this]; exact ⟨hB, b, he, hb, hc⟩
theorem post_long {l : List UInt8} {w w1 : World} {b : Nat} {e : Ending} (hl : 480 < l.length) (hB : Below w.heap.size w w1)
    (hb : w.heap.size ≤ b) (hc : w1.heap[b]? = some (.cells #[.int .i64 2, .int .i64 0] 46 (0, 0))) (he : e = .returned (.tuple #[.slice none 0 0, .iface 43 (.pointer (some ⟨b, 0, none⟩))])) : ToksPost l w e w1 := by
  have : toksT l = .error (2, 0) := by unfold toksT; rw [if_pos hl]
  unfold ToksPost; rw [this]; exact ⟨hB, b, he, hb, hc⟩
set_option maxHeartbeats 1000000 in
theorem tokens_long (s : ByteArray) (w : World) (hs : s.size ≤ maxLen) (hl : 480 < s.size) :
    Calls Try.prog 10 #[.string s] w fun e w' => ToksPost s.data.toList w e w' := by
  have hs0 := hs
  unfold maxLen at hs
  go_enter Try.func10, Try.ntmps10
  go_wp2
  go_ret2
  exact post_long (by simpa using hl) ((Below.refl _ _).alloc (Nat.le_refl _) _) (Nat.le_refl _) (heap_alloc_new _ _) rfl
def zTk : Value := .agg #[.int .i64 0, .string ⟨#[]⟩, .int .i64 0]
theorem infoTk : (Try.prog.info? 35).map (fun i => (i.zero, i.size, i.bytes)) = some (some zTk, 3, 32) := by kernel_rfl
theorem flat_len (ts : List Tk) : (ts.flatMap Tk.cells).length = ts.length * 3 := by
  induction ts with
  | nil => rfl
  | cons t ts ih => simp [Tk.cells, ih]; omega
theorem tk_one (t : Tk) : ∀ u ∈ t.cells, u.oneCell' = true := by
  intro u hu; simp [Tk.cells] at hu; rcases hu with rfl | rfl | rfl <;> rfl
theorem new_cells (W : World) (l : List Value) (e : TypeId) : ∀ (j : Nat) (u : Value), l[j]? = some u → (W.alloc (.cells l.toArray e)).cell? ((⟨W.heap.size, 0, none⟩ : Addr).add j) = some u := by
  intro j u h
  have e0 : (⟨W.heap.size, 0, none⟩ : Addr).add j = ⟨W.heap.size, j, none⟩ := by unfold Addr.add; split <;> simp_all
  rw [e0]
  have h2 := heap_alloc_new W (.cells l.toArray e (0, 0))
  unfold World.cell?
  simp only [h2]
  simpa using h
theorem new_cells' (W : World) (l : List Value) (e : TypeId) (b : Nat) (hb : W.heap.size = b) : ∀ (j : Nat) (u : Value), l[j]? = some u → (W.alloc (.cells l.toArray e)).cell? ((⟨b, 0, none⟩ : Addr).add j) = some u := by
  subst hb; exact new_cells W l e
theorem cell_in {W : World} {b o : Nat} {cs : Array Value} {e : TypeId} {fz : Nat × Nat} (h : W.heap[b]? = some (.cells cs e fz)) {u : Value} (hu : cs[o]? = some u) : W.cell? ⟨b, o, none⟩ = some u := by
  unfold World.cell?; simp only [h]; simpa using hu
theorem alloc_at (W : World) (o : Obj) (b : Nat) (hb : W.heap.size = b) : (W.alloc o).heap[b]? = some o := by subst hb; exact heap_alloc_new W o
theorem grown_of_below {W W' : World} (h : Below W.heap.size W W') : W.grownBy W' none := ⟨h.os, h.tape, h.output, h.size, fun k hk _ => h.block k hk⟩
theorem owns_below {W W' : World} {base e size n : Nat} {v : Value} {xs : List Value} (h : W.ownsRow base e size v n xs) (hb : Below W.heap.size W W') : W'.ownsRow base e size v n xs :=
  h.kept (grown_of_below hb) (by cases v.ownBlock <;> simp)
def TokInv (l : List UInt8) (k : Nat) (ts : List Tk) : Prop := toksR l 0 = (toksR (l.drop k) k).map (ts ++ ·)
theorem tokInv_start (l : List UInt8) : TokInv l 0 [] := by
  unfold TokInv; simp; cases toksR l 0 <;> rfl
theorem tokInv_next (l : List UInt8) (k a n : Nat) (c : Int) (ts : List Tk) (h : TokInv l k ts) (ha : a = k + skipN false (l.drop k)) (h1 : l.drop a ≠ []) (hn : tokN (l.drop a) = (c, n)) (h2 : c ≠ 0) :
    TokInv l (a + n) (ts ++ [⟨c, (l.drop a).take n, a⟩]) := by
  have e : (l.drop k).drop (skipN false (l.drop k)) = l.drop a := by rw [List.drop_drop, ha]
  have := toksR_tok (l.drop k) k (by rw [e]; exact h1) (by rw [e, hn]; exact h2)
  rw [e, hn] at this
  unfold TokInv at h ⊢
  rw [h, this, List.drop_drop, ← ha]
  cases toksR (l.drop (a + n)) (a + n) <;> simp [Except.map]
set_option maxHeartbeats 1000000 in
theorem tokens_short (s : ByteArray) (w : World) (hs : s.size ≤ 480) :
    Calls Try.prog 10 #[.string s] w fun e w' => ToksPost s.data.toList w e w' := by
  have hl : Hid (s.data.toList.length = s.size) := Lib.hid (by simp)
  go_enter Try.func10, Try.ntmps10
  go_wp2
  go_loopw [4, 5] (fun v i wr => ∃ (k : Nat) (ts : List Tk), k ≤ s.size ∧ ts.length ≤ k ∧ i = .int .i64 k ∧ wr.ownsRow w.heap.size 35 3 v ts.length (ts.flatMap Tk.cells) ∧ Below w.heap.size w wr ∧ TokInv s.data.toList k ts) (fun _ i _ => s.size - (intOf i).toNat)
  case atStart => exact ⟨0, [], Nat.zero_le _, Nat.le_refl _, rfl, World.ownsRow_nil _ _ _ _, Below.refl _ _, tokInv_start _⟩
  case round =>
    obtain ⟨k, ts, hk, htk, rfl, hown, hbel, HI⟩ := hrel
    have hsk := skipN_le false (s.data.toList.drop k)
    rw [List.length_drop, hl.out] at hsk
    generalize hj : skipN false (s.data.toList.drop k) = j at hsk
    have Hj := Lib.hid hj; clear hj
    by_cases hend : k + j = s.size
    · obtain ⟨i0, hi, hz0, hz1, hz2⟩ := info_parts infoTk
      have hbs := hbel.size
      go_wp2_with (first | (go_at_call 20; (with_reducible refine (skipped_any _ _ ?_).mono ?_); rotate_left 1; rintro e w' ⟨rfl, rfl⟩; simp only [ext_drop]; rw [Hj.out]) | (at_builtin; go_loud (refine wpList_append_own _ rfl _ _ 23 rfl w.heap.size 35 i0 zTk 3 32 Try.underlying23 hi hz0 hz1 hz2 rfl (by decide) _ ts.length (ts.flatMap Tk.cells) rfl (hown.alloc _) ⟨wr.heap.size, 0, none⟩ 1 1 (Tk.cells ⟨4, [], (k : Int) + j⟩) rfl rfl (new_cells _ _ _) (tk_one _) (by unfold maxLen; omega) (by omega) (by simp; omega) ?_); intro v' w1 hown1 hgr _))
      case refine_1 => unfold maxLen; rw [ext_size]; omega
      go_ret2
      have hHI : toksR s.data.toList 0 = .ok (ts ++ [⟨4, [], (k : Int) + j⟩]) := by
        have h1 := toksR_end (s.data.toList.drop k) k (by rw [Hj.out, List.drop_drop, hend]; apply List.drop_eq_nil_of_le; rw [hl.out]; omega)
        unfold TokInv at HI; rw [HI, h1, Hj.out]; rfl
      refine post_ok (by rw [hl.out]; exact hs) hHI ((hbel.alloc hbs _).grown hgr (by simp; omega) (fun b hb => (hown.lt b hb).1)) ?_ rfl
      rw [List.flatMap_append, List.length_append]; simpa using hown1
    · have hlt : k + j < s.size := by omega
      obtain ⟨i0, hi, hz0, hz1, hz2⟩ := info_parts infoTk
      have hbs := hbel.size
      have hne : s.data.toList.drop (k + j) ≠ [] := by
        intro h0; have := congrArg List.length h0; rw [List.length_drop, hl.out] at this; simp at this; omega
      obtain ⟨c, n, ht⟩ : ∃ c n, tokN (s.data.toList.drop (k + j)) = (c, n) := ⟨_, _, rfl⟩
      have Ht := Lib.hid ht
      by_cases hc0 : c = 0
      · clear ht
        subst hc0
        go_wp2_with (first | (go_at_call 20; (with_reducible refine (skipped_any _ _ ?_).mono ?_); rotate_left 1; rintro e w' ⟨rfl, rfl⟩; simp only [ext_drop]; rw [Hj.out]) | (go_at_call 21; (with_reducible refine (token_any _ _ ?_ ?_).mono ?_); rotate_left 2; rintro e w2 ⟨rfl, hb2⟩; simp only [ext_drop, ext_ext]; rw [Ht.out]; have hown2 := owns_below hown hb2; have hbs2 := hb2.size; clear hown))
        case refine_1 => rw [ext_size]; omega
        case refine_2 => unfold maxLen; rw [ext_size]; omega
        case refine_1 => unfold maxLen; rw [ext_size]; omega
        go_ret2
        have hHI : toksR s.data.toList 0 = .error (k + j) := by
          have h1 := toksR_bad (s.data.toList.drop k) k (by rw [Hj.out, List.drop_drop]; exact hne) (by rw [Hj.out, List.drop_drop, Ht.out])
          unfold TokInv at HI; rw [HI, h1, Hj.out]; rfl
        exact post_bad (b := w2.heap.size + 1) (by rw [hl.out]; exact hs) hHI (((hbel.trans (hb2.mono hbs)).alloc (by omega) _).alloc (by simp; omega) _) (by omega) (alloc_at _ _ _ (by simp)) rfl
      · have hlen := tokN_len (s.data.toList.drop (k + j)) (by rw [List.length_drop, hl.out]; omega) (by rw [ht]; exact hc0)
        rw [ht, List.length_drop, hl.out] at hlen
        simp only at hlen
        clear ht
        go_wp2_with (first | (go_at_call 20; (with_reducible refine (skipped_any _ _ ?_).mono ?_); rotate_left 1; rintro e w' ⟨rfl, rfl⟩; simp only [ext_drop]; rw [Hj.out]) | (go_at_call 21; (with_reducible refine (token_any _ _ ?_ ?_).mono ?_); rotate_left 2; rintro e w2 ⟨rfl, hb2⟩; simp only [ext_drop, ext_ext]; rw [Ht.out]; have hown2 := owns_below hown hb2; have hbs2 := hb2.size; clear hown) | (at_builtin; go_loud (refine wpList_append_own _ rfl _ _ 23 rfl w.heap.size 35 i0 zTk 3 32 Try.underlying23 hi hz0 hz1 hz2 rfl (by decide) _ ts.length (ts.flatMap Tk.cells) rfl ((hown2.alloc _).alloc _) ⟨w2.heap.size + 1, 0, none⟩ 1 1 (Tk.cells ⟨c, (s.data.toList.drop (k + j)).take n, (k : Int) + j⟩) rfl rfl (new_cells' _ _ _ _ (by simp)) (tk_one _) (by unfold maxLen; omega) (by omega) (by simp; omega) ?_); intro v' w1 hown1 hgr _; go_loud (have hc6 := cell_in (o := 1) ((hgr.block w2.heap.size (by simp; omega) (fun hb => by have := (hown2.lt _ hb.symm).2; omega)).trans ((Below.heap_alloc _ _ _ (by simp)).trans (heap_alloc_new _ _))) rfl)))
        case refine_1 => rw [ext_size]; omega
        case refine_2 => unfold maxLen; rw [ext_size]; omega
        case refine_1 => unfold maxLen; rw [ext_size]; omega
        go_roundw
        case rel =>
          refine ⟨k + j + n, ts ++ [⟨c, (s.data.toList.drop (k + j)).take n, (k : Int) + j⟩], by omega, by simp; omega, by go_num, ?_, ?_, ?_⟩
          · rw [List.flatMap_append, List.length_append]; simpa using hown1
          · exact (((hbel.trans (hb2.mono hbs)).alloc (by omega) _).alloc (by simp; omega) _).grown hgr (by simp; omega) (fun b hb => (hown2.lt b hb).1)
          · exact tokInv_next _ k (k + j) n c ts HI (by rw [Hj.out]) hne Ht.out hc0
        case measure => simp [intOf]; omega
end Go.Proofs.Ytfcgegglipmdlaa
