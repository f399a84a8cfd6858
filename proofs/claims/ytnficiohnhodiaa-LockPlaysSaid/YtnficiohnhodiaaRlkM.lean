import Derived.Test.YtnficiohnhodiaaRlkL
/-
  LockPlays: the law's walk (printed by mkRlkM.py).
-/
namespace Go.Proofs.Ytnficiohnhodiaa.Pre
open Go.RowKit
set_option maxRecDepth 100000 in
set_option maxHeartbeats 8000000 in
theorem lockPlays_all (a : Option Addr) (len cap : Nat) (zs : List OpL) (w : World) (hz : IsOps w a len cap zs) : Calls Try.prog 3 #[.slice a len cap] w fun e w' => e = .returned (.bool true) ∧ Below w.heap.size w w' := by
  have hal := alive_any w
  have Hz := Lib.hid hz
  have Hl := Lib.hid (ops_len hz)
  clear hz
  by_cases hlen : 400 < len
  · have hlI : (400 : Int) < (len : Int) := by omega
    go_enter Try.func3, Try.ntmps3
    go_wp2_with (go_at_call 6; (with_reducible refine hal.mono ?_); rintro _ w1 ⟨rfl, b1⟩; clear hal)
    go_ret
    exact ⟨by simp, b1⟩
  · have hlI : ¬ (400 : Int) < (len : Int) := by omega
    go_enter Try.func3, Try.ntmps3
    go_wp2_with (first
      | (go_at_call 6; (with_reducible refine hal.mono ?_); rintro _ w1 ⟨rfl, b1⟩; clear hal; have hnw := new_tb w w1 b1; clear b1)
      | (go_at_call 7; (with_reducible refine hnw.mono ?_); rintro _ w2 ⟨p, mp, mw, rfl, h2, b2, f2⟩; clear hnw; have H2 := Lib.hid (St.start h2 29 rfl); clear h2 b2 f2))
    generalize w2.alloc (.cells #[.slice none 0 0, .slice none 0 0] 29) = w3 at H2 ⊢
    generalize w2.heap.size = b at H2 ⊢
    go_loopw [17] (fun i wr => ∃ (k : Nat) (t : LT) (vl vw : Value) (ls ws : List Lk), k ≤ len ∧ i = .int .i64 k ∧ St w wr p mp mw t b vl vw ls ws k) (fun i _ => len - (intOf i).toNat)
    case atStart => exact ⟨0, _, _, _, _, _, Nat.zero_le _, rfl, H2.out⟩
    case round =>
      obtain ⟨k, t, vl, vw, ls, ws, hk, rfl, hS⟩ := hrel
      clear H2
      by_cases hlt : k < len
      · obtain ⟨o, ho⟩ : ∃ o, zs[k]? = some o := ⟨_, List.getElem?_eq_getElem (by rw [Hl.out]; exact hlt)⟩
        obtain ⟨x, rfl⟩ := ops_some Hz.out ho
        obtain ⟨c0, c1, c2, c3⟩ := ops_at Hz.out hS.both.tb.bel k o ho
        obtain ⟨wf0, wf1, wf2, wf3⟩ := wf_ops Hz.out ho
        have Hwf := Lib.hid wf1
        have hal : Below wr.heap.size wr (wr.alloc (.cells #[.int .i64 o.kind, .int .i64 o.txn, .int .i64 o.page, .int .i64 o.mode] 31)) := (Below.refl _ _).alloc (Nat.le_refl _) _
        have HS1 := Lib.hid (hS.below hal)
        have Hlt : Hid (∀ k, LTFoot p mp mw t k ∨ TFoot b vl vw k → k < wr.heap.size) := Lib.hid hS.lt
        have hhp := heap_alloc_new wr (.cells #[.int .i64 o.kind, .int .i64 o.txn, .int .i64 o.page, .int .i64 o.mode] 31)
        have HX : Hid (BoxL wr.heap.size o (wr.alloc (.cells #[.int .i64 o.kind, .int .i64 o.txn, .int .i64 o.page, .int .i64 o.mode] 31))) := Lib.hid ⟨cell_in hhp rfl, cell_in hhp rfl, cell_in hhp rfl, cell_in hhp rfl⟩
        have hW : wr.heap.size < (wr.alloc (.cells #[.int .i64 o.kind, .int .i64 o.txn, .int .i64 o.page, .int .i64 o.mode] 31)).heap.size := by simp
        clear ho hS hal hhp wf0 wf1 wf2 wf3
        go_upto_region 9 with fail
        generalize wr.alloc (.cells #[.int .i64 o.kind, .int .i64 o.txn, .int .i64 o.page, .int .i64 o.mode] 31) = W at HS1 HX hW ⊢
        clear c0 c1 c2 c3
        generalize wr.heap.size = bx at HX Hlt hW ⊢
        by_cases hkd : o.kind = 1
        · have c0 := HX.out.c0
          rw [hkd] at c0
          go_upto_region 10 with fail
          clear c0
          have hsr := (HS1.out.sim.release HS1.out.good o.txn).2
          have Hsr := Lib.hid hsr
          have hcnt := HS1.out.sim.cnt
          have hls1 : ls.length ≤ 256 := by have h1 := HS1.out.good.le; rw [hcnt] at h1; omega
          have hws1 : ws.length ≤ 1000000 := by have h1 := HS1.out.wlen; omega
          have Hfit := Lib.hid (HS1.out.good.fit (by omega))
          have Hsub : Hid (∀ k, LTFoot p mp mw (t.release o.txn) k → LTFoot p mp mw t k) := Lib.hid (fun k e => release_foot k e)
          have HbB : Hid (w.heap.size ≤ W.heap.size) := Lib.hid HS1.out.both.tb.bel.size
          clear hsr hcnt
          refine wp_region_textP [3, 7] (fun m k => (m = 3 ∧ LTFoot p mp mw t k) ∨ (m = 7 ∧ TFoot b vl vw k)) (fun w' => Keeps (fun k => LTFoot p mp mw t k ∨ TFoot b vl vw k) W w' ∧ BoxL bx o w') [⟨3, fun w' => LTAt w' p mp mw t⟩, ⟨7, fun w' => TabAt w' w.heap.size b vl vw ls ws⟩] 9 (by kernel_rfl) ?_ ?_ (by kernel_rfl) ⟨(Keeps.refl _ _).drew, HX.out.keeps ((Keeps.refl (fun _ => False) W).drew) (fun e => e)⟩ ?_ ?_
          · intro q hq; simp at hq; rcases hq with rfl | rfl <;> rfl
          · intro q hq m wa wb hm hs hk
            simp at hq
            rcases hq with rfl | rfl
            · exact LTAt.keeps hs hk (fun k hk' h => h.elim (fun h => hm h.1) (fun h => HS1.out.both.off k hk' h.2))
            · exact TabAt.keeps hs hk (fun k hk' h => h.elim (fun h => HS1.out.both.off k h.2 hk') (fun h => hm h.1))
          · intro q hq; simp at hq
            rcases hq with rfl | rfl
            · exact LTAt.keeps HS1.out.both.tb.lay ((Keeps.refl (fun _ => False) W).drew) (fun _ _ e => e)
            · exact TabAt.keeps HS1.out.both.tab ((Keeps.refl (fun _ => False) W).drew) (fun _ _ e => e)
          simp only [List.take_succ_cons, List.take_zero, List.drop_succ_cons, List.drop_zero]
          repeat (first | (refine text_pure (v := ?_) (by rfl) (fun w' => ?_) ?_; rotate_left; (focus ( go_simp; first | done | with_reducible rfl)); simp only [Act.put, List.setIfInBounds_toArray, List.set_cons_zero, List.set_cons_succ]) | (refine text_skip (by rfl) ?_; simp only [Act.put, List.setIfInBounds_toArray, List.set_cons_zero, List.set_cons_succ]))
          (refine text_read (v := ?_) (by rfl) (by kernel_rfl) (fun w' hB hm => ?_) ?_; rotate_left; (focus (have hcA := hB.1.2.c1; (try clear hm); (try clear hB); go_simp; first | done | with_reducible rfl)); simp only [Act.put, List.setIfInBounds_toArray, List.set_cons_zero, List.set_cons_succ])
          refine text_callk (f := 8) (args := #[.pointer (some ⟨p, 0, none⟩), .int .i64 o.txn]) (.int .i64 (t.locksOf o.txn)) (fun w' => LTAt w' p mp mw (t.release o.txn)) (by rfl) (by kernel_rfl) (by kernel_rfl)
            (keepKStable fun m wa wb hm h kk => LTAt.keeps h kk (fun k hk' e => e.elim (fun e => hm e.1) (fun e => HS1.out.both.off k (Hsub.out k hk') e.2))) (fun w' => ?_) (fun w' hB hm => ?_) ?_
          · go_simp
          · refine (release_any w' p mp mw t o.txn (hB.2 ⟨3, fun w' => LTAt w' p mp mw t⟩ (by show _ ∈ [_, _]; simp) rfl) Hfit.out).mono fun e w'' ⟨he, h1, h2, _⟩ => ?_
            exact ⟨he, ⟨h2.mono (fun k _ e => .inl ⟨rfl, e⟩), fun h => ⟨h.1.trans (h2.mono (fun k _ e => .inl e)), h.2.keeps h2 (fun e => Nat.lt_irrefl _ (Hlt.out _ (.inl e)))⟩⟩, h1⟩
          simp only [Act.put, List.setIfInBounds_toArray, List.set_cons_zero, List.set_cons_succ]
          repeat (first | (refine text_pure (v := ?_) (by rfl) (fun w' => ?_) ?_; rotate_left; (focus ( go_simp; first | done | with_reducible rfl)); simp only [Act.put, List.setIfInBounds_toArray, List.set_cons_zero, List.set_cons_succ]) | (refine text_skip (by rfl) ?_; simp only [Act.put, List.setIfInBounds_toArray, List.set_cons_zero, List.set_cons_succ]))
          (refine text_read (v := ?_) (by rfl) (by kernel_rfl) (fun w' hB hm => ?_) ?_; rotate_left; (focus (have hcA := hB.1.2.c1; (try clear hm); (try clear hB); go_simp; first | done | with_reducible rfl)); simp only [Act.put, List.setIfInBounds_toArray, List.set_cons_zero, List.set_cons_succ])
          refine text_callk (f := 9) (args := #[.pointer (some ⟨b, 0, none⟩), .int .i64 o.txn]) (.int .i64 (t.locksOf o.txn)) (fun w' => ∃ vl' vw', TabAt w' w.heap.size b vl' vw' (forgetR ls o.txn) (forgetR ws o.txn) ∧ ∀ k, TFoot b vl' vw' k → TFoot b vl vw k ∨ W.heap.size ≤ k) (by rfl) (by kernel_rfl) (by kernel_rfl)
            (keepKStable fun m wa wb hm h kk => by
              obtain ⟨vl', vw', h1, h2⟩ := h
              exact ⟨vl', vw', h1.keeps kk (fun k hk' e => e.elim (fun e => (h2 k hk').elim (fun e2 => HS1.out.both.off k e.2 e2) (fun e2 => by have := Hlt.out k (.inl e.2); omega)) (fun e => hm e.1)), h2⟩) (fun w' => ?_) (fun w' hB hm => ?_) ?_
          · go_simp
          · refine (rrelease_any (hB.2 ⟨7, fun w' => TabAt w' w.heap.size b vl vw ls ws⟩ (by show _ ∈ [_, _]; simp) rfl) o.txn (by omega) hws1 (Nat.le_trans HbB.out (Keeps.size hB.1.1))).mono fun e w'' ⟨he, vl', vw', h1, h2, h3, h4⟩ => ?_
            rw [← Hsr.out] at he
            have hs := Keeps.size hB.1.1
            refine ⟨he, ⟨h2.mono (fun k _ e => .inr ⟨rfl, .inl e⟩), fun h => ⟨h.1.trans (h2.mono (fun k _ e => .inr (.inl e))), h.2.keeps h2 (fun e => Nat.lt_irrefl _ (Hlt.out _ (.inr (.inl e))))⟩⟩, vl', vw', h1, fun k e => ?_⟩
            rcases e with e | e | e
            · exact .inl (.inl e)
            · have := h3 k e; exact .inr (by omega)
            · have := h4 k e; exact .inr (by omega)
          simp only [Act.put, List.setIfInBounds_toArray, List.set_cons_zero, List.set_cons_succ]
          repeat (first | (refine text_pure (v := ?_) (by rfl) (fun w' => ?_) ?_; rotate_left; (focus ( go_simp; first | done | with_reducible rfl)); simp only [Act.put, List.setIfInBounds_toArray, List.set_cons_zero, List.set_cons_succ]) | (refine text_skip (by rfl) ?_; simp only [Act.put, List.setIfInBounds_toArray, List.set_cons_zero, List.set_cons_succ]))
          refine text_nil fun V hB hF => ?_
          have hf7 : ∃ vl' vw', TabAt V w.heap.size b vl' vw' (forgetR ls o.txn) (forgetR ws o.txn) ∧ ∀ k, TFoot b vl' vw' k → TFoot b vl vw k ∨ W.heap.size ≤ k := hF.1
          have hf3 : LTAt V p mp mw (t.release o.txn) := hF.2.1
          obtain ⟨vl2, vw2, ht, hft⟩ := hf7
          have HS8 : Hid (St w V p mp mw (t.release o.txn) b vl2 vw2 (forgetR ls o.txn) (forgetR ws o.txn) (k + 1)) := Lib.hid (HS1.out.join hB.1 hf3 (fun k e => .inl (Hsub.out k e)) ht (HS1.out.sim.release HS1.out.good o.txn).1 ((HS1.out.good.release o.txn).more (Nat.le_succ _)) (HS1.out.wok.forget o.txn) (Nat.le_trans (List.length_filter_le _ _) (Nat.le_succ_of_le HS1.out.wlen)))
          have HX8 : Hid (BoxL bx o V) := Lib.hid hB.2
          clear hF hB hf3 ht hft hls1 hws1
          generalize t.release o.txn = t2 at HS8
          generalize forgetR ls o.txn = ls2 at HS8
          generalize forgetR ws o.txn = ws2 at HS8
          go_wp2
          refine Calm.normal ?_
          go_upto_region 14 with fail
          have hcnt := HS8.out.sim.cnt
          obtain ⟨q2, cc2, e2, _, _⟩ := HS8.out.both.tab.locks.form
          have E2 := Lib.hid e2
          have hls : ls2.length ≤ 256 := by have h1 := HS8.out.good.le; rw [hcnt] at h1; omega
          have hws : ws2.length ≤ 1000000 := by have h1 := HS8.out.wlen; omega
          obtain ⟨N1, hN1⟩ : ∃ N, (holdersR ls2 o.page).length = N := ⟨_, rfl⟩
          obtain ⟨N2, hN2⟩ : ∃ N, (forR ls2 ws2 o.txn).length = N := ⟨_, rfl⟩
          have hN1l : N1 ≤ 256 := by rw [← hN1]; exact Nat.le_trans (foldR_len _ _) hls
          have hN2l : N2 ≤ 256 := by rw [← hN2]; exact Nat.le_trans (forR_len _ _ _) hls
          have HN1 := Lib.hid hN1
          have HN2 := Lib.hid hN2
          have HB8 : Hid (∀ w', Keeps (fun _ => False) V w' → BothL w w' p mp mw t2 b vl2 vw2 ls2 ws2) := Lib.hid (fun w' h => HS8.out.both.below (h.below (Nat.le_refl _) (fun _ _ e => e)))
          clear hcnt e2 hN1 hN2
          refine wp_region_textP [1, 14, 20, 27, 31, 32, 39, 43, 44] (fun _ _ => False) (fun w' => Keeps (fun _ => False) V w') [] 47 (by kernel_rfl) (fun q hq => by simp at hq) (fun q hq => by simp at hq) (by kernel_rfl) ((Keeps.refl _ _).drew) (fun q hq => by simp at hq) ?_
          simp only [List.take_succ_cons, List.take_zero, List.drop_succ_cons, List.drop_zero]
          repeat (first | (refine text_pure (v := ?_) (by rfl) (fun w' => ?_) ?_; rotate_left; (focus ( go_simp; first | done | with_reducible rfl)); simp only [Act.put, List.setIfInBounds_toArray, List.set_cons_zero, List.set_cons_succ]) | (refine text_skip (by rfl) ?_; simp only [Act.put, List.setIfInBounds_toArray, List.set_cons_zero, List.set_cons_succ]))
          refine text_callk (f := 13) (args := #[.pointer (some ⟨p, 0, none⟩)]) (.int .i64 (ls2.length : Int)) (fun _ => True) (by rfl) (by kernel_rfl) (by kernel_rfl) (fun _ _ _ _ _ _ => trivial) (fun w' => ?_) (fun w' hB hm => ?_) ?_
          · go_simp
          · have hh := len_any w' p mp mw t2 (HB8.out w' hB.1).tb.lay
            rw [HS8.out.sim.cnt] at hh
            refine (hh).mono fun e w'' ⟨he, hw⟩ => ?_
            subst hw
            exact ⟨he, ⟨Keeps.refl _ _, id⟩, trivial⟩
          simp only [Act.put, List.setIfInBounds_toArray, List.set_cons_zero, List.set_cons_succ]
          repeat (first | (refine text_pure (v := ?_) (by rfl) (fun w' => ?_) ?_; rotate_left; (focus ( go_simp; first | done | with_reducible rfl)); simp only [Act.put, List.setIfInBounds_toArray, List.set_cons_zero, List.set_cons_succ]) | (refine text_skip (by rfl) ?_; simp only [Act.put, List.setIfInBounds_toArray, List.set_cons_zero, List.set_cons_succ]))
          (refine text_read (v := ?_) (by rfl) (by kernel_rfl) (fun w' hB hm => ?_) ?_; rotate_left; (focus (have hcA := (HB8.out w' hB.1).tab.c0; rw [E2.out] at hcA; (try clear hm); (try clear hB); go_simp; first | done | with_reducible rfl)); simp only [Act.put, List.setIfInBounds_toArray, List.set_cons_zero, List.set_cons_succ])
          repeat (first | (refine text_pure (v := ?_) (by rfl) (fun w' => ?_) ?_; rotate_left; (focus ( go_simp; first | done | with_reducible rfl)); simp only [Act.put, List.setIfInBounds_toArray, List.set_cons_zero, List.set_cons_succ]) | (refine text_skip (by rfl) ?_; simp only [Act.put, List.setIfInBounds_toArray, List.set_cons_zero, List.set_cons_succ]))
          (refine text_read (v := ?_) (by rfl) (by kernel_rfl) (fun w' hB hm => ?_) ?_; rotate_left; (focus (have hcA := (HX8.out.keeps hB.1 (fun e => e)).c1; (try clear hm); (try clear hB); go_simp; first | done | with_reducible rfl)); simp only [Act.put, List.setIfInBounds_toArray, List.set_cons_zero, List.set_cons_succ])
          repeat (first | (refine text_pure (v := ?_) (by rfl) (fun w' => ?_) ?_; rotate_left; (focus ( go_simp; first | done | with_reducible rfl)); simp only [Act.put, List.setIfInBounds_toArray, List.set_cons_zero, List.set_cons_succ]) | (refine text_skip (by rfl) ?_; simp only [Act.put, List.setIfInBounds_toArray, List.set_cons_zero, List.set_cons_succ]))
          (refine text_read (v := ?_) (by rfl) (by kernel_rfl) (fun w' hB hm => ?_) ?_; rotate_left; (focus (have hcA := (HX8.out.keeps hB.1 (fun e => e)).c2; (try clear hm); (try clear hB); go_simp; first | done | with_reducible rfl)); simp only [Act.put, List.setIfInBounds_toArray, List.set_cons_zero, List.set_cons_succ])
          repeat (first | (refine text_pure (v := ?_) (by rfl) (fun w' => ?_) ?_; rotate_left; (focus ( go_simp; first | done | with_reducible rfl)); simp only [Act.put, List.setIfInBounds_toArray, List.set_cons_zero, List.set_cons_succ]) | (refine text_skip (by rfl) ?_; simp only [Act.put, List.setIfInBounds_toArray, List.set_cons_zero, List.set_cons_succ]))
          refine text_callk (f := 14) (args := #[.pointer (some ⟨p, 0, none⟩), .int .i64 o.txn, .int .i64 o.page]) (.int .i64 (holdsR ls2 o.txn o.page)) (fun _ => True) (by rfl) (by kernel_rfl) (by kernel_rfl) (fun _ _ _ _ _ _ => trivial) (fun w' => ?_) (fun w' hB hm => ?_) ?_
          · go_simp
          · have hh := holds_any w' p mp mw t2 o.txn o.page (HB8.out w' hB.1).tb.lay
            rw [HS8.out.sim.holds] at hh
            refine (hh).mono fun e w'' ⟨he, hw⟩ => ?_
            subst hw
            exact ⟨he, ⟨Keeps.refl _ _, id⟩, trivial⟩
          simp only [Act.put, List.setIfInBounds_toArray, List.set_cons_zero, List.set_cons_succ]
          repeat (first | (refine text_pure (v := ?_) (by rfl) (fun w' => ?_) ?_; rotate_left; (focus ( go_simp; first | done | with_reducible rfl)); simp only [Act.put, List.setIfInBounds_toArray, List.set_cons_zero, List.set_cons_succ]) | (refine text_skip (by rfl) ?_; simp only [Act.put, List.setIfInBounds_toArray, List.set_cons_zero, List.set_cons_succ]))
          (refine text_read (v := ?_) (by rfl) (by kernel_rfl) (fun w' hB hm => ?_) ?_; rotate_left; (focus (have hcA := (HX8.out.keeps hB.1 (fun e => e)).c1; (try clear hm); (try clear hB); go_simp; first | done | with_reducible rfl)); simp only [Act.put, List.setIfInBounds_toArray, List.set_cons_zero, List.set_cons_succ])
          repeat (first | (refine text_pure (v := ?_) (by rfl) (fun w' => ?_) ?_; rotate_left; (focus ( go_simp; first | done | with_reducible rfl)); simp only [Act.put, List.setIfInBounds_toArray, List.set_cons_zero, List.set_cons_succ]) | (refine text_skip (by rfl) ?_; simp only [Act.put, List.setIfInBounds_toArray, List.set_cons_zero, List.set_cons_succ]))
          (refine text_read (v := ?_) (by rfl) (by kernel_rfl) (fun w' hB hm => ?_) ?_; rotate_left; (focus (have hcA := (HX8.out.keeps hB.1 (fun e => e)).c2; (try clear hm); (try clear hB); go_simp; first | done | with_reducible rfl)); simp only [Act.put, List.setIfInBounds_toArray, List.set_cons_zero, List.set_cons_succ])
          repeat (first | (refine text_pure (v := ?_) (by rfl) (fun w' => ?_) ?_; rotate_left; (focus ( go_simp; first | done | with_reducible rfl)); simp only [Act.put, List.setIfInBounds_toArray, List.set_cons_zero, List.set_cons_succ]) | (refine text_skip (by rfl) ?_; simp only [Act.put, List.setIfInBounds_toArray, List.set_cons_zero, List.set_cons_succ]))
          refine text_callk (f := 15) (args := #[.pointer (some ⟨b, 0, none⟩), .int .i64 o.txn, .int .i64 o.page]) (.int .i64 (holdsR ls2 o.txn o.page)) (fun _ => True) (by rfl) (by kernel_rfl) (by kernel_rfl) (fun _ _ _ _ _ _ => trivial) (fun w' => ?_) (fun w' hB hm => ?_) ?_
          · go_simp
          · refine (rholds_any (HB8.out w' hB.1).tab o.txn o.page).mono fun e w'' ⟨he, hw⟩ => ?_
            subst hw
            exact ⟨he, ⟨Keeps.refl _ _, id⟩, trivial⟩
          simp only [Act.put, List.setIfInBounds_toArray, List.set_cons_zero, List.set_cons_succ]
          repeat (first | (refine text_pure (v := ?_) (by rfl) (fun w' => ?_) ?_; rotate_left; (focus ( go_simp; first | done | with_reducible rfl)); simp only [Act.put, List.setIfInBounds_toArray, List.set_cons_zero, List.set_cons_succ]) | (refine text_skip (by rfl) ?_; simp only [Act.put, List.setIfInBounds_toArray, List.set_cons_zero, List.set_cons_succ]))
          (refine text_read (v := ?_) (by rfl) (by kernel_rfl) (fun w' hB hm => ?_) ?_; rotate_left; (focus (have hcA := (HX8.out.keeps hB.1 (fun e => e)).c2; (try clear hm); (try clear hB); go_simp; first | done | with_reducible rfl)); simp only [Act.put, List.setIfInBounds_toArray, List.set_cons_zero, List.set_cons_succ])
          repeat (first | (refine text_pure (v := ?_) (by rfl) (fun w' => ?_) ?_; rotate_left; (focus ( go_simp; first | done | with_reducible rfl)); simp only [Act.put, List.setIfInBounds_toArray, List.set_cons_zero, List.set_cons_succ]) | (refine text_skip (by rfl) ?_; simp only [Act.put, List.setIfInBounds_toArray, List.set_cons_zero, List.set_cons_succ]))
          refine text_call (f := 17) (args := #[.pointer (some ⟨p, 0, none⟩), .int .i64 o.page]) (fun x : Option Addr × Nat => .slice x.1 N1 x.2) (fun x w' => SubRow w' V.heap.size (.slice x.1 N1 x.2) (intsV (holdersR ls2 o.page))) (by rfl) (by kernel_rfl) (by kernel_rfl) (by kernel_rfl) sliceL_inj
            (fun x => keepKStable fun m wa wb hm h kk => h.block_keeps kk (fun k' e e' => e')) (fun w' => ?_) (fun w' hB hm => ?_) (fun x27 => ?_)
          · go_simp
          · refine ((holders_any w' p mp mw t2 o.page (HB8.out w' hB.1).tb.lay (HS8.out.good.fit (by omega)) HS8.out.good.wfs).mono fun e w'' ⟨v, he, ho, hb⟩ => show ∃ v, e = Ending.returned v ∧ SubRow w'' w'.heap.size v (intsV (holdersR ls2 o.page)) ∧ Below w'.heap.size w' w'' from ⟨v, he, by rw [HS8.out.sim.holders HS8.out.good]; exact SubRow.of_owns ho, hb⟩).mono fun e w'' ⟨v, he, ho, hb⟩ => ?_
            obtain ⟨q, c, rfl, _⟩ := SubRow.intForm ho
            rw [HN1.out] at he ho
            exact ⟨(q, c), he, ⟨Keeps.of_below hb, fun h => h.trans (Keeps.of_below hb)⟩, SubRow.weaken ho hB.1.size⟩
          simp only [Act.put, List.setIfInBounds_toArray, List.set_cons_zero, List.set_cons_succ]
          repeat (first | (refine text_pure (v := ?_) (by rfl) (fun w' => ?_) ?_; rotate_left; (focus ( go_simp; first | done | with_reducible rfl)); simp only [Act.put, List.setIfInBounds_toArray, List.set_cons_zero, List.set_cons_succ]) | (refine text_skip (by rfl) ?_; simp only [Act.put, List.setIfInBounds_toArray, List.set_cons_zero, List.set_cons_succ]))
          (refine text_read (v := ?_) (by rfl) (by kernel_rfl) (fun w' hB hm => ?_) ?_; rotate_left; (focus (have hcA := (HX8.out.keeps hB.1 (fun e => e)).c2; (try clear hm); (try clear hB); go_simp; first | done | with_reducible rfl)); simp only [Act.put, List.setIfInBounds_toArray, List.set_cons_zero, List.set_cons_succ])
          repeat (first | (refine text_pure (v := ?_) (by rfl) (fun w' => ?_) ?_; rotate_left; (focus ( go_simp; first | done | with_reducible rfl)); simp only [Act.put, List.setIfInBounds_toArray, List.set_cons_zero, List.set_cons_succ]) | (refine text_skip (by rfl) ?_; simp only [Act.put, List.setIfInBounds_toArray, List.set_cons_zero, List.set_cons_succ]))
          refine text_call (f := 18) (args := #[.pointer (some ⟨b, 0, none⟩), .int .i64 o.page]) (fun x : Option Addr × Nat => .slice x.1 N1 x.2) (fun x w' => SubRow w' V.heap.size (.slice x.1 N1 x.2) (intsV (holdersR ls2 o.page))) (by rfl) (by kernel_rfl) (by kernel_rfl) (by kernel_rfl) sliceL_inj
            (fun x => keepKStable fun m wa wb hm h kk => h.block_keeps kk (fun k' e e' => e')) (fun w' => ?_) (fun w' hB hm => ?_) (fun x31 => ?_)
          · go_simp
          · refine (rholders_any (HB8.out w' hB.1).tab o.page (by omega)).mono fun e w'' ⟨v, he, ho, hb⟩ => ?_
            obtain ⟨q, c, rfl, _⟩ := SubRow.intForm ho
            rw [HN1.out] at he ho
            exact ⟨(q, c), he, ⟨Keeps.of_below hb, fun h => h.trans (Keeps.of_below hb)⟩, SubRow.weaken ho hB.1.size⟩
          simp only [Act.put, List.setIfInBounds_toArray, List.set_cons_zero, List.set_cons_succ]
          repeat (first | (refine text_pure (v := ?_) (by rfl) (fun w' => ?_) ?_; rotate_left; (focus ( go_simp; first | done | with_reducible rfl)); simp only [Act.put, List.setIfInBounds_toArray, List.set_cons_zero, List.set_cons_succ]) | (refine text_skip (by rfl) ?_; simp only [Act.put, List.setIfInBounds_toArray, List.set_cons_zero, List.set_cons_succ]))
          refine text_callk (f := 16) (args := #[.slice x27.1 N1 x27.2, .slice x31.1 N1 x31.2]) (.bool true) (fun _ => True) (by rfl) (by kernel_rfl) (by kernel_rfl) (fun _ _ _ _ _ _ => trivial) (fun w' => ?_) (fun w' hB hm => ?_) ?_
          · go_simp
          · refine (ints_same w' _ _ _ _ (holdersR ls2 o.page) (by first | exact hm.2.1 (by kernel_rfl)) (by first | exact hm.1 (by kernel_rfl)) (by rw [HN1.out]; omega)).mono fun e w'' ⟨he, n, hw⟩ => ?_
            subst hw
            exact ⟨he, ⟨(Keeps.refl _ _).drewN n, fun h => h.drewN n⟩, trivial⟩
          simp only [Act.put, List.setIfInBounds_toArray, List.set_cons_zero, List.set_cons_succ]
          repeat (first | (refine text_pure (v := ?_) (by rfl) (fun w' => ?_) ?_; rotate_left; (focus ( go_simp; first | done | with_reducible rfl)); simp only [Act.put, List.setIfInBounds_toArray, List.set_cons_zero, List.set_cons_succ]) | (refine text_skip (by rfl) ?_; simp only [Act.put, List.setIfInBounds_toArray, List.set_cons_zero, List.set_cons_succ]))
          (refine text_read (v := ?_) (by rfl) (by kernel_rfl) (fun w' hB hm => ?_) ?_; rotate_left; (focus (have hcA := (HX8.out.keeps hB.1 (fun e => e)).c1; (try clear hm); (try clear hB); go_simp; first | done | with_reducible rfl)); simp only [Act.put, List.setIfInBounds_toArray, List.set_cons_zero, List.set_cons_succ])
          repeat (first | (refine text_pure (v := ?_) (by rfl) (fun w' => ?_) ?_; rotate_left; (focus ( go_simp; first | done | with_reducible rfl)); simp only [Act.put, List.setIfInBounds_toArray, List.set_cons_zero, List.set_cons_succ]) | (refine text_skip (by rfl) ?_; simp only [Act.put, List.setIfInBounds_toArray, List.set_cons_zero, List.set_cons_succ]))
          refine text_call (f := 19) (args := #[.pointer (some ⟨p, 0, none⟩), .int .i64 o.txn]) (fun x : Option Addr × Nat => .slice x.1 N2 x.2) (fun x w' => SubRow w' V.heap.size (.slice x.1 N2 x.2) (intsV (forR ls2 ws2 o.txn))) (by rfl) (by kernel_rfl) (by kernel_rfl) (by kernel_rfl) sliceL_inj
            (fun x => keepKStable fun m wa wb hm h kk => h.block_keeps kk (fun k' e e' => e')) (fun w' => ?_) (fun w' hB hm => ?_) (fun x39 => ?_)
          · go_simp
          · refine ((waits_any w' p mp mw t2 o.txn (HB8.out w' hB.1).tb.lay (HS8.out.good.fit (by omega)).small).mono fun e w'' ⟨v, he, ho, hb⟩ => show ∃ v, e = Ending.returned v ∧ SubRow w'' w'.heap.size v (intsV (forR ls2 ws2 o.txn)) ∧ Below w'.heap.size w' w'' from ⟨v, he, by rw [HS8.out.sim.for' HS8.out.good HS8.out.wok]; exact SubRow.of_owns ho, hb⟩).mono fun e w'' ⟨v, he, ho, hb⟩ => ?_
            obtain ⟨q, c, rfl, _⟩ := SubRow.intForm ho
            rw [HN2.out] at he ho
            exact ⟨(q, c), he, ⟨Keeps.of_below hb, fun h => h.trans (Keeps.of_below hb)⟩, SubRow.weaken ho hB.1.size⟩
          simp only [Act.put, List.setIfInBounds_toArray, List.set_cons_zero, List.set_cons_succ]
          repeat (first | (refine text_pure (v := ?_) (by rfl) (fun w' => ?_) ?_; rotate_left; (focus ( go_simp; first | done | with_reducible rfl)); simp only [Act.put, List.setIfInBounds_toArray, List.set_cons_zero, List.set_cons_succ]) | (refine text_skip (by rfl) ?_; simp only [Act.put, List.setIfInBounds_toArray, List.set_cons_zero, List.set_cons_succ]))
          (refine text_read (v := ?_) (by rfl) (by kernel_rfl) (fun w' hB hm => ?_) ?_; rotate_left; (focus (have hcA := (HX8.out.keeps hB.1 (fun e => e)).c1; (try clear hm); (try clear hB); go_simp; first | done | with_reducible rfl)); simp only [Act.put, List.setIfInBounds_toArray, List.set_cons_zero, List.set_cons_succ])
          repeat (first | (refine text_pure (v := ?_) (by rfl) (fun w' => ?_) ?_; rotate_left; (focus ( go_simp; first | done | with_reducible rfl)); simp only [Act.put, List.setIfInBounds_toArray, List.set_cons_zero, List.set_cons_succ]) | (refine text_skip (by rfl) ?_; simp only [Act.put, List.setIfInBounds_toArray, List.set_cons_zero, List.set_cons_succ]))
          refine text_call (f := 20) (args := #[.pointer (some ⟨b, 0, none⟩), .int .i64 o.txn]) (fun x : Option Addr × Nat => .slice x.1 N2 x.2) (fun x w' => SubRow w' V.heap.size (.slice x.1 N2 x.2) (intsV (forR ls2 ws2 o.txn))) (by rfl) (by kernel_rfl) (by kernel_rfl) (by kernel_rfl) sliceL_inj
            (fun x => keepKStable fun m wa wb hm h kk => h.block_keeps kk (fun k' e e' => e')) (fun w' => ?_) (fun w' hB hm => ?_) (fun x43 => ?_)
          · go_simp
          · refine (rfor_any (HB8.out w' hB.1).tab o.txn (by omega)).mono fun e w'' ⟨v, he, ho, hb⟩ => ?_
            obtain ⟨q, c, rfl, _⟩ := SubRow.intForm ho
            rw [HN2.out] at he ho
            exact ⟨(q, c), he, ⟨Keeps.of_below hb, fun h => h.trans (Keeps.of_below hb)⟩, SubRow.weaken ho hB.1.size⟩
          simp only [Act.put, List.setIfInBounds_toArray, List.set_cons_zero, List.set_cons_succ]
          repeat (first | (refine text_pure (v := ?_) (by rfl) (fun w' => ?_) ?_; rotate_left; (focus ( go_simp; first | done | with_reducible rfl)); simp only [Act.put, List.setIfInBounds_toArray, List.set_cons_zero, List.set_cons_succ]) | (refine text_skip (by rfl) ?_; simp only [Act.put, List.setIfInBounds_toArray, List.set_cons_zero, List.set_cons_succ]))
          refine text_callk (f := 16) (args := #[.slice x39.1 N2 x39.2, .slice x43.1 N2 x43.2]) (.bool true) (fun _ => True) (by rfl) (by kernel_rfl) (by kernel_rfl) (fun _ _ _ _ _ _ => trivial) (fun w' => ?_) (fun w' hB hm => ?_) ?_
          · go_simp
          · refine (ints_same w' _ _ _ _ (forR ls2 ws2 o.txn) (by first | exact hm.2.1 (by kernel_rfl)) (by first | exact hm.1 (by kernel_rfl)) (by rw [HN2.out]; omega)).mono fun e w'' ⟨he, n, hw⟩ => ?_
            subst hw
            exact ⟨he, ⟨(Keeps.refl _ _).drewN n, fun h => h.drewN n⟩, trivial⟩
          simp only [Act.put, List.setIfInBounds_toArray, List.set_cons_zero, List.set_cons_succ]
          repeat (first | (refine text_pure (v := ?_) (by rfl) (fun w' => ?_) ?_; rotate_left; (focus ( go_simp; first | done | with_reducible rfl)); simp only [Act.put, List.setIfInBounds_toArray, List.set_cons_zero, List.set_cons_succ]) | (refine text_skip (by rfl) ?_; simp only [Act.put, List.setIfInBounds_toArray, List.set_cons_zero, List.set_cons_succ]))
          refine text_nil fun w9 hB hF => ?_
          have HS9 : Hid (St w w9 p mp mw t2 b vl2 vw2 ls2 ws2 (k + 1)) := Lib.hid (HS8.out.below (hB.below (Nat.le_refl _) (fun _ _ e => e)))
          clear hF hB
          go_wp2
          refine Calm.normal ?_
          go_wp2
          go_roundw
          case rel => exact ⟨k + 1, t2, vl2, vw2, ls2, ws2, by omega, by go_num, HS9.out⟩
          case measure => simp [intOf]; omega
        · have c0 := HX.out.c0
          have hkd2 : (o.kind == 1) = false := by simpa using hkd
          go_upto_region 12 with fail
          clear c0 hkd2
          have hcnt := HS1.out.sim.cnt
          have hls1 : ls.length ≤ 256 := by have h1 := HS1.out.good.le; rw [hcnt] at h1; omega
          have hws1 : ws.length ≤ 1000000 := by have h1 := HS1.out.wlen; omega
          have Hfit := Lib.hid (HS1.out.good.fit (by omega))
          have HbB : Hid (w.heap.size ≤ W.heap.size) := Lib.hid HS1.out.both.tb.bel.size
          clear hcnt
          obtain ⟨cd, hcd⟩ : ∃ c, (t.take o.txn o.page o.mode 0).1 = c := ⟨_, rfl⟩
          have hcd0 : 0 ≤ cd := by rw [← hcd]; exact take_nonneg _ _ _ _ _
          have Hcd : Hid (∀ m, (t.take o.txn o.page o.mode m).1 = cd) := Lib.hid (fun m => (take_code t _ _ _ m 0).trans hcd)
          clear hcd
          refine wp_region_textP [7, 8, 16] (fun m k => (m = 7 ∧ LTFoot p mp mw t k) ∨ (m = 16 ∧ TFoot b vl vw k)) (fun w' => Keeps (fun k => LTFoot p mp mw t k ∨ TFoot b vl vw k) W w' ∧ BoxL bx o w') [⟨7, fun w' => LTAt w' p mp mw t⟩, ⟨16, fun w' => TabAt w' w.heap.size b vl vw ls ws⟩] 18 (by kernel_rfl) ?_ ?_ (by kernel_rfl) ⟨(Keeps.refl _ _).drew, HX.out.keeps ((Keeps.refl (fun _ => False) W).drew) (fun e => e)⟩ ?_ ?_
          · intro q hq; simp at hq; rcases hq with rfl | rfl <;> rfl
          · intro q hq m wa wb hm hs hk
            simp at hq
            rcases hq with rfl | rfl
            · exact LTAt.keeps hs hk (fun k hk' h => h.elim (fun h => hm h.1) (fun h => HS1.out.both.off k hk' h.2))
            · exact TabAt.keeps hs hk (fun k hk' h => h.elim (fun h => HS1.out.both.off k h.2 hk') (fun h => hm h.1))
          · intro q hq; simp at hq
            rcases hq with rfl | rfl
            · exact LTAt.keeps HS1.out.both.tb.lay ((Keeps.refl (fun _ => False) W).drew) (fun _ _ e => e)
            · exact TabAt.keeps HS1.out.both.tab ((Keeps.refl (fun _ => False) W).drew) (fun _ _ e => e)
          simp only [List.take_succ_cons, List.take_zero, List.drop_succ_cons, List.drop_zero]
          repeat (first | (refine text_pure (v := ?_) (by rfl) (fun w' => ?_) ?_; rotate_left; (focus ( go_simp; first | done | with_reducible rfl)); simp only [Act.put, List.setIfInBounds_toArray, List.set_cons_zero, List.set_cons_succ]) | (refine text_skip (by rfl) ?_; simp only [Act.put, List.setIfInBounds_toArray, List.set_cons_zero, List.set_cons_succ]))
          (refine text_read (v := ?_) (by rfl) (by kernel_rfl) (fun w' hB hm => ?_) ?_; rotate_left; (focus (have hcA := hB.1.2.c1; (try clear hm); (try clear hB); go_simp; first | done | with_reducible rfl)); simp only [Act.put, List.setIfInBounds_toArray, List.set_cons_zero, List.set_cons_succ])
          repeat (first | (refine text_pure (v := ?_) (by rfl) (fun w' => ?_) ?_; rotate_left; (focus ( go_simp; first | done | with_reducible rfl)); simp only [Act.put, List.setIfInBounds_toArray, List.set_cons_zero, List.set_cons_succ]) | (refine text_skip (by rfl) ?_; simp only [Act.put, List.setIfInBounds_toArray, List.set_cons_zero, List.set_cons_succ]))
          (refine text_read (v := ?_) (by rfl) (by kernel_rfl) (fun w' hB hm => ?_) ?_; rotate_left; (focus (have hcA := hB.1.2.c2; (try clear hm); (try clear hB); go_simp; first | done | with_reducible rfl)); simp only [Act.put, List.setIfInBounds_toArray, List.set_cons_zero, List.set_cons_succ])
          repeat (first | (refine text_pure (v := ?_) (by rfl) (fun w' => ?_) ?_; rotate_left; (focus ( go_simp; first | done | with_reducible rfl)); simp only [Act.put, List.setIfInBounds_toArray, List.set_cons_zero, List.set_cons_succ]) | (refine text_skip (by rfl) ?_; simp only [Act.put, List.setIfInBounds_toArray, List.set_cons_zero, List.set_cons_succ]))
          (refine text_read (v := ?_) (by rfl) (by kernel_rfl) (fun w' hB hm => ?_) ?_; rotate_left; (focus (have hcA := hB.1.2.c3; (try clear hm); (try clear hB); go_simp; first | done | with_reducible rfl)); simp only [Act.put, List.setIfInBounds_toArray, List.set_cons_zero, List.set_cons_succ])
          refine text_callk (f := 11) (args := #[.pointer (some ⟨p, 0, none⟩), .int .i64 o.txn, .int .i64 o.page, .int .i64 o.mode]) (errV cd) (fun w' => ∃ m, LTAt w' p mp mw (t.take o.txn o.page o.mode m).2 ∧ ∀ k, LTFoot p mp mw (t.take o.txn o.page o.mode m).2 k → LTFoot p mp mw t k ∨ W.heap.size ≤ k) (by rfl) (by kernel_rfl) (by kernel_rfl)
            (keepKStable fun m wa wb hm h kk => by
              obtain ⟨mm, h1, h2⟩ := h
              exact ⟨mm, LTAt.keeps h1 kk (fun k hk' e => e.elim (fun e => hm e.1) (fun e => (h2 k hk').elim (fun e2 => HS1.out.both.off k e2 e.2) (fun e2 => by have := Hlt.out k (.inr e.2); omega))), h2⟩) (fun w' => ?_) (fun w' hB hm => ?_) ?_
          · go_simp
          · refine (take_any w' p mp mw t o.txn o.page o.mode (hB.2 ⟨7, fun w' => LTAt w' p mp mw t⟩ (by show _ ∈ [_, _]; simp) rfl) Hfit.out).mono fun e w'' ⟨m, he, h1, h2, h3⟩ => ?_
            have hs := Keeps.size hB.1.1
            rw [Hcd.out m] at he
            exact ⟨he, ⟨h2.mono (fun k _ e => .inl ⟨rfl, e⟩), fun h => ⟨h.1.trans (h2.mono (fun k _ e => .inl e)), h.2.keeps h2 (fun e => Nat.lt_irrefl _ (Hlt.out _ (.inl e)))⟩⟩, m, h1, fun k e => (h3 k e).imp id (fun e => by omega)⟩
          simp only [Act.put, List.setIfInBounds_toArray, List.set_cons_zero, List.set_cons_succ]
          refine text_callk (f := 10) (args := #[errV cd]) (.int .i64 cd) (fun _ => True) (by rfl) (by kernel_rfl) (by kernel_rfl) (fun _ _ _ _ _ _ => trivial) (fun w' => ?_) (fun w' hB hm => ?_) ?_
          · go_simp
          · refine (num_any _ w' hcd0).mono fun e w'' ⟨he, hw⟩ => ?_
            subst hw
            exact ⟨he, ⟨Keeps.refl _ _, id⟩, trivial⟩
          simp only [Act.put, List.setIfInBounds_toArray, List.set_cons_zero, List.set_cons_succ]
          repeat (first | (refine text_pure (v := ?_) (by rfl) (fun w' => ?_) ?_; rotate_left; (focus ( go_simp; first | done | with_reducible rfl)); simp only [Act.put, List.setIfInBounds_toArray, List.set_cons_zero, List.set_cons_succ]) | (refine text_skip (by rfl) ?_; simp only [Act.put, List.setIfInBounds_toArray, List.set_cons_zero, List.set_cons_succ]))
          (refine text_read (v := ?_) (by rfl) (by kernel_rfl) (fun w' hB hm => ?_) ?_; rotate_left; (focus (have hcA := hB.1.2.c1; (try clear hm); (try clear hB); go_simp; first | done | with_reducible rfl)); simp only [Act.put, List.setIfInBounds_toArray, List.set_cons_zero, List.set_cons_succ])
          repeat (first | (refine text_pure (v := ?_) (by rfl) (fun w' => ?_) ?_; rotate_left; (focus ( go_simp; first | done | with_reducible rfl)); simp only [Act.put, List.setIfInBounds_toArray, List.set_cons_zero, List.set_cons_succ]) | (refine text_skip (by rfl) ?_; simp only [Act.put, List.setIfInBounds_toArray, List.set_cons_zero, List.set_cons_succ]))
          (refine text_read (v := ?_) (by rfl) (by kernel_rfl) (fun w' hB hm => ?_) ?_; rotate_left; (focus (have hcA := hB.1.2.c2; (try clear hm); (try clear hB); go_simp; first | done | with_reducible rfl)); simp only [Act.put, List.setIfInBounds_toArray, List.set_cons_zero, List.set_cons_succ])
          repeat (first | (refine text_pure (v := ?_) (by rfl) (fun w' => ?_) ?_; rotate_left; (focus ( go_simp; first | done | with_reducible rfl)); simp only [Act.put, List.setIfInBounds_toArray, List.set_cons_zero, List.set_cons_succ]) | (refine text_skip (by rfl) ?_; simp only [Act.put, List.setIfInBounds_toArray, List.set_cons_zero, List.set_cons_succ]))
          (refine text_read (v := ?_) (by rfl) (by kernel_rfl) (fun w' hB hm => ?_) ?_; rotate_left; (focus (have hcA := hB.1.2.c3; (try clear hm); (try clear hB); go_simp; first | done | with_reducible rfl)); simp only [Act.put, List.setIfInBounds_toArray, List.set_cons_zero, List.set_cons_succ])
          refine text_callk (f := 12) (args := #[.pointer (some ⟨b, 0, none⟩), .int .i64 o.txn, .int .i64 o.page, .int .i64 o.mode]) (.int .i64 cd) (fun w' => ∃ cb vl' vw', (∀ m, Sim (t.take o.txn o.page o.mode m).2 (takeR ls ws o.txn o.page o.mode cb).2.1 (takeR ls ws o.txn o.page o.mode cb).2.2 ∧ WaitsOk (takeR ls ws o.txn o.page o.mode cb).2.2) ∧ TabAt w' w.heap.size b vl' vw' (takeR ls ws o.txn o.page o.mode cb).2.1 (takeR ls ws o.txn o.page o.mode cb).2.2 ∧ ∀ k, TFoot b vl' vw' k → TFoot b vl vw k ∨ W.heap.size ≤ k) (by rfl) (by kernel_rfl) (by kernel_rfl)
            (keepKStable fun m wa wb hm h kk => by
              obtain ⟨cb, vl', vw', h0, h1, h2⟩ := h
              exact ⟨cb, vl', vw', h0, h1.keeps kk (fun k hk' e => e.elim (fun e => (h2 k hk').elim (fun e2 => HS1.out.both.off k e.2 e2) (fun e2 => by have := Hlt.out k (.inl e.2); omega)) (fun e => hm e.1)), h2⟩) (fun w' => ?_) (fun w' hB hm => ?_) ?_
          · go_simp
          · refine (rtake_any (hB.2 ⟨16, fun w' => TabAt w' w.heap.size b vl vw ls ws⟩ (by show _ ∈ [_, _]; simp) rfl) o.txn o.page o.mode (by omega) hws1 (Nat.le_trans HbB.out (Keeps.size hB.1.1))).mono fun e w'' ⟨cb, hcb, he, vl', vw', h1, h2, h3⟩ => ?_
            have hs := Keeps.size hB.1.1
            have hsm := fun m => HS1.out.sim.take HS1.out.good HS1.out.wok o.txn o.page o.mode m cb hcb
            rw [← (hsm 0).1, Hcd.out] at he
            exact ⟨he, ⟨h2.mono (fun k _ e => .inr ⟨rfl, e⟩), fun h => ⟨h.1.trans (h2.mono (fun k _ e => .inr e)), h.2.keeps h2 (fun e => Nat.lt_irrefl _ (Hlt.out _ (.inr e)))⟩⟩, cb, vl', vw', fun m => (hsm m).2, h1, fun k e => (h3 k e).imp id (fun e => by omega)⟩
          simp only [Act.put, List.setIfInBounds_toArray, List.set_cons_zero, List.set_cons_succ]
          repeat (first | (refine text_pure (v := ?_) (by rfl) (fun w' => ?_) ?_; rotate_left; (focus ( go_simp; first | done | with_reducible rfl)); simp only [Act.put, List.setIfInBounds_toArray, List.set_cons_zero, List.set_cons_succ]) | (refine text_skip (by rfl) ?_; simp only [Act.put, List.setIfInBounds_toArray, List.set_cons_zero, List.set_cons_succ]))
          refine text_nil fun V hB hF => ?_
          have hf16 : ∃ cb vl' vw', (∀ m, Sim (t.take o.txn o.page o.mode m).2 (takeR ls ws o.txn o.page o.mode cb).2.1 (takeR ls ws o.txn o.page o.mode cb).2.2 ∧ WaitsOk (takeR ls ws o.txn o.page o.mode cb).2.2) ∧ TabAt V w.heap.size b vl' vw' (takeR ls ws o.txn o.page o.mode cb).2.1 (takeR ls ws o.txn o.page o.mode cb).2.2 ∧ ∀ k, TFoot b vl' vw' k → TFoot b vl vw k ∨ W.heap.size ≤ k := hF.1
          have hf7 : ∃ m, LTAt V p mp mw (t.take o.txn o.page o.mode m).2 ∧ ∀ k, LTFoot p mp mw (t.take o.txn o.page o.mode m).2 k → LTFoot p mp mw t k ∨ W.heap.size ≤ k := hF.2.2.1
          obtain ⟨cb, vl2, vw2, hsm, ht, hft⟩ := hf16
          obtain ⟨m, hlt7, hfl⟩ := hf7
          have HS8 : Hid (St w V p mp mw (t.take o.txn o.page o.mode m).2 b vl2 vw2 (takeR ls ws o.txn o.page o.mode cb).2.1 (takeR ls ws o.txn o.page o.mode cb).2.2 (k + 1)) := Lib.hid (HS1.out.join hB.1 hlt7 hfl ht (hsm m).1 (HS1.out.good.take HS1.out.both.tb.lay.wkeys o.page o.mode m Hwf.out) (hsm m).2 (Nat.le_trans (takeR_len _ _ _ _ _ _) (Nat.succ_le_succ HS1.out.wlen)))
          have HX8 : Hid (BoxL bx o V) := Lib.hid hB.2
          clear hF hB hlt7 hfl ht hft hsm hls1 hws1
          generalize (t.take o.txn o.page o.mode m).2 = t2 at HS8
          generalize (takeR ls ws o.txn o.page o.mode cb).2.1 = ls2 at HS8
          generalize (takeR ls ws o.txn o.page o.mode cb).2.2 = ws2 at HS8
          go_wp2
          refine Calm.normal ?_
          go_upto_region 14 with fail
          have hcnt := HS8.out.sim.cnt
          obtain ⟨q2, cc2, e2, _, _⟩ := HS8.out.both.tab.locks.form
          have E2 := Lib.hid e2
          have hls : ls2.length ≤ 256 := by have h1 := HS8.out.good.le; rw [hcnt] at h1; omega
          have hws : ws2.length ≤ 1000000 := by have h1 := HS8.out.wlen; omega
          obtain ⟨N1, hN1⟩ : ∃ N, (holdersR ls2 o.page).length = N := ⟨_, rfl⟩
          obtain ⟨N2, hN2⟩ : ∃ N, (forR ls2 ws2 o.txn).length = N := ⟨_, rfl⟩
          have hN1l : N1 ≤ 256 := by rw [← hN1]; exact Nat.le_trans (foldR_len _ _) hls
          have hN2l : N2 ≤ 256 := by rw [← hN2]; exact Nat.le_trans (forR_len _ _ _) hls
          have HN1 := Lib.hid hN1
          have HN2 := Lib.hid hN2
          have HB8 : Hid (∀ w', Keeps (fun _ => False) V w' → BothL w w' p mp mw t2 b vl2 vw2 ls2 ws2) := Lib.hid (fun w' h => HS8.out.both.below (h.below (Nat.le_refl _) (fun _ _ e => e)))
          clear hcnt e2 hN1 hN2
          refine wp_region_textP [1, 14, 20, 27, 31, 32, 39, 43, 44] (fun _ _ => False) (fun w' => Keeps (fun _ => False) V w') [] 47 (by kernel_rfl) (fun q hq => by simp at hq) (fun q hq => by simp at hq) (by kernel_rfl) ((Keeps.refl _ _).drew) (fun q hq => by simp at hq) ?_
          simp only [List.take_succ_cons, List.take_zero, List.drop_succ_cons, List.drop_zero]
          repeat (first | (refine text_pure (v := ?_) (by rfl) (fun w' => ?_) ?_; rotate_left; (focus ( go_simp; first | done | with_reducible rfl)); simp only [Act.put, List.setIfInBounds_toArray, List.set_cons_zero, List.set_cons_succ]) | (refine text_skip (by rfl) ?_; simp only [Act.put, List.setIfInBounds_toArray, List.set_cons_zero, List.set_cons_succ]))
          refine text_callk (f := 13) (args := #[.pointer (some ⟨p, 0, none⟩)]) (.int .i64 (ls2.length : Int)) (fun _ => True) (by rfl) (by kernel_rfl) (by kernel_rfl) (fun _ _ _ _ _ _ => trivial) (fun w' => ?_) (fun w' hB hm => ?_) ?_
          · go_simp
          · have hh := len_any w' p mp mw t2 (HB8.out w' hB.1).tb.lay
            rw [HS8.out.sim.cnt] at hh
            refine (hh).mono fun e w'' ⟨he, hw⟩ => ?_
            subst hw
            exact ⟨he, ⟨Keeps.refl _ _, id⟩, trivial⟩
          simp only [Act.put, List.setIfInBounds_toArray, List.set_cons_zero, List.set_cons_succ]
          repeat (first | (refine text_pure (v := ?_) (by rfl) (fun w' => ?_) ?_; rotate_left; (focus ( go_simp; first | done | with_reducible rfl)); simp only [Act.put, List.setIfInBounds_toArray, List.set_cons_zero, List.set_cons_succ]) | (refine text_skip (by rfl) ?_; simp only [Act.put, List.setIfInBounds_toArray, List.set_cons_zero, List.set_cons_succ]))
          (refine text_read (v := ?_) (by rfl) (by kernel_rfl) (fun w' hB hm => ?_) ?_; rotate_left; (focus (have hcA := (HB8.out w' hB.1).tab.c0; rw [E2.out] at hcA; (try clear hm); (try clear hB); go_simp; first | done | with_reducible rfl)); simp only [Act.put, List.setIfInBounds_toArray, List.set_cons_zero, List.set_cons_succ])
          repeat (first | (refine text_pure (v := ?_) (by rfl) (fun w' => ?_) ?_; rotate_left; (focus ( go_simp; first | done | with_reducible rfl)); simp only [Act.put, List.setIfInBounds_toArray, List.set_cons_zero, List.set_cons_succ]) | (refine text_skip (by rfl) ?_; simp only [Act.put, List.setIfInBounds_toArray, List.set_cons_zero, List.set_cons_succ]))
          (refine text_read (v := ?_) (by rfl) (by kernel_rfl) (fun w' hB hm => ?_) ?_; rotate_left; (focus (have hcA := (HX8.out.keeps hB.1 (fun e => e)).c1; (try clear hm); (try clear hB); go_simp; first | done | with_reducible rfl)); simp only [Act.put, List.setIfInBounds_toArray, List.set_cons_zero, List.set_cons_succ])
          repeat (first | (refine text_pure (v := ?_) (by rfl) (fun w' => ?_) ?_; rotate_left; (focus ( go_simp; first | done | with_reducible rfl)); simp only [Act.put, List.setIfInBounds_toArray, List.set_cons_zero, List.set_cons_succ]) | (refine text_skip (by rfl) ?_; simp only [Act.put, List.setIfInBounds_toArray, List.set_cons_zero, List.set_cons_succ]))
          (refine text_read (v := ?_) (by rfl) (by kernel_rfl) (fun w' hB hm => ?_) ?_; rotate_left; (focus (have hcA := (HX8.out.keeps hB.1 (fun e => e)).c2; (try clear hm); (try clear hB); go_simp; first | done | with_reducible rfl)); simp only [Act.put, List.setIfInBounds_toArray, List.set_cons_zero, List.set_cons_succ])
          repeat (first | (refine text_pure (v := ?_) (by rfl) (fun w' => ?_) ?_; rotate_left; (focus ( go_simp; first | done | with_reducible rfl)); simp only [Act.put, List.setIfInBounds_toArray, List.set_cons_zero, List.set_cons_succ]) | (refine text_skip (by rfl) ?_; simp only [Act.put, List.setIfInBounds_toArray, List.set_cons_zero, List.set_cons_succ]))
          refine text_callk (f := 14) (args := #[.pointer (some ⟨p, 0, none⟩), .int .i64 o.txn, .int .i64 o.page]) (.int .i64 (holdsR ls2 o.txn o.page)) (fun _ => True) (by rfl) (by kernel_rfl) (by kernel_rfl) (fun _ _ _ _ _ _ => trivial) (fun w' => ?_) (fun w' hB hm => ?_) ?_
          · go_simp
          · have hh := holds_any w' p mp mw t2 o.txn o.page (HB8.out w' hB.1).tb.lay
            rw [HS8.out.sim.holds] at hh
            refine (hh).mono fun e w'' ⟨he, hw⟩ => ?_
            subst hw
            exact ⟨he, ⟨Keeps.refl _ _, id⟩, trivial⟩
          simp only [Act.put, List.setIfInBounds_toArray, List.set_cons_zero, List.set_cons_succ]
          repeat (first | (refine text_pure (v := ?_) (by rfl) (fun w' => ?_) ?_; rotate_left; (focus ( go_simp; first | done | with_reducible rfl)); simp only [Act.put, List.setIfInBounds_toArray, List.set_cons_zero, List.set_cons_succ]) | (refine text_skip (by rfl) ?_; simp only [Act.put, List.setIfInBounds_toArray, List.set_cons_zero, List.set_cons_succ]))
          (refine text_read (v := ?_) (by rfl) (by kernel_rfl) (fun w' hB hm => ?_) ?_; rotate_left; (focus (have hcA := (HX8.out.keeps hB.1 (fun e => e)).c1; (try clear hm); (try clear hB); go_simp; first | done | with_reducible rfl)); simp only [Act.put, List.setIfInBounds_toArray, List.set_cons_zero, List.set_cons_succ])
          repeat (first | (refine text_pure (v := ?_) (by rfl) (fun w' => ?_) ?_; rotate_left; (focus ( go_simp; first | done | with_reducible rfl)); simp only [Act.put, List.setIfInBounds_toArray, List.set_cons_zero, List.set_cons_succ]) | (refine text_skip (by rfl) ?_; simp only [Act.put, List.setIfInBounds_toArray, List.set_cons_zero, List.set_cons_succ]))
          (refine text_read (v := ?_) (by rfl) (by kernel_rfl) (fun w' hB hm => ?_) ?_; rotate_left; (focus (have hcA := (HX8.out.keeps hB.1 (fun e => e)).c2; (try clear hm); (try clear hB); go_simp; first | done | with_reducible rfl)); simp only [Act.put, List.setIfInBounds_toArray, List.set_cons_zero, List.set_cons_succ])
          repeat (first | (refine text_pure (v := ?_) (by rfl) (fun w' => ?_) ?_; rotate_left; (focus ( go_simp; first | done | with_reducible rfl)); simp only [Act.put, List.setIfInBounds_toArray, List.set_cons_zero, List.set_cons_succ]) | (refine text_skip (by rfl) ?_; simp only [Act.put, List.setIfInBounds_toArray, List.set_cons_zero, List.set_cons_succ]))
          refine text_callk (f := 15) (args := #[.pointer (some ⟨b, 0, none⟩), .int .i64 o.txn, .int .i64 o.page]) (.int .i64 (holdsR ls2 o.txn o.page)) (fun _ => True) (by rfl) (by kernel_rfl) (by kernel_rfl) (fun _ _ _ _ _ _ => trivial) (fun w' => ?_) (fun w' hB hm => ?_) ?_
          · go_simp
          · refine (rholds_any (HB8.out w' hB.1).tab o.txn o.page).mono fun e w'' ⟨he, hw⟩ => ?_
            subst hw
            exact ⟨he, ⟨Keeps.refl _ _, id⟩, trivial⟩
          simp only [Act.put, List.setIfInBounds_toArray, List.set_cons_zero, List.set_cons_succ]
          repeat (first | (refine text_pure (v := ?_) (by rfl) (fun w' => ?_) ?_; rotate_left; (focus ( go_simp; first | done | with_reducible rfl)); simp only [Act.put, List.setIfInBounds_toArray, List.set_cons_zero, List.set_cons_succ]) | (refine text_skip (by rfl) ?_; simp only [Act.put, List.setIfInBounds_toArray, List.set_cons_zero, List.set_cons_succ]))
          (refine text_read (v := ?_) (by rfl) (by kernel_rfl) (fun w' hB hm => ?_) ?_; rotate_left; (focus (have hcA := (HX8.out.keeps hB.1 (fun e => e)).c2; (try clear hm); (try clear hB); go_simp; first | done | with_reducible rfl)); simp only [Act.put, List.setIfInBounds_toArray, List.set_cons_zero, List.set_cons_succ])
          repeat (first | (refine text_pure (v := ?_) (by rfl) (fun w' => ?_) ?_; rotate_left; (focus ( go_simp; first | done | with_reducible rfl)); simp only [Act.put, List.setIfInBounds_toArray, List.set_cons_zero, List.set_cons_succ]) | (refine text_skip (by rfl) ?_; simp only [Act.put, List.setIfInBounds_toArray, List.set_cons_zero, List.set_cons_succ]))
          refine text_call (f := 17) (args := #[.pointer (some ⟨p, 0, none⟩), .int .i64 o.page]) (fun x : Option Addr × Nat => .slice x.1 N1 x.2) (fun x w' => SubRow w' V.heap.size (.slice x.1 N1 x.2) (intsV (holdersR ls2 o.page))) (by rfl) (by kernel_rfl) (by kernel_rfl) (by kernel_rfl) sliceL_inj
            (fun x => keepKStable fun m wa wb hm h kk => h.block_keeps kk (fun k' e e' => e')) (fun w' => ?_) (fun w' hB hm => ?_) (fun x27 => ?_)
          · go_simp
          · refine ((holders_any w' p mp mw t2 o.page (HB8.out w' hB.1).tb.lay (HS8.out.good.fit (by omega)) HS8.out.good.wfs).mono fun e w'' ⟨v, he, ho, hb⟩ => show ∃ v, e = Ending.returned v ∧ SubRow w'' w'.heap.size v (intsV (holdersR ls2 o.page)) ∧ Below w'.heap.size w' w'' from ⟨v, he, by rw [HS8.out.sim.holders HS8.out.good]; exact SubRow.of_owns ho, hb⟩).mono fun e w'' ⟨v, he, ho, hb⟩ => ?_
            obtain ⟨q, c, rfl, _⟩ := SubRow.intForm ho
            rw [HN1.out] at he ho
            exact ⟨(q, c), he, ⟨Keeps.of_below hb, fun h => h.trans (Keeps.of_below hb)⟩, SubRow.weaken ho hB.1.size⟩
          simp only [Act.put, List.setIfInBounds_toArray, List.set_cons_zero, List.set_cons_succ]
          repeat (first | (refine text_pure (v := ?_) (by rfl) (fun w' => ?_) ?_; rotate_left; (focus ( go_simp; first | done | with_reducible rfl)); simp only [Act.put, List.setIfInBounds_toArray, List.set_cons_zero, List.set_cons_succ]) | (refine text_skip (by rfl) ?_; simp only [Act.put, List.setIfInBounds_toArray, List.set_cons_zero, List.set_cons_succ]))
          (refine text_read (v := ?_) (by rfl) (by kernel_rfl) (fun w' hB hm => ?_) ?_; rotate_left; (focus (have hcA := (HX8.out.keeps hB.1 (fun e => e)).c2; (try clear hm); (try clear hB); go_simp; first | done | with_reducible rfl)); simp only [Act.put, List.setIfInBounds_toArray, List.set_cons_zero, List.set_cons_succ])
          repeat (first | (refine text_pure (v := ?_) (by rfl) (fun w' => ?_) ?_; rotate_left; (focus ( go_simp; first | done | with_reducible rfl)); simp only [Act.put, List.setIfInBounds_toArray, List.set_cons_zero, List.set_cons_succ]) | (refine text_skip (by rfl) ?_; simp only [Act.put, List.setIfInBounds_toArray, List.set_cons_zero, List.set_cons_succ]))
          refine text_call (f := 18) (args := #[.pointer (some ⟨b, 0, none⟩), .int .i64 o.page]) (fun x : Option Addr × Nat => .slice x.1 N1 x.2) (fun x w' => SubRow w' V.heap.size (.slice x.1 N1 x.2) (intsV (holdersR ls2 o.page))) (by rfl) (by kernel_rfl) (by kernel_rfl) (by kernel_rfl) sliceL_inj
            (fun x => keepKStable fun m wa wb hm h kk => h.block_keeps kk (fun k' e e' => e')) (fun w' => ?_) (fun w' hB hm => ?_) (fun x31 => ?_)
          · go_simp
          · refine (rholders_any (HB8.out w' hB.1).tab o.page (by omega)).mono fun e w'' ⟨v, he, ho, hb⟩ => ?_
            obtain ⟨q, c, rfl, _⟩ := SubRow.intForm ho
            rw [HN1.out] at he ho
            exact ⟨(q, c), he, ⟨Keeps.of_below hb, fun h => h.trans (Keeps.of_below hb)⟩, SubRow.weaken ho hB.1.size⟩
          simp only [Act.put, List.setIfInBounds_toArray, List.set_cons_zero, List.set_cons_succ]
          repeat (first | (refine text_pure (v := ?_) (by rfl) (fun w' => ?_) ?_; rotate_left; (focus ( go_simp; first | done | with_reducible rfl)); simp only [Act.put, List.setIfInBounds_toArray, List.set_cons_zero, List.set_cons_succ]) | (refine text_skip (by rfl) ?_; simp only [Act.put, List.setIfInBounds_toArray, List.set_cons_zero, List.set_cons_succ]))
          refine text_callk (f := 16) (args := #[.slice x27.1 N1 x27.2, .slice x31.1 N1 x31.2]) (.bool true) (fun _ => True) (by rfl) (by kernel_rfl) (by kernel_rfl) (fun _ _ _ _ _ _ => trivial) (fun w' => ?_) (fun w' hB hm => ?_) ?_
          · go_simp
          · refine (ints_same w' _ _ _ _ (holdersR ls2 o.page) (by first | exact hm.2.1 (by kernel_rfl)) (by first | exact hm.1 (by kernel_rfl)) (by rw [HN1.out]; omega)).mono fun e w'' ⟨he, n, hw⟩ => ?_
            subst hw
            exact ⟨he, ⟨(Keeps.refl _ _).drewN n, fun h => h.drewN n⟩, trivial⟩
          simp only [Act.put, List.setIfInBounds_toArray, List.set_cons_zero, List.set_cons_succ]
          repeat (first | (refine text_pure (v := ?_) (by rfl) (fun w' => ?_) ?_; rotate_left; (focus ( go_simp; first | done | with_reducible rfl)); simp only [Act.put, List.setIfInBounds_toArray, List.set_cons_zero, List.set_cons_succ]) | (refine text_skip (by rfl) ?_; simp only [Act.put, List.setIfInBounds_toArray, List.set_cons_zero, List.set_cons_succ]))
          (refine text_read (v := ?_) (by rfl) (by kernel_rfl) (fun w' hB hm => ?_) ?_; rotate_left; (focus (have hcA := (HX8.out.keeps hB.1 (fun e => e)).c1; (try clear hm); (try clear hB); go_simp; first | done | with_reducible rfl)); simp only [Act.put, List.setIfInBounds_toArray, List.set_cons_zero, List.set_cons_succ])
          repeat (first | (refine text_pure (v := ?_) (by rfl) (fun w' => ?_) ?_; rotate_left; (focus ( go_simp; first | done | with_reducible rfl)); simp only [Act.put, List.setIfInBounds_toArray, List.set_cons_zero, List.set_cons_succ]) | (refine text_skip (by rfl) ?_; simp only [Act.put, List.setIfInBounds_toArray, List.set_cons_zero, List.set_cons_succ]))
          refine text_call (f := 19) (args := #[.pointer (some ⟨p, 0, none⟩), .int .i64 o.txn]) (fun x : Option Addr × Nat => .slice x.1 N2 x.2) (fun x w' => SubRow w' V.heap.size (.slice x.1 N2 x.2) (intsV (forR ls2 ws2 o.txn))) (by rfl) (by kernel_rfl) (by kernel_rfl) (by kernel_rfl) sliceL_inj
            (fun x => keepKStable fun m wa wb hm h kk => h.block_keeps kk (fun k' e e' => e')) (fun w' => ?_) (fun w' hB hm => ?_) (fun x39 => ?_)
          · go_simp
          · refine ((waits_any w' p mp mw t2 o.txn (HB8.out w' hB.1).tb.lay (HS8.out.good.fit (by omega)).small).mono fun e w'' ⟨v, he, ho, hb⟩ => show ∃ v, e = Ending.returned v ∧ SubRow w'' w'.heap.size v (intsV (forR ls2 ws2 o.txn)) ∧ Below w'.heap.size w' w'' from ⟨v, he, by rw [HS8.out.sim.for' HS8.out.good HS8.out.wok]; exact SubRow.of_owns ho, hb⟩).mono fun e w'' ⟨v, he, ho, hb⟩ => ?_
            obtain ⟨q, c, rfl, _⟩ := SubRow.intForm ho
            rw [HN2.out] at he ho
            exact ⟨(q, c), he, ⟨Keeps.of_below hb, fun h => h.trans (Keeps.of_below hb)⟩, SubRow.weaken ho hB.1.size⟩
          simp only [Act.put, List.setIfInBounds_toArray, List.set_cons_zero, List.set_cons_succ]
          repeat (first | (refine text_pure (v := ?_) (by rfl) (fun w' => ?_) ?_; rotate_left; (focus ( go_simp; first | done | with_reducible rfl)); simp only [Act.put, List.setIfInBounds_toArray, List.set_cons_zero, List.set_cons_succ]) | (refine text_skip (by rfl) ?_; simp only [Act.put, List.setIfInBounds_toArray, List.set_cons_zero, List.set_cons_succ]))
          (refine text_read (v := ?_) (by rfl) (by kernel_rfl) (fun w' hB hm => ?_) ?_; rotate_left; (focus (have hcA := (HX8.out.keeps hB.1 (fun e => e)).c1; (try clear hm); (try clear hB); go_simp; first | done | with_reducible rfl)); simp only [Act.put, List.setIfInBounds_toArray, List.set_cons_zero, List.set_cons_succ])
          repeat (first | (refine text_pure (v := ?_) (by rfl) (fun w' => ?_) ?_; rotate_left; (focus ( go_simp; first | done | with_reducible rfl)); simp only [Act.put, List.setIfInBounds_toArray, List.set_cons_zero, List.set_cons_succ]) | (refine text_skip (by rfl) ?_; simp only [Act.put, List.setIfInBounds_toArray, List.set_cons_zero, List.set_cons_succ]))
          refine text_call (f := 20) (args := #[.pointer (some ⟨b, 0, none⟩), .int .i64 o.txn]) (fun x : Option Addr × Nat => .slice x.1 N2 x.2) (fun x w' => SubRow w' V.heap.size (.slice x.1 N2 x.2) (intsV (forR ls2 ws2 o.txn))) (by rfl) (by kernel_rfl) (by kernel_rfl) (by kernel_rfl) sliceL_inj
            (fun x => keepKStable fun m wa wb hm h kk => h.block_keeps kk (fun k' e e' => e')) (fun w' => ?_) (fun w' hB hm => ?_) (fun x43 => ?_)
          · go_simp
          · refine (rfor_any (HB8.out w' hB.1).tab o.txn (by omega)).mono fun e w'' ⟨v, he, ho, hb⟩ => ?_
            obtain ⟨q, c, rfl, _⟩ := SubRow.intForm ho
            rw [HN2.out] at he ho
            exact ⟨(q, c), he, ⟨Keeps.of_below hb, fun h => h.trans (Keeps.of_below hb)⟩, SubRow.weaken ho hB.1.size⟩
          simp only [Act.put, List.setIfInBounds_toArray, List.set_cons_zero, List.set_cons_succ]
          repeat (first | (refine text_pure (v := ?_) (by rfl) (fun w' => ?_) ?_; rotate_left; (focus ( go_simp; first | done | with_reducible rfl)); simp only [Act.put, List.setIfInBounds_toArray, List.set_cons_zero, List.set_cons_succ]) | (refine text_skip (by rfl) ?_; simp only [Act.put, List.setIfInBounds_toArray, List.set_cons_zero, List.set_cons_succ]))
          refine text_callk (f := 16) (args := #[.slice x39.1 N2 x39.2, .slice x43.1 N2 x43.2]) (.bool true) (fun _ => True) (by rfl) (by kernel_rfl) (by kernel_rfl) (fun _ _ _ _ _ _ => trivial) (fun w' => ?_) (fun w' hB hm => ?_) ?_
          · go_simp
          · refine (ints_same w' _ _ _ _ (forR ls2 ws2 o.txn) (by first | exact hm.2.1 (by kernel_rfl)) (by first | exact hm.1 (by kernel_rfl)) (by rw [HN2.out]; omega)).mono fun e w'' ⟨he, n, hw⟩ => ?_
            subst hw
            exact ⟨he, ⟨(Keeps.refl _ _).drewN n, fun h => h.drewN n⟩, trivial⟩
          simp only [Act.put, List.setIfInBounds_toArray, List.set_cons_zero, List.set_cons_succ]
          repeat (first | (refine text_pure (v := ?_) (by rfl) (fun w' => ?_) ?_; rotate_left; (focus ( go_simp; first | done | with_reducible rfl)); simp only [Act.put, List.setIfInBounds_toArray, List.set_cons_zero, List.set_cons_succ]) | (refine text_skip (by rfl) ?_; simp only [Act.put, List.setIfInBounds_toArray, List.set_cons_zero, List.set_cons_succ]))
          refine text_nil fun w9 hB hF => ?_
          have HS9 : Hid (St w w9 p mp mw t2 b vl2 vw2 ls2 ws2 (k + 1)) := Lib.hid (HS8.out.below (hB.below (Nat.le_refl _) (fun _ _ e => e)))
          clear hF hB
          go_wp2
          refine Calm.normal ?_
          go_wp2
          go_roundw
          case rel => exact ⟨k + 1, t2, vl2, vw2, ls2, ws2, by omega, by go_num, HS9.out⟩
          case measure => simp [intOf]; omega
      · obtain rfl : k = len := by omega
        go_wp2
        go_ret
        exact ⟨by simp, hS.both.tb.bel⟩
end Go.Proofs.Ytnficiohnhodiaa.Pre
namespace Go.Proofs.Ytnficiohnhodiaa
open Go.RowKit
theorem lockPlays_walk (a : Option Addr) (len cap : Nat) (zs : List OpL) (w : World) (hz : IsOps w a len cap zs) : Calls Try.prog 3 #[.slice a len cap] w fun e w' => e = .returned (.bool true) ∧ Below w.heap.size w w' := Pre.lockPlays_all a len cap zs w hz
end Go.Proofs.Ytnficiohnhodiaa
