import Derived.Test.YtnficiohnhodiaaRlkF
/-
  The document's table of locks: Take.
-/
namespace Go.Proofs.Ytnficiohnhodiaa.Pre
open Go.RowKit
def lenOf : Value → Nat
  | .slice _ n _ => n
  | _ => 0
def truthOf : Value → Bool
  | .bool b => b
  | _ => false
/-- what Take does, where the mode md is wanted, and it is not held yet -/
def restR (ls ws ws1 : List Lk) (txn page md : Int) (cb : Bool) : Int × List Lk × List Lk :=
  if againstR ls ⟨txn, page, md⟩ ≠ [] then (if cb then (18, ls, ws1) else (17, ls, ws1 ++ [⟨txn, page, md⟩]))
  else if hasR ls txn page then (0, setR ls txn page md, ws1)
  else if 256 ≤ ls.length then (15, ls, ws1)
  else (0, ls ++ [⟨txn, page, md⟩], ws1)
def RTakePost (w : World) (B b : Nat) (vl vw : Value) (ls ws ws1 : List Lk) (txn page md : Int) (e : Ending) (w' : World) : Prop :=
  ∃ cb : Bool, (cb = true ↔ ∃ o ∈ againstR ls ⟨txn, page, md⟩, RReach (forR ls ws1) o txn) ∧ TakePost w B b vl vw (restR ls ws ws1 txn page md cb) e w'
section
variable {w w' : World} {B b : Nat} {vw : Value} {ls ws : List Lk}
set_option maxRecDepth 100000 in
set_option maxHeartbeats 16000000 in
theorem rtake_good {ql : Option Addr} {cl : Nat} (h : TabAt w B b (.slice ql ls.length cl) vw ls ws) (txn page mode : Int) (hm1 : 1 ≤ mode) (hm3 : mode ≤ 3) (hl : ls.length ≤ 1000000) (hl2 : ws.length ≤ 1000000) (hB : B ≤ w.heap.size) (md has : Int) (hhas : holdsR ls txn page = has) (ws1 : List Lk) (hws1 : forgetR ws txn = ws1)
    (hcase : (md = 3 ∧ has ≠ 0 ∧ has ≠ mode ∧ has ≠ 3) ∨ (md = mode ∧ has = 0)) :
    Calls Try.prog 12 #[.pointer (some ⟨b, 0, none⟩), .int .i64 txn, .int .i64 page, .int .i64 mode] w (RTakePost w B b (.slice ql ls.length cl) vw ls ws ws1 txn page md) := by
  have HB := Lib.hid hB
  have hfg := rforget_any h txn hl2 hB
  rw [hws1] at hfg
  have hwl : ws1.length ≤ 1000000 := by rw [← hws1]; exact Nat.le_trans (List.length_filter_le _ _) hl2
  obtain ⟨_, _, _, hcl, hml⟩ := h.locks.form
  have hm10 : ¬ mode < 1 := by omega
  have hm30 : ¬ 3 < mode := by omega
  have Hm := Lib.hid (And.intro hm1 hm3)
  clear h hm1 hm3
  go_enter Try.func12, Try.ntmps12
  go_upto_region 6 with (first
    | (go_at_call 36; (with_reducible refine hfg.mono ?_); rintro _ w1 ⟨rfl, vw1, h1, k1, n1⟩; clear hfg; obtain ⟨qw, cw, rfl, _, _⟩ := h1.waits.form; have hho := rholds_any h1 txn page; (rw [hhas] at hho); have HM : Hid (Mid w (w1.alloc (.cells #[.int .i64 txn, .int .i64 page, .int .i64 mode] 82)) B b w1.heap.size (.slice ql ls.length cl) vw (.slice qw ws1.length cw) ls ws1 txn page mode) := Lib.hid (mid_new h1 k1 n1 82); have HS1 : Hid (w.heap.size ≤ w1.heap.size) := Lib.hid k1.size; clear h1 k1 n1)
    | (go_at_call 15; (with_reducible refine hho.mono ?_); rintro _ _ ⟨rfl, rfl⟩; clear hho))
  generalize w1.alloc (.cells #[.int .i64 txn, .int .i64 page, .int .i64 mode] 82) = W at HM ⊢
  generalize w1.heap.size = bx at HM HS1 ⊢
  rcases hcase with ⟨hmd, hz1, hz2, hz3⟩ | ⟨hmd, rfl⟩
  · have x2 := HM.out.x2
    have f2 : W.frozen? ⟨bx, 2, none⟩ = false := HM.out.fz 2
    have b1 : (has != 0) = true := by simpa using hz1
    have b2 : (has != mode) = true := by simpa using hz2
    go_upto_region 8 with fail
    clear b1 b2
    have HM2 := Lib.hid (HM.out.store HS1.out 3)
    clear x2 f2 HM
    generalize W.setCell ⟨bx, 2, none⟩ (.int .i64 3) = W2 at HM2 ⊢
    have hne : (has == md) = false := by simp; omega
    rw [← hmd] at HM2
    clear hmd hz1 hz2 hz3
    have x2 := HM2.out.x2
    have x0 := HM2.out.x0
    have x1 := HM2.out.x1
    have hag := ragainst_any HM2.out.tab ⟨txn, page, md⟩ hl
    go_upto_region 11 with (go_at_call 41; (with_reducible refine hag.mono ?_); rintro _ w3 ⟨v3, rfl, h3, b3⟩; clear hag; have H3 := Lib.hid h3; have HM3 := Lib.hid (HM2.out.below b3); clear h3 b3)
    clear x0 x1 x2 hne
    obtain ⟨q3, c3, rfl, hc3, hm3⟩ := H3.out.intForm
    generalize hO : againstR ls ⟨txn, page, md⟩ = O at H3 hc3 ⊢
    have HO := Lib.hid hO
    clear hO
    have hlw := HM3.out.tab.lt
    by_cases hn : O = []
    · subst hn
      have HR0 : Hid (∀ cb, restR ls ws ws1 txn page md cb = if hasR ls txn page then (0, setR ls txn page md, ws1) else if 256 ≤ ls.length then (15, ls, ws1) else (0, ls ++ [⟨txn, page, md⟩], ws1)) := Lib.hid (fun cb => by unfold restR; rw [HO.out, if_neg (by simp)])
      have hcb : Hid ((false = true) ↔ ∃ o ∈ againstR ls ⟨txn, page, md⟩, RReach (forR ls ws1) o txn) := Lib.hid (by rw [HO.out]; simp)
      clear H3 HO hc3
      rw [List.length_nil]
      have c0 := HM3.out.tab.c0
      go_wp2
      go_loop [19] (fun i => ∃ k : Nat, i = .int .i64 k ∧ k ≤ ls.length ∧ Hid (∀ i y, i < k → ls[i]? = some y → (y.txn == txn && y.page == page) = false)) (fun i => ls.length - (intOf i).toNat)
      case atStart => exact ⟨0, rfl, by omega, Lib.hid (fun i y hi => absurd hi (Nat.not_lt_zero _))⟩
      case round =>
        obtain ⟨k, rfl, hk, Hall⟩ := hrel
        have fb0 : w3.frozen? ⟨b, 0, none⟩ = false := free_in HM3.out.tab.self
        by_cases hlt : k < ls.length
        · obtain ⟨x, hx⟩ : ∃ x, ls[k]? = some x := ⟨_, List.getElem?_eq_getElem hlt⟩
          obtain ⟨g, c', ev, _, d0, d1, d2⟩ := HM3.out.tab.locks.at hx
          injection ev with e1 _ e3
          subst e1 e3
          have Hx := Lib.hid hx
          have hki : (k : Int) < (ls.length : Int) := by omega
          by_cases e1 : x.txn = txn
          · by_cases e2 : x.page = page
            · have hset := setR_at Hall.out hx e1 e2 (m := md)
              have hhas2 : hasR ls txn page = true := List.any_eq_true.2 ⟨x, List.mem_of_getElem? hx, by simp [e1, e2]⟩
              have HR : Hid (∀ cb, restR ls ws ws1 txn page md cb = (0, ls.set k ⟨x.txn, x.page, md⟩, ws1)) := Lib.hid (fun cb => by rw [HR0.out cb, if_pos hhas2, hset])
              clear hset hhas2 HR0 hx Hall
              go_upto_region 37 with fail
              have fg : ∀ i, w3.frozen? ⟨g, i, none⟩ = false := World.ownsRow.frozenAt HM3.out.tab.locks
              have x2 := HM3.out.x2
              refine wp_region_textP [] (fun _ _ => False) (fun w' => Keeps (fun _ => False) w3 w') [] 7 (by kernel_rfl) (fun q hq => by simp at hq) (fun q hq => by simp at hq) (by kernel_rfl) ((Keeps.refl _ _).drew) (fun q hq => by simp at hq) ?_
              simp only [List.take_succ_cons, List.take_zero, List.drop_succ_cons, List.drop_zero]
              repeat (first | (refine text_pure (v := ?_) (by rfl) (fun w' => ?_) ?_; rotate_left; (focus ( go_simp; first | done | with_reducible rfl)); simp only [Act.put, List.setIfInBounds_toArray, List.set_cons_zero, List.set_cons_succ]) | (refine text_skip (by rfl) ?_; simp only [Act.put, List.setIfInBounds_toArray, List.set_cons_zero, List.set_cons_succ]))
              (refine text_read (v := ?_) (by rfl) (by kernel_rfl) (fun w' hB hm => ?_) ?_; rotate_left; (focus (have hcA := hB.1.cell c0 (fun e => e); (try clear hm); (try clear hB); go_simp; first | done | with_reducible rfl)); simp only [Act.put, List.setIfInBounds_toArray, List.set_cons_zero, List.set_cons_succ])
              repeat (first | (refine text_pure (v := ?_) (by rfl) (fun w' => ?_) ?_; rotate_left; (focus ( go_simp; first | done | with_reducible rfl)); simp only [Act.put, List.setIfInBounds_toArray, List.set_cons_zero, List.set_cons_succ]) | (refine text_skip (by rfl) ?_; simp only [Act.put, List.setIfInBounds_toArray, List.set_cons_zero, List.set_cons_succ]))
              (refine text_read (v := ?_) (by rfl) (by kernel_rfl) (fun w' hB hm => ?_) ?_; rotate_left; (focus (have hcA := hB.1.cell x2 (fun e => e); (try clear hm); (try clear hB); go_simp; first | done | with_reducible rfl)); simp only [Act.put, List.setIfInBounds_toArray, List.set_cons_zero, List.set_cons_succ])
              refine text_nil fun w8 hB hF => ?_
              have d2' := Keeps.cell hB d2 (fun e => e)
              have fg' : w8.frozen? ⟨g, k * 3 + 2, none⟩ = false := by
                rw [World.frozen?_of_block (w := w3) (a := ⟨g, k * 3 + 2, none⟩) (hB.block g (World.block_lt_of_cell? w3 _ d2) (fun e => e))]; exact fg _
              have hfin := TabAt.setMode HM3.out.tab (k := k) hB rfl Hx.out md
              have Hfin := Lib.hid hfin
              clear hF hB hfin fg
              go_wp2
              refine Calm.normal ?_
              go_wp2
              go_ret
              exact ⟨false, hcb.out, by rw [HR.out false]; exact HM3.out.done Hfin.out.1 Hfin.out.2 (fun k e => .inl e)⟩
            · have hn : Hid (∀ i y, i < k + 1 → ls[i]? = some y → (y.txn == txn && y.page == page) = false) := Lib.hid (fun i y hi hy => by
                by_cases e : i = k
                · subst e; have e3 := Hx.out.symm.trans hy; injection e3 with e3; subst e3; simp [e2]
                · exact Hall.out i y (by omega) hy)
              clear hx
              go_wp2
              go_round
              case rel => exact ⟨k + 1, by go_num, by omega, hn⟩
              case measure => simp [intOf]; omega
          · have hn : Hid (∀ i y, i < k + 1 → ls[i]? = some y → (y.txn == txn && y.page == page) = false) := Lib.hid (fun i y hi hy => by
              by_cases e : i = k
              · subst e; have e3 := Hx.out.symm.trans hy; injection e3 with e3; subst e3; simp [e1]
              · exact Hall.out i y (by omega) hy)
            clear hx
            go_wp2
            go_round
            case rel => exact ⟨k + 1, by go_num, by omega, hn⟩
            case measure => simp [intOf]; omega
        · have hkl : k = ls.length := by omega
          subst hkl
          have hhas2 : hasR ls txn page = false := by
            unfold hasR
            rw [List.any_eq_false]
            intro x hx
            obtain ⟨i, hi, e⟩ := List.getElem_of_mem hx
            have := Hall.out i x hi (by rw [List.getElem?_eq_getElem hi, e])
            simp [this]
          have HR1 : Hid (∀ cb, restR ls ws ws1 txn page md cb = if 256 ≤ ls.length then (15, ls, ws1) else (0, ls ++ [⟨txn, page, md⟩], ws1)) := Lib.hid (fun cb => by rw [HR0.out cb, if_neg (by rw [hhas2]; simp)])
          clear hhas2 HR0 Hall hlt
          by_cases h256 : 256 ≤ ls.length
          · have HR : Hid (restR ls ws ws1 txn page md false = (15, ls, ws1)) := Lib.hid (by rw [HR1.out, if_pos h256])
            go_wp2
            go_ret
            exact ⟨false, hcb.out, by rw [HR.out]; exact HM3.out.post⟩
          · have HR : Hid (restR ls ws ws1 txn page md false = (0, ls ++ [⟨txn, page, md⟩], ws1)) := Lib.hid (by rw [HR1.out, if_neg h256])
            clear HR1
            go_upto_region 41 with fail
            have X0 := HM3.out.x0
            have X1 := HM3.out.x1
            have X2 := HM3.out.x2
            have Hob : Hid (¬ (Value.slice ql ls.length cl).ownBlock = some b) := Lib.hid HM3.out.tab.ap1
            have Hox : Hid (¬ (Value.slice ql ls.length cl).ownBlock = some bx) := Lib.hid (fun e => HM3.out.far (.inr (.inl e)))
            have Hl : Hid (ls.length ≤ 1000000) := Lib.hid hl
            have HBw : Hid (B ≤ w3.heap.size) := Lib.hid (Nat.le_trans HB.out HM3.out.old.size)
            refine wp_region_textP [7] (fun m k => m = 7 ∧ (Value.slice ql ls.length cl).ownBlock = some k) (fun w' => Keeps (fun k => (Value.slice ql ls.length cl).ownBlock = some k) w3 w') [⟨7, fun w' => RowK w' B (.slice ql ls.length cl) ls⟩] 8 (by kernel_rfl) ?_ ?_ (by kernel_rfl) ((Keeps.refl _ _).drew) ?_ ?_
            · intro q hq; simp at hq; subst hq; rfl
            · intro q hq m wa wb hm hs hk
              simp at hq
              subst hq
              exact RowK.keeps hs hk (fun k e e' => hm e'.1)
            · intro q hq; simp at hq; subst hq; exact RowK.keeps HM3.out.tab.locks ((Keeps.refl (fun _ => False) w3).drew) (fun _ _ e => e)
            simp only [List.take_succ_cons, List.take_zero, List.drop_succ_cons, List.drop_zero]
            repeat (first | (refine text_pure (v := ?_) (by rfl) (fun w' => ?_) ?_; rotate_left; (focus ( go_simp; first | done | with_reducible rfl)); simp only [Act.put, List.setIfInBounds_toArray, List.set_cons_zero, List.set_cons_succ]) | (refine text_skip (by rfl) ?_; simp only [Act.put, List.setIfInBounds_toArray, List.set_cons_zero, List.set_cons_succ]))
            (refine text_read (v := ?_) (by rfl) (by kernel_rfl) (fun w' hB hm => ?_) ?_; rotate_left; (focus (have hcA := Keeps.cell hB.1 c0 Hob.out; (try clear hm); (try clear hB); go_simp; first | done | with_reducible rfl)); simp only [Act.put, List.setIfInBounds_toArray, List.set_cons_zero, List.set_cons_succ])
            (refine text_read (v := ?_) (by rfl) (by kernel_rfl) (fun w' hB hm => ?_) ?_; rotate_left; (focus (have X0' := Keeps.cell hB.1 X0 Hox.out; have X1' := Keeps.cell hB.1 X1 Hox.out; have X2' := Keeps.cell hB.1 X2 Hox.out; (try clear hm); (try clear hB); go_simp; first | done | with_reducible rfl)); simp only [Act.put, List.setIfInBounds_toArray, List.set_cons_zero, List.set_cons_succ])
            refine text_new (fun b6 : Nat => .slice (some ⟨b6, 0, none⟩) 1 1) (fun b6 w' => w'.heap[b6]? = some (.cells #[.int .i64 txn, .int .i64 page, .int .i64 md] 82 (0, 0)) ∧ w3.heap.size ≤ b6) (by rfl) (by kernel_rfl) (by kernel_rfl)
              (fun x y h => by injection h with h; injection h with h; injection h) (fun b6 => keepKStable fun m wa wb hm h k => ⟨k.at h.1 (fun e => by have h1 := (HM3.out.tab.locks.lt b6 e.2).2; have h2 := h.2; omega), h.2⟩) (fun w' hB hm K hK => ?_) (fun b6 => ?_)
            · unfold gives
              go_simp
              exact hK _ _ ⟨(Keeps.refl _ _).alloc _, fun h => h.trans ((Keeps.refl _ _).alloc _)⟩ ⟨heap_alloc_new _ _, Keeps.size hB.1⟩
            simp only [Act.put, List.setIfInBounds_toArray, List.set_cons_zero, List.set_cons_succ]
            refine text_new (fun x : Nat × Nat => .slice (some ⟨x.1, 0, none⟩) (ls.length + 1) x.2) (fun x w' => RowK w' B (.slice (some ⟨x.1, 0, none⟩) (ls.length + 1) x.2) (ls ++ [⟨txn, page, md⟩]) ∧ ((Value.slice ql ls.length cl).ownBlock = some x.1 ∨ w3.heap.size ≤ x.1)) (by rfl) (by kernel_rfl) (by kernel_rfl)
              (fun x y h => by obtain ⟨x1, x2⟩ := x; obtain ⟨y1, y2⟩ := y; injection h with h _ h3; injection h with h; injection h with h1 _ _; subst h1; subst h3; rfl) (fun x => keepKStable fun m wa wb hm h k => ⟨h.1.keeps k (fun k' e e' => hm e'.1), h.2⟩) (fun w' hB hm K hK => ?_) (fun x7 => ?_)
            · have hf6 := hm.1 (by kernel_rfl)
              have hrow := hB.2 ⟨7, fun w' => RowK w' B (.slice ql ls.length cl) ls⟩ (by show _ ∈ [_]; simp) rfl
              obtain ⟨g, c, w'', hr, h1, h2, h3⟩ := append_lk (x := ⟨txn, page, md⟩) (ty := 27) hrow hf6.1 (by have := Hl.out; omega) (Nat.le_trans HBw.out (Keeps.size hB.1))
              exact gives_appendK (v := .slice ql ls.length cl) (y := .slice (some ⟨b6, 0, none⟩) 1 1) rfl rfl rfl hr (hK (g, c) _ ⟨h2.mono (fun k _ e => ⟨rfl, e⟩), fun h => h.trans h2⟩ ⟨h1, h3.imp id (fun e => by have := Keeps.size hB.1; omega)⟩)
            simp only [Act.put, List.setIfInBounds_toArray, List.set_cons_zero, List.set_cons_succ]
            refine text_nil fun w8 hB hF => ?_
            obtain ⟨g7, c7⟩ := x7
            have hr7 : RowK w8 B (.slice (some ⟨g7, 0, none⟩) (ls.length + 1) c7) (ls ++ [⟨txn, page, md⟩]) ∧ ((Value.slice ql ls.length cl).ownBlock = some g7 ∨ w3.heap.size ≤ g7) := hF.1
            have hfin := TabAt.growLocks HM3.out.tab hB hr7.1 hr7.2
            have c08 := Keeps.cell hB c0 Hob.out
            have f08 : w8.frozen? ⟨b, 0, none⟩ = false := by
              rw [World.frozen?_of_block (w := w3) (a := ⟨b, 0, none⟩) (hB.block b (hlw b (.inl rfl)).2 Hob.out)]; exact fb0
            have Hfin := Lib.hid hfin
            clear hF hB hfin hr7
            go_wp2
            refine Calm.normal ?_
            go_wp2
            go_ret
            exact ⟨false, hcb.out, by rw [HR.out]; exact HM3.out.done Hfin.out.1 Hfin.out.2.1 Hfin.out.2.2⟩
    · have hpos : 0 < O.length := List.length_pos_iff.2 hn
      have hposI : (0 : Int) < (O.length : Int) := by omega
      have HR0 : Hid (∀ cb, restR ls ws ws1 txn page md cb = if cb then (18, ls, ws1) else (17, ls, ws1 ++ [⟨txn, page, md⟩])) := Lib.hid (fun cb => by unfold restR; rw [HO.out, if_pos hn])
      have HC0 : Hid (Clo (forR ls ws1) O (txnsOf ls) O) := Lib.hid (by rw [← HO.out]; exact Clo.start)
      have HT : Hid ((txnsOf ls).length = ls.length) := Lib.hid (List.length_map ..)
      have HS0 : Hid (SubRow w3 0 (.slice q3 O.length c3) (intsV O)) := Lib.hid (SubRow.weaken H3.out (Nat.zero_le _))
      clear H3
      go_wp2
      go_loopw [12, 13] (fun v12 v13 wr => ∃ (all : List Int) (more : Bool), v13 = .bool more ∧ SubRow wr 0 v12 (intsV all) ∧ Below w3.heap.size w3 wr ∧ Hid (Clo (forR ls ws1) O (txnsOf ls) all ∧ (more = false → Shut (forR ls ws1) all))) (fun v12 v13 _ => if truthOf v13 then ls.length + 1 - lenOf v12 else 0)
      case atStart => exact ⟨O, true, rfl, HS0.out, Below.refl _ _, Lib.hid ⟨HC0.out, (fun e => by cases e)⟩⟩
      case round =>
        obtain ⟨all, more, rfl, hS, hb, Hcl⟩ := hrel
        clear HC0 HS0 hposI hpos hc3 hm3
        have Hb := Lib.hid hb
        have HM4 := Lib.hid (HM3.out.below hb)
        have HS := Lib.hid hS
        obtain ⟨q12, c12, rfl, hc12, hm12⟩ := hS.intForm
        have hall : all.length ≤ ls.length := by have := Hcl.out.1.len; rw [HT.out] at this; exact this
        clear hS hb
        cases more
        · have HI : Hid (txn ∈ all ↔ ∃ o ∈ againstR ls ⟨txn, page, md⟩, RReach (forR ls ws1) o txn) := Lib.hid (by rw [HO.out]; exact Hcl.out.1.iff (Hcl.out.2 rfl) txn)
          clear Hcl
          have hlw4 := HM4.out.tab.lt
          go_wp2
          go_loop [18] (fun i => ∃ k : Nat, i = .int .i64 k ∧ k ≤ all.length ∧ Hid (∀ (i : Nat) (y : Int), i < k → all[i]? = some y → y ≠ txn)) (fun i => all.length - (intOf i).toNat)
          case atStart => exact ⟨0, rfl, by omega, Lib.hid (fun i y hi => absurd hi (Nat.not_lt_zero _))⟩
          case round =>
            obtain ⟨k, rfl, hk, Hall⟩ := hrel
            by_cases hlt : k < all.length
            · obtain ⟨y, hy⟩ : ∃ y, all[k]? = some y := ⟨_, List.getElem?_eq_getElem hlt⟩
              obtain ⟨g, o, c', ev, _, hcx⟩ := SubRow.int HS.out hy
              injection ev with e1 _ e3
              subst e1 e3
              have Hy := Lib.hid hy
              have hki : (k : Int) < (all.length : Int) := by omega
              clear hy
              by_cases e1 : y = txn
              · have hmem : txn ∈ all := e1 ▸ List.mem_of_getElem? Hy.out
                have HR : Hid (restR ls ws ws1 txn page md true = (18, ls, ws1)) := Lib.hid (by rw [HR0.out, if_pos rfl])
                have Hmem := Lib.hid hmem
                clear hmem
                go_wp2
                go_ret
                exact ⟨true, ⟨fun _ => HI.out.1 Hmem.out, fun _ => rfl⟩, by rw [HR.out]; exact HM4.out.post⟩
              · have hn2 : Hid (∀ (i : Nat) (y : Int), i < k + 1 → all[i]? = some y → y ≠ txn) := Lib.hid (fun i z hi hz => by
                  by_cases e : i = k
                  · subst e; have e3 := Hy.out.symm.trans hz; injection e3 with e3; subst e3; exact e1
                  · exact Hall.out i z (by omega) hz)
                go_wp2
                go_round
                case rel => exact ⟨k + 1, by go_num, by omega, hn2⟩
                case measure => simp [intOf]; omega
            · have hkl : k = all.length := by omega
              subst hkl
              have hcb : Hid ((false = true) ↔ ∃ o ∈ againstR ls ⟨txn, page, md⟩, RReach (forR ls ws1) o txn) := Lib.hid ⟨(fun e => by cases e), fun e => by
                obtain ⟨i, hi, e2⟩ := List.getElem_of_mem (HI.out.2 e)
                exact absurd rfl (Hall.out i txn hi (by rw [List.getElem?_eq_getElem hi, e2]))⟩
              have HR : Hid (restR ls ws ws1 txn page md false = (17, ls, ws1 ++ [⟨txn, page, md⟩])) := Lib.hid (by rw [HR0.out]; rfl)
              have c1 := HM4.out.tab.c1
              have fb1 : wr.frozen? ⟨b, 1, none⟩ = false := free_in HM4.out.tab.self
              clear HR0 Hall hlt
              go_upto_region 31 with fail
              have X0 := HM4.out.x0
              have X1 := HM4.out.x1
              have X2 := HM4.out.x2
              have Hob : Hid (¬ (Value.slice qw ws1.length cw).ownBlock = some b) := Lib.hid HM4.out.tab.ap2
              have Hox : Hid (¬ (Value.slice qw ws1.length cw).ownBlock = some bx) := Lib.hid (fun e => HM4.out.far (.inr (.inr e)))
              have Hl : Hid (ws1.length ≤ 1000000) := Lib.hid hwl
              have HBw : Hid (B ≤ wr.heap.size) := Lib.hid (Nat.le_trans HB.out HM4.out.old.size)
              refine wp_region_textP [7] (fun m k => m = 7 ∧ (Value.slice qw ws1.length cw).ownBlock = some k) (fun w' => Keeps (fun k => (Value.slice qw ws1.length cw).ownBlock = some k) wr w') [⟨7, fun w' => RowK w' B (.slice qw ws1.length cw) ws1⟩] 8 (by kernel_rfl) ?_ ?_ (by kernel_rfl) ((Keeps.refl _ _).drew) ?_ ?_
              · intro q hq; simp at hq; subst hq; rfl
              · intro q hq m wa wb hm hs hk
                simp at hq
                subst hq
                exact RowK.keeps hs hk (fun k e e' => hm e'.1)
              · intro q hq; simp at hq; subst hq; exact RowK.keeps HM4.out.tab.waits ((Keeps.refl (fun _ => False) wr).drew) (fun _ _ e => e)
              simp only [List.take_succ_cons, List.take_zero, List.drop_succ_cons, List.drop_zero]
              repeat (first | (refine text_pure (v := ?_) (by rfl) (fun w' => ?_) ?_; rotate_left; (focus ( go_simp; first | done | with_reducible rfl)); simp only [Act.put, List.setIfInBounds_toArray, List.set_cons_zero, List.set_cons_succ]) | (refine text_skip (by rfl) ?_; simp only [Act.put, List.setIfInBounds_toArray, List.set_cons_zero, List.set_cons_succ]))
              (refine text_read (v := ?_) (by rfl) (by kernel_rfl) (fun w' hB hm => ?_) ?_; rotate_left; (focus (have hcA := Keeps.cell hB.1 c1 Hob.out; (try clear hm); (try clear hB); go_simp; first | done | with_reducible rfl)); simp only [Act.put, List.setIfInBounds_toArray, List.set_cons_zero, List.set_cons_succ])
              (refine text_read (v := ?_) (by rfl) (by kernel_rfl) (fun w' hB hm => ?_) ?_; rotate_left; (focus (have X0' := Keeps.cell hB.1 X0 Hox.out; have X1' := Keeps.cell hB.1 X1 Hox.out; have X2' := Keeps.cell hB.1 X2 Hox.out; (try clear hm); (try clear hB); go_simp; first | done | with_reducible rfl)); simp only [Act.put, List.setIfInBounds_toArray, List.set_cons_zero, List.set_cons_succ])
              refine text_new (fun b6 : Nat => .slice (some ⟨b6, 0, none⟩) 1 1) (fun b6 w' => w'.heap[b6]? = some (.cells #[.int .i64 txn, .int .i64 page, .int .i64 md] 82 (0, 0)) ∧ wr.heap.size ≤ b6) (by rfl) (by kernel_rfl) (by kernel_rfl)
                (fun x y h => by injection h with h; injection h with h; injection h) (fun b6 => keepKStable fun m wa wb hm h k => ⟨k.at h.1 (fun e => by have h1 := (HM4.out.tab.waits.lt b6 e.2).2; have h2 := h.2; omega), h.2⟩) (fun w' hB hm K hK => ?_) (fun b6 => ?_)
              · unfold gives
                go_simp
                exact hK _ _ ⟨(Keeps.refl _ _).alloc _, fun h => h.trans ((Keeps.refl _ _).alloc _)⟩ ⟨heap_alloc_new _ _, Keeps.size hB.1⟩
              simp only [Act.put, List.setIfInBounds_toArray, List.set_cons_zero, List.set_cons_succ]
              refine text_new (fun x : Nat × Nat => .slice (some ⟨x.1, 0, none⟩) (ws1.length + 1) x.2) (fun x w' => RowK w' B (.slice (some ⟨x.1, 0, none⟩) (ws1.length + 1) x.2) (ws1 ++ [⟨txn, page, md⟩]) ∧ ((Value.slice qw ws1.length cw).ownBlock = some x.1 ∨ wr.heap.size ≤ x.1)) (by rfl) (by kernel_rfl) (by kernel_rfl)
                (fun x y h => by obtain ⟨x1, x2⟩ := x; obtain ⟨y1, y2⟩ := y; injection h with h _ h3; injection h with h; injection h with h1 _ _; subst h1; subst h3; rfl) (fun x => keepKStable fun m wa wb hm h k => ⟨h.1.keeps k (fun k' e e' => hm e'.1), h.2⟩) (fun w' hB hm K hK => ?_) (fun x7 => ?_)
              · have hf6 := hm.1 (by kernel_rfl)
                have hrow := hB.2 ⟨7, fun w' => RowK w' B (.slice qw ws1.length cw) ws1⟩ (by show _ ∈ [_]; simp) rfl
                obtain ⟨g, c, w'', hr, h1, h2, h3⟩ := append_lk (x := ⟨txn, page, md⟩) (ty := 27) hrow hf6.1 (by have := Hl.out; omega) (Nat.le_trans HBw.out (Keeps.size hB.1))
                exact gives_appendK (v := .slice qw ws1.length cw) (y := .slice (some ⟨b6, 0, none⟩) 1 1) rfl rfl rfl hr (hK (g, c) _ ⟨h2.mono (fun k _ e => ⟨rfl, e⟩), fun h => h.trans h2⟩ ⟨h1, h3.imp id (fun e => by have := Keeps.size hB.1; omega)⟩)
              simp only [Act.put, List.setIfInBounds_toArray, List.set_cons_zero, List.set_cons_succ]
              refine text_nil fun w8 hB hF => ?_
              obtain ⟨g7, c7⟩ := x7
              have hr7 : RowK w8 B (.slice (some ⟨g7, 0, none⟩) (ws1.length + 1) c7) (ws1 ++ [⟨txn, page, md⟩]) ∧ ((Value.slice qw ws1.length cw).ownBlock = some g7 ∨ wr.heap.size ≤ g7) := hF.1
              have hfin := TabAt.growWaits HM4.out.tab hB hr7.1 hr7.2
              have c18 := Keeps.cell hB c1 Hob.out
              have f18 : w8.frozen? ⟨b, 1, none⟩ = false := by
                rw [World.frozen?_of_block (w := wr) (a := ⟨b, 1, none⟩) (hB.block b (hlw4 b (.inl rfl)).2 Hob.out)]; exact fb1
              have Hfin := Lib.hid hfin
              clear hF hB hfin hr7
              go_wp2
              refine Calm.normal ?_
              go_wp2
              go_ret
              exact ⟨false, hcb.out, by rw [HR.out]; exact HM4.out.done Hfin.out.1 Hfin.out.2.1 Hfin.out.2.2⟩
        · go_wp2
          go_loopw [12, 13, 14] (fun v12 v13 v14 wr2 => ∃ (all2 pre : List Int) (i : Nat), v14 = .int .i64 i ∧ v13 = .bool (decide (all.length < all2.length)) ∧ i ≤ all2.length ∧ SubRow wr2 0 v12 (intsV all2) ∧ Below w3.heap.size w3 wr2 ∧ Hid (Pass (forR ls ws1) O (txnsOf ls) all pre all2 ∧ (all2.length = all.length → ∀ x ∈ all.take i, ∀ y ∈ forR ls ws1 x, y ∈ pre))) (fun _ _ v14 _ => ls.length - (intOf v14).toNat)
          case atStart => exact ⟨all, [], 0, rfl, by simp, Nat.zero_le _, HS.out, Hb.out, Lib.hid ⟨Pass.start Hcl.out.1, fun _ x hx => by simp at hx⟩⟩
          case round =>
            obtain ⟨all2, pre, i, rfl, rfl, hi, hS, hb2, Hp⟩ := hrel
            have Hb2 := Lib.hid hb2
            have HM5 := Lib.hid (HM3.out.below hb2)
            have HS2 := Lib.hid hS
            obtain ⟨q22, c22, rfl, hc22, hm22⟩ := hS.intForm
            have hall2 : all2.length ≤ ls.length := by have := Hp.out.1.clo.len; rw [HT.out] at this; exact this
            clear hS hb2
            by_cases hlt : i < all2.length
            · obtain ⟨x, hx⟩ : ∃ x, all2[i]? = some x := ⟨_, List.getElem?_eq_getElem hlt⟩
              obtain ⟨g, o, c', ev, _, hcx⟩ := SubRow.int HS2.out hx
              injection ev with e1 _ e3
              subst e1 e3
              have Hx := Lib.hid hx
              have hki : (i : Int) < (all2.length : Int) := by omega
              have hfor := rfor_any HM5.out.tab x hl
              have HL : Hid (∀ y ∈ forR ls ws1 x, y ∈ txnsOf ls) := Lib.hid (fun y hy => forR_txns hy)
              obtain ⟨L, hLe⟩ : ∃ L, forR ls ws1 x = L := ⟨_, rfl⟩
              have hLl : (forR ls ws1 x).length ≤ 1000000 := Nat.le_trans (forR_len ls ws1 x) hl
              rw [hLe] at hfor HL hLl
              have HLe := Lib.hid hLe
              clear hx hLe
              go_upto_region 20 with (go_at_call 20; (with_reducible refine hfor.mono ?_); rintro _ w4 ⟨v15, rfl, h15, b15⟩; clear hfor; have H15 := Lib.hid h15; have B15 := Lib.hid b15; clear h15 b15)
              obtain ⟨q15, c15, rfl, hc15, hm15⟩ := H15.out.intForm
              have HS4 := Lib.hid (SubRow.below HS2.out B15.out)
              have Hb4 := Lib.hid (Hb2.out.trans (B15.out.mono Hb2.out.size))
              clear hcx
              go_wp2
              go_loopw [12, 13, 16] (fun v12 v13 v16 wr3 => ∃ (all3 : List Int) (k : Nat), v16 = .int .i64 k ∧ k ≤ L.length ∧ v13 = .bool (decide (all.length < all3.length)) ∧ SubRow wr3 0 v12 (intsV all3) ∧ Below w4.heap.size w4 wr3 ∧ Hid (all2.length ≤ all3.length ∧ (∀ z ∈ all2, z ∈ all3) ∧ Pass (forR ls ws1) O (txnsOf ls) all (pre ++ L.take k) all3)) (fun _ _ v16 _ => L.length - (intOf v16).toNat)
              case atStart => exact ⟨all2, 0, rfl, Nat.zero_le _, rfl, HS4.out, Below.refl _ _, Lib.hid ⟨Nat.le_refl _, fun _ h => h, by rw [List.take_zero, List.append_nil]; exact Hp.out.1⟩⟩
              case round =>
                obtain ⟨all3, k, rfl, hk, rfl, hS3, hb3, H3⟩ := hrel
                have Hb3 := Lib.hid hb3
                have HS3 := Lib.hid hS3
                obtain ⟨q33, c33, rfl, hc33, hm33⟩ := hS3.intForm
                clear hS3 hb3
                by_cases hlt3 : k < L.length
                · obtain ⟨y, hy⟩ : ∃ y, L[k]? = some y := ⟨_, List.getElem?_eq_getElem hlt3⟩
                  have H15' := Lib.hid (SubRow.below H15.out Hb3.out)
                  obtain ⟨g5, o5, c5', ev, _, hcy⟩ := SubRow.int H15'.out hy
                  injection ev with e1 _ e3
                  subst e1 e3
                  have hki3 : (k : Int) < (L.length : Int) := by omega
                  have hmy := List.mem_of_getElem? hy
                  have hal3 : all3.length ≤ 1000000 := by have := H3.out.2.2.clo.len; rw [HT.out] at this; omega
                  have hin := rinsert_any HS3.out y hal3 (Nat.zero_le _)
                  have htk : L.take (k + 1) = L.take k ++ [y] := by rw [List.take_add_one, hy]; rfl
                  have HP := Lib.hid (Pass.ins H3.out.2.2 (H3.out.2.1 x (List.mem_of_getElem? Hx.out)) (by rw [HLe.out]; exact hmy) (HL.out y hmy))
                  have Hg := Lib.hid (insertR_grow all3 y)
                  have Htk := Lib.hid htk
                  have Hsub : Hid (∀ z ∈ all2, z ∈ insertR all3 y) := Lib.hid (fun z hz => (mem_insertR _ _ _).2 (.inr (H3.out.2.1 z hz)))
                  have Hge3 := Lib.hid H3.out.2.2.ge
                  obtain ⟨all4, h4⟩ : ∃ all4, insertR all3 y = all4 := ⟨_, rfl⟩
                  rw [h4] at hin HP Hg Hsub
                  clear hy hmy htk h4
                  by_cases hgr : all.length < all3.length
                  · have hd : decide (all.length < all3.length) = true := by simpa using hgr
                    rw [hd]
                    go_wp2_with (go_at_call 42; (with_reducible refine hin.mono ?_); rintro _ w5 ⟨v5, rfl, h5, b5⟩; clear hin; obtain ⟨q5, c5, rfl, _, _⟩ := h5.intForm; have H5 := Lib.hid h5; have B5 := Lib.hid b5; clear h5 b5)
                    go_roundw
                    case rel => exact ⟨all4, k + 1, by go_num, by omega, by have := Hg.out; simp; omega, H5.out, Hb3.out.trans (B5.out.mono Hb3.out.size), Lib.hid ⟨Nat.le_trans H3.out.1 Hg.out, Hsub.out, by rw [Htk.out, ← List.append_assoc]; exact HP.out⟩⟩
                    case measure => simp [intOf]; omega
                  · have hd : decide (all.length < all3.length) = false := by simpa using hgr
                    rw [hd]
                    have he : all.length = all3.length := by have := Hge3.out; omega
                    have hde : decide (((all4.length : Nat) : Int) > ((all3.length : Nat) : Int)) = decide (all.length < all4.length) := by rw [he]; simp
                    go_wp2_with (go_at_call 42; (with_reducible refine hin.mono ?_); rintro _ w5 ⟨v5, rfl, h5, b5⟩; clear hin; obtain ⟨q5, c5, rfl, _, _⟩ := h5.intForm; have H5 := Lib.hid h5; have B5 := Lib.hid b5; clear h5 b5)
                    go_roundw
                    case rel => exact ⟨all4, k + 1, by go_num, by omega, by first | rfl | (rw [he]) | (rw [he]; simp), H5.out, Hb3.out.trans (B5.out.mono Hb3.out.size), Lib.hid ⟨Nat.le_trans H3.out.1 Hg.out, Hsub.out, by rw [Htk.out, ← List.append_assoc]; exact HP.out⟩⟩
                    case measure => simp [intOf]; omega
                · have hkl : k = L.length := by omega
                  subst hkl
                  have Hfin : Hid (Pass (forR ls ws1) O (txnsOf ls) all (pre ++ L) all3 ∧ (all3.length = all.length → ∀ x ∈ all.take (i + 1), ∀ y ∈ forR ls ws1 x, y ∈ pre ++ L)) := by
                    refine Lib.hid ⟨by have := H3.out.2.2; rw [List.take_length] at this; exact this, fun e => ?_⟩
                    have h23 := H3.out.1
                    have hge := Hp.out.1.ge
                    have e2 : all2.length = all.length := by omega
                    obtain ⟨e3, _⟩ := Hp.out.1.same e2
                    subst e3
                    intro z hz y hy
                    rw [List.take_add_one, Hx.out] at hz
                    rcases List.mem_append.1 hz with hz | hz
                    · exact List.mem_append.2 (.inl (Hp.out.2 rfl z hz y hy))
                    · have e4 : z = x := by simpa using hz
                      subst e4
                      exact List.mem_append.2 (.inr (by rw [HLe.out] at hy; exact hy))
                  have hi3 : i + 1 ≤ all3.length := by have := H3.out.1; omega
                  have hil : i < ls.length := by omega
                  have Hb5 := Lib.hid (Hb4.out.trans (Hb3.out.mono Hb4.out.size))
                  go_wp2
                  go_roundw
                  case rel => exact ⟨all3, pre ++ L, i + 1, by go_num, rfl, hi3, HS3.out, Hb5.out, Hfin⟩
                  case measure => simp [intOf]; omega
            · have hil : i = all2.length := by omega
              subst hil
              have Hsh : Hid (decide (all.length < all2.length) = false → Shut (forR ls ws1) all2) := Lib.hid (fun e => Pass.shut Hp.out.1 (fun x hx y hy => by
                have hge := Hp.out.1.ge
                have e1 : ¬ all.length < all2.length := by simpa using e
                have e2 : all2.length = all.length := by omega
                exact Hp.out.2 e2 x (by rw [e2, List.take_length]; exact hx) y hy) (by simpa using e))
              have hge := Hp.out.1.ge
              go_wp2
              go_roundw
              case rel => exact ⟨all2, decide (all.length < all2.length), rfl, HS2.out, Hb2.out, Lib.hid ⟨Hp.out.1.clo, Hsh.out⟩⟩
              case measure =>
                simp only [truthOf, lenOf, if_true]
                by_cases e : all.length < all2.length
                · simp only [e, decide_true, if_true]; omega
                · simp only [e, decide_false]; simp; omega
  · go_upto_region 8 with fail
    have HM2 := HM
    clear HM
    have hne : ((0 : Int) == md) = false := by have := Hm.out; simp; omega
    rw [← hmd] at HM2
    clear hmd
    have x2 := HM2.out.x2
    have x0 := HM2.out.x0
    have x1 := HM2.out.x1
    have hag := ragainst_any HM2.out.tab ⟨txn, page, md⟩ hl
    go_upto_region 11 with (go_at_call 41; (with_reducible refine hag.mono ?_); rintro _ w3 ⟨v3, rfl, h3, b3⟩; clear hag; have H3 := Lib.hid h3; have HM3 := Lib.hid (HM2.out.below b3); clear h3 b3)
    clear x0 x1 x2 hne
    obtain ⟨q3, c3, rfl, hc3, hm3⟩ := H3.out.intForm
    generalize hO : againstR ls ⟨txn, page, md⟩ = O at H3 hc3 ⊢
    have HO := Lib.hid hO
    clear hO
    have hlw := HM3.out.tab.lt
    by_cases hn : O = []
    · subst hn
      have HR0 : Hid (∀ cb, restR ls ws ws1 txn page md cb = if hasR ls txn page then (0, setR ls txn page md, ws1) else if 256 ≤ ls.length then (15, ls, ws1) else (0, ls ++ [⟨txn, page, md⟩], ws1)) := Lib.hid (fun cb => by unfold restR; rw [HO.out, if_neg (by simp)])
      have hcb : Hid ((false = true) ↔ ∃ o ∈ againstR ls ⟨txn, page, md⟩, RReach (forR ls ws1) o txn) := Lib.hid (by rw [HO.out]; simp)
      clear H3 HO hc3
      rw [List.length_nil]
      have c0 := HM3.out.tab.c0
      go_wp2
      go_loop [19] (fun i => ∃ k : Nat, i = .int .i64 k ∧ k ≤ ls.length ∧ Hid (∀ i y, i < k → ls[i]? = some y → (y.txn == txn && y.page == page) = false)) (fun i => ls.length - (intOf i).toNat)
      case atStart => exact ⟨0, rfl, by omega, Lib.hid (fun i y hi => absurd hi (Nat.not_lt_zero _))⟩
      case round =>
        obtain ⟨k, rfl, hk, Hall⟩ := hrel
        have fb0 : w3.frozen? ⟨b, 0, none⟩ = false := free_in HM3.out.tab.self
        by_cases hlt : k < ls.length
        · obtain ⟨x, hx⟩ : ∃ x, ls[k]? = some x := ⟨_, List.getElem?_eq_getElem hlt⟩
          obtain ⟨g, c', ev, _, d0, d1, d2⟩ := HM3.out.tab.locks.at hx
          injection ev with e1 _ e3
          subst e1 e3
          have Hx := Lib.hid hx
          have hki : (k : Int) < (ls.length : Int) := by omega
          by_cases e1 : x.txn = txn
          · by_cases e2 : x.page = page
            · have hset := setR_at Hall.out hx e1 e2 (m := md)
              have hhas2 : hasR ls txn page = true := List.any_eq_true.2 ⟨x, List.mem_of_getElem? hx, by simp [e1, e2]⟩
              have HR : Hid (∀ cb, restR ls ws ws1 txn page md cb = (0, ls.set k ⟨x.txn, x.page, md⟩, ws1)) := Lib.hid (fun cb => by rw [HR0.out cb, if_pos hhas2, hset])
              clear hset hhas2 HR0 hx Hall
              go_upto_region 37 with fail
              have fg : ∀ i, w3.frozen? ⟨g, i, none⟩ = false := World.ownsRow.frozenAt HM3.out.tab.locks
              have x2 := HM3.out.x2
              refine wp_region_textP [] (fun _ _ => False) (fun w' => Keeps (fun _ => False) w3 w') [] 7 (by kernel_rfl) (fun q hq => by simp at hq) (fun q hq => by simp at hq) (by kernel_rfl) ((Keeps.refl _ _).drew) (fun q hq => by simp at hq) ?_
              simp only [List.take_succ_cons, List.take_zero, List.drop_succ_cons, List.drop_zero]
              repeat (first | (refine text_pure (v := ?_) (by rfl) (fun w' => ?_) ?_; rotate_left; (focus ( go_simp; first | done | with_reducible rfl)); simp only [Act.put, List.setIfInBounds_toArray, List.set_cons_zero, List.set_cons_succ]) | (refine text_skip (by rfl) ?_; simp only [Act.put, List.setIfInBounds_toArray, List.set_cons_zero, List.set_cons_succ]))
              (refine text_read (v := ?_) (by rfl) (by kernel_rfl) (fun w' hB hm => ?_) ?_; rotate_left; (focus (have hcA := hB.1.cell c0 (fun e => e); (try clear hm); (try clear hB); go_simp; first | done | with_reducible rfl)); simp only [Act.put, List.setIfInBounds_toArray, List.set_cons_zero, List.set_cons_succ])
              repeat (first | (refine text_pure (v := ?_) (by rfl) (fun w' => ?_) ?_; rotate_left; (focus ( go_simp; first | done | with_reducible rfl)); simp only [Act.put, List.setIfInBounds_toArray, List.set_cons_zero, List.set_cons_succ]) | (refine text_skip (by rfl) ?_; simp only [Act.put, List.setIfInBounds_toArray, List.set_cons_zero, List.set_cons_succ]))
              (refine text_read (v := ?_) (by rfl) (by kernel_rfl) (fun w' hB hm => ?_) ?_; rotate_left; (focus (have hcA := hB.1.cell x2 (fun e => e); (try clear hm); (try clear hB); go_simp; first | done | with_reducible rfl)); simp only [Act.put, List.setIfInBounds_toArray, List.set_cons_zero, List.set_cons_succ])
              refine text_nil fun w8 hB hF => ?_
              have d2' := Keeps.cell hB d2 (fun e => e)
              have fg' : w8.frozen? ⟨g, k * 3 + 2, none⟩ = false := by
                rw [World.frozen?_of_block (w := w3) (a := ⟨g, k * 3 + 2, none⟩) (hB.block g (World.block_lt_of_cell? w3 _ d2) (fun e => e))]; exact fg _
              have hfin := TabAt.setMode HM3.out.tab (k := k) hB rfl Hx.out md
              have Hfin := Lib.hid hfin
              clear hF hB hfin fg
              go_wp2
              refine Calm.normal ?_
              go_wp2
              go_ret
              exact ⟨false, hcb.out, by rw [HR.out false]; exact HM3.out.done Hfin.out.1 Hfin.out.2 (fun k e => .inl e)⟩
            · have hn : Hid (∀ i y, i < k + 1 → ls[i]? = some y → (y.txn == txn && y.page == page) = false) := Lib.hid (fun i y hi hy => by
                by_cases e : i = k
                · subst e; have e3 := Hx.out.symm.trans hy; injection e3 with e3; subst e3; simp [e2]
                · exact Hall.out i y (by omega) hy)
              clear hx
              go_wp2
              go_round
              case rel => exact ⟨k + 1, by go_num, by omega, hn⟩
              case measure => simp [intOf]; omega
          · have hn : Hid (∀ i y, i < k + 1 → ls[i]? = some y → (y.txn == txn && y.page == page) = false) := Lib.hid (fun i y hi hy => by
              by_cases e : i = k
              · subst e; have e3 := Hx.out.symm.trans hy; injection e3 with e3; subst e3; simp [e1]
              · exact Hall.out i y (by omega) hy)
            clear hx
            go_wp2
            go_round
            case rel => exact ⟨k + 1, by go_num, by omega, hn⟩
            case measure => simp [intOf]; omega
        · have hkl : k = ls.length := by omega
          subst hkl
          have hhas2 : hasR ls txn page = false := by
            unfold hasR
            rw [List.any_eq_false]
            intro x hx
            obtain ⟨i, hi, e⟩ := List.getElem_of_mem hx
            have := Hall.out i x hi (by rw [List.getElem?_eq_getElem hi, e])
            simp [this]
          have HR1 : Hid (∀ cb, restR ls ws ws1 txn page md cb = if 256 ≤ ls.length then (15, ls, ws1) else (0, ls ++ [⟨txn, page, md⟩], ws1)) := Lib.hid (fun cb => by rw [HR0.out cb, if_neg (by rw [hhas2]; simp)])
          clear hhas2 HR0 Hall hlt
          by_cases h256 : 256 ≤ ls.length
          · have HR : Hid (restR ls ws ws1 txn page md false = (15, ls, ws1)) := Lib.hid (by rw [HR1.out, if_pos h256])
            go_wp2
            go_ret
            exact ⟨false, hcb.out, by rw [HR.out]; exact HM3.out.post⟩
          · have HR : Hid (restR ls ws ws1 txn page md false = (0, ls ++ [⟨txn, page, md⟩], ws1)) := Lib.hid (by rw [HR1.out, if_neg h256])
            clear HR1
            go_upto_region 41 with fail
            have X0 := HM3.out.x0
            have X1 := HM3.out.x1
            have X2 := HM3.out.x2
            have Hob : Hid (¬ (Value.slice ql ls.length cl).ownBlock = some b) := Lib.hid HM3.out.tab.ap1
            have Hox : Hid (¬ (Value.slice ql ls.length cl).ownBlock = some bx) := Lib.hid (fun e => HM3.out.far (.inr (.inl e)))
            have Hl : Hid (ls.length ≤ 1000000) := Lib.hid hl
            have HBw : Hid (B ≤ w3.heap.size) := Lib.hid (Nat.le_trans HB.out HM3.out.old.size)
            refine wp_region_textP [7] (fun m k => m = 7 ∧ (Value.slice ql ls.length cl).ownBlock = some k) (fun w' => Keeps (fun k => (Value.slice ql ls.length cl).ownBlock = some k) w3 w') [⟨7, fun w' => RowK w' B (.slice ql ls.length cl) ls⟩] 8 (by kernel_rfl) ?_ ?_ (by kernel_rfl) ((Keeps.refl _ _).drew) ?_ ?_
            · intro q hq; simp at hq; subst hq; rfl
            · intro q hq m wa wb hm hs hk
              simp at hq
              subst hq
              exact RowK.keeps hs hk (fun k e e' => hm e'.1)
            · intro q hq; simp at hq; subst hq; exact RowK.keeps HM3.out.tab.locks ((Keeps.refl (fun _ => False) w3).drew) (fun _ _ e => e)
            simp only [List.take_succ_cons, List.take_zero, List.drop_succ_cons, List.drop_zero]
            repeat (first | (refine text_pure (v := ?_) (by rfl) (fun w' => ?_) ?_; rotate_left; (focus ( go_simp; first | done | with_reducible rfl)); simp only [Act.put, List.setIfInBounds_toArray, List.set_cons_zero, List.set_cons_succ]) | (refine text_skip (by rfl) ?_; simp only [Act.put, List.setIfInBounds_toArray, List.set_cons_zero, List.set_cons_succ]))
            (refine text_read (v := ?_) (by rfl) (by kernel_rfl) (fun w' hB hm => ?_) ?_; rotate_left; (focus (have hcA := Keeps.cell hB.1 c0 Hob.out; (try clear hm); (try clear hB); go_simp; first | done | with_reducible rfl)); simp only [Act.put, List.setIfInBounds_toArray, List.set_cons_zero, List.set_cons_succ])
            (refine text_read (v := ?_) (by rfl) (by kernel_rfl) (fun w' hB hm => ?_) ?_; rotate_left; (focus (have X0' := Keeps.cell hB.1 X0 Hox.out; have X1' := Keeps.cell hB.1 X1 Hox.out; have X2' := Keeps.cell hB.1 X2 Hox.out; (try clear hm); (try clear hB); go_simp; first | done | with_reducible rfl)); simp only [Act.put, List.setIfInBounds_toArray, List.set_cons_zero, List.set_cons_succ])
            refine text_new (fun b6 : Nat => .slice (some ⟨b6, 0, none⟩) 1 1) (fun b6 w' => w'.heap[b6]? = some (.cells #[.int .i64 txn, .int .i64 page, .int .i64 md] 82 (0, 0)) ∧ w3.heap.size ≤ b6) (by rfl) (by kernel_rfl) (by kernel_rfl)
              (fun x y h => by injection h with h; injection h with h; injection h) (fun b6 => keepKStable fun m wa wb hm h k => ⟨k.at h.1 (fun e => by have h1 := (HM3.out.tab.locks.lt b6 e.2).2; have h2 := h.2; omega), h.2⟩) (fun w' hB hm K hK => ?_) (fun b6 => ?_)
            · unfold gives
              go_simp
              exact hK _ _ ⟨(Keeps.refl _ _).alloc _, fun h => h.trans ((Keeps.refl _ _).alloc _)⟩ ⟨heap_alloc_new _ _, Keeps.size hB.1⟩
            simp only [Act.put, List.setIfInBounds_toArray, List.set_cons_zero, List.set_cons_succ]
            refine text_new (fun x : Nat × Nat => .slice (some ⟨x.1, 0, none⟩) (ls.length + 1) x.2) (fun x w' => RowK w' B (.slice (some ⟨x.1, 0, none⟩) (ls.length + 1) x.2) (ls ++ [⟨txn, page, md⟩]) ∧ ((Value.slice ql ls.length cl).ownBlock = some x.1 ∨ w3.heap.size ≤ x.1)) (by rfl) (by kernel_rfl) (by kernel_rfl)
              (fun x y h => by obtain ⟨x1, x2⟩ := x; obtain ⟨y1, y2⟩ := y; injection h with h _ h3; injection h with h; injection h with h1 _ _; subst h1; subst h3; rfl) (fun x => keepKStable fun m wa wb hm h k => ⟨h.1.keeps k (fun k' e e' => hm e'.1), h.2⟩) (fun w' hB hm K hK => ?_) (fun x7 => ?_)
            · have hf6 := hm.1 (by kernel_rfl)
              have hrow := hB.2 ⟨7, fun w' => RowK w' B (.slice ql ls.length cl) ls⟩ (by show _ ∈ [_]; simp) rfl
              obtain ⟨g, c, w'', hr, h1, h2, h3⟩ := append_lk (x := ⟨txn, page, md⟩) (ty := 27) hrow hf6.1 (by have := Hl.out; omega) (Nat.le_trans HBw.out (Keeps.size hB.1))
              exact gives_appendK (v := .slice ql ls.length cl) (y := .slice (some ⟨b6, 0, none⟩) 1 1) rfl rfl rfl hr (hK (g, c) _ ⟨h2.mono (fun k _ e => ⟨rfl, e⟩), fun h => h.trans h2⟩ ⟨h1, h3.imp id (fun e => by have := Keeps.size hB.1; omega)⟩)
            simp only [Act.put, List.setIfInBounds_toArray, List.set_cons_zero, List.set_cons_succ]
            refine text_nil fun w8 hB hF => ?_
            obtain ⟨g7, c7⟩ := x7
            have hr7 : RowK w8 B (.slice (some ⟨g7, 0, none⟩) (ls.length + 1) c7) (ls ++ [⟨txn, page, md⟩]) ∧ ((Value.slice ql ls.length cl).ownBlock = some g7 ∨ w3.heap.size ≤ g7) := hF.1
            have hfin := TabAt.growLocks HM3.out.tab hB hr7.1 hr7.2
            have c08 := Keeps.cell hB c0 Hob.out
            have f08 : w8.frozen? ⟨b, 0, none⟩ = false := by
              rw [World.frozen?_of_block (w := w3) (a := ⟨b, 0, none⟩) (hB.block b (hlw b (.inl rfl)).2 Hob.out)]; exact fb0
            have Hfin := Lib.hid hfin
            clear hF hB hfin hr7
            go_wp2
            refine Calm.normal ?_
            go_wp2
            go_ret
            exact ⟨false, hcb.out, by rw [HR.out]; exact HM3.out.done Hfin.out.1 Hfin.out.2.1 Hfin.out.2.2⟩
    · have hpos : 0 < O.length := List.length_pos_iff.2 hn
      have hposI : (0 : Int) < (O.length : Int) := by omega
      have HR0 : Hid (∀ cb, restR ls ws ws1 txn page md cb = if cb then (18, ls, ws1) else (17, ls, ws1 ++ [⟨txn, page, md⟩])) := Lib.hid (fun cb => by unfold restR; rw [HO.out, if_pos hn])
      have HC0 : Hid (Clo (forR ls ws1) O (txnsOf ls) O) := Lib.hid (by rw [← HO.out]; exact Clo.start)
      have HT : Hid ((txnsOf ls).length = ls.length) := Lib.hid (List.length_map ..)
      have HS0 : Hid (SubRow w3 0 (.slice q3 O.length c3) (intsV O)) := Lib.hid (SubRow.weaken H3.out (Nat.zero_le _))
      clear H3
      go_wp2
      go_loopw [12, 13] (fun v12 v13 wr => ∃ (all : List Int) (more : Bool), v13 = .bool more ∧ SubRow wr 0 v12 (intsV all) ∧ Below w3.heap.size w3 wr ∧ Hid (Clo (forR ls ws1) O (txnsOf ls) all ∧ (more = false → Shut (forR ls ws1) all))) (fun v12 v13 _ => if truthOf v13 then ls.length + 1 - lenOf v12 else 0)
      case atStart => exact ⟨O, true, rfl, HS0.out, Below.refl _ _, Lib.hid ⟨HC0.out, (fun e => by cases e)⟩⟩
      case round =>
        obtain ⟨all, more, rfl, hS, hb, Hcl⟩ := hrel
        clear HC0 HS0 hposI hpos hc3 hm3
        have Hb := Lib.hid hb
        have HM4 := Lib.hid (HM3.out.below hb)
        have HS := Lib.hid hS
        obtain ⟨q12, c12, rfl, hc12, hm12⟩ := hS.intForm
        have hall : all.length ≤ ls.length := by have := Hcl.out.1.len; rw [HT.out] at this; exact this
        clear hS hb
        cases more
        · have HI : Hid (txn ∈ all ↔ ∃ o ∈ againstR ls ⟨txn, page, md⟩, RReach (forR ls ws1) o txn) := Lib.hid (by rw [HO.out]; exact Hcl.out.1.iff (Hcl.out.2 rfl) txn)
          clear Hcl
          have hlw4 := HM4.out.tab.lt
          go_wp2
          go_loop [18] (fun i => ∃ k : Nat, i = .int .i64 k ∧ k ≤ all.length ∧ Hid (∀ (i : Nat) (y : Int), i < k → all[i]? = some y → y ≠ txn)) (fun i => all.length - (intOf i).toNat)
          case atStart => exact ⟨0, rfl, by omega, Lib.hid (fun i y hi => absurd hi (Nat.not_lt_zero _))⟩
          case round =>
            obtain ⟨k, rfl, hk, Hall⟩ := hrel
            by_cases hlt : k < all.length
            · obtain ⟨y, hy⟩ : ∃ y, all[k]? = some y := ⟨_, List.getElem?_eq_getElem hlt⟩
              obtain ⟨g, o, c', ev, _, hcx⟩ := SubRow.int HS.out hy
              injection ev with e1 _ e3
              subst e1 e3
              have Hy := Lib.hid hy
              have hki : (k : Int) < (all.length : Int) := by omega
              clear hy
              by_cases e1 : y = txn
              · have hmem : txn ∈ all := e1 ▸ List.mem_of_getElem? Hy.out
                have HR : Hid (restR ls ws ws1 txn page md true = (18, ls, ws1)) := Lib.hid (by rw [HR0.out, if_pos rfl])
                have Hmem := Lib.hid hmem
                clear hmem
                go_wp2
                go_ret
                exact ⟨true, ⟨fun _ => HI.out.1 Hmem.out, fun _ => rfl⟩, by rw [HR.out]; exact HM4.out.post⟩
              · have hn2 : Hid (∀ (i : Nat) (y : Int), i < k + 1 → all[i]? = some y → y ≠ txn) := Lib.hid (fun i z hi hz => by
                  by_cases e : i = k
                  · subst e; have e3 := Hy.out.symm.trans hz; injection e3 with e3; subst e3; exact e1
                  · exact Hall.out i z (by omega) hz)
                go_wp2
                go_round
                case rel => exact ⟨k + 1, by go_num, by omega, hn2⟩
                case measure => simp [intOf]; omega
            · have hkl : k = all.length := by omega
              subst hkl
              have hcb : Hid ((false = true) ↔ ∃ o ∈ againstR ls ⟨txn, page, md⟩, RReach (forR ls ws1) o txn) := Lib.hid ⟨(fun e => by cases e), fun e => by
                obtain ⟨i, hi, e2⟩ := List.getElem_of_mem (HI.out.2 e)
                exact absurd rfl (Hall.out i txn hi (by rw [List.getElem?_eq_getElem hi, e2]))⟩
              have HR : Hid (restR ls ws ws1 txn page md false = (17, ls, ws1 ++ [⟨txn, page, md⟩])) := Lib.hid (by rw [HR0.out]; rfl)
              have c1 := HM4.out.tab.c1
              have fb1 : wr.frozen? ⟨b, 1, none⟩ = false := free_in HM4.out.tab.self
              clear HR0 Hall hlt
              go_upto_region 31 with fail
              have X0 := HM4.out.x0
              have X1 := HM4.out.x1
              have X2 := HM4.out.x2
              have Hob : Hid (¬ (Value.slice qw ws1.length cw).ownBlock = some b) := Lib.hid HM4.out.tab.ap2
              have Hox : Hid (¬ (Value.slice qw ws1.length cw).ownBlock = some bx) := Lib.hid (fun e => HM4.out.far (.inr (.inr e)))
              have Hl : Hid (ws1.length ≤ 1000000) := Lib.hid hwl
              have HBw : Hid (B ≤ wr.heap.size) := Lib.hid (Nat.le_trans HB.out HM4.out.old.size)
              refine wp_region_textP [7] (fun m k => m = 7 ∧ (Value.slice qw ws1.length cw).ownBlock = some k) (fun w' => Keeps (fun k => (Value.slice qw ws1.length cw).ownBlock = some k) wr w') [⟨7, fun w' => RowK w' B (.slice qw ws1.length cw) ws1⟩] 8 (by kernel_rfl) ?_ ?_ (by kernel_rfl) ((Keeps.refl _ _).drew) ?_ ?_
              · intro q hq; simp at hq; subst hq; rfl
              · intro q hq m wa wb hm hs hk
                simp at hq
                subst hq
                exact RowK.keeps hs hk (fun k e e' => hm e'.1)
              · intro q hq; simp at hq; subst hq; exact RowK.keeps HM4.out.tab.waits ((Keeps.refl (fun _ => False) wr).drew) (fun _ _ e => e)
              simp only [List.take_succ_cons, List.take_zero, List.drop_succ_cons, List.drop_zero]
              repeat (first | (refine text_pure (v := ?_) (by rfl) (fun w' => ?_) ?_; rotate_left; (focus ( go_simp; first | done | with_reducible rfl)); simp only [Act.put, List.setIfInBounds_toArray, List.set_cons_zero, List.set_cons_succ]) | (refine text_skip (by rfl) ?_; simp only [Act.put, List.setIfInBounds_toArray, List.set_cons_zero, List.set_cons_succ]))
              (refine text_read (v := ?_) (by rfl) (by kernel_rfl) (fun w' hB hm => ?_) ?_; rotate_left; (focus (have hcA := Keeps.cell hB.1 c1 Hob.out; (try clear hm); (try clear hB); go_simp; first | done | with_reducible rfl)); simp only [Act.put, List.setIfInBounds_toArray, List.set_cons_zero, List.set_cons_succ])
              (refine text_read (v := ?_) (by rfl) (by kernel_rfl) (fun w' hB hm => ?_) ?_; rotate_left; (focus (have X0' := Keeps.cell hB.1 X0 Hox.out; have X1' := Keeps.cell hB.1 X1 Hox.out; have X2' := Keeps.cell hB.1 X2 Hox.out; (try clear hm); (try clear hB); go_simp; first | done | with_reducible rfl)); simp only [Act.put, List.setIfInBounds_toArray, List.set_cons_zero, List.set_cons_succ])
              refine text_new (fun b6 : Nat => .slice (some ⟨b6, 0, none⟩) 1 1) (fun b6 w' => w'.heap[b6]? = some (.cells #[.int .i64 txn, .int .i64 page, .int .i64 md] 82 (0, 0)) ∧ wr.heap.size ≤ b6) (by rfl) (by kernel_rfl) (by kernel_rfl)
                (fun x y h => by injection h with h; injection h with h; injection h) (fun b6 => keepKStable fun m wa wb hm h k => ⟨k.at h.1 (fun e => by have h1 := (HM4.out.tab.waits.lt b6 e.2).2; have h2 := h.2; omega), h.2⟩) (fun w' hB hm K hK => ?_) (fun b6 => ?_)
              · unfold gives
                go_simp
                exact hK _ _ ⟨(Keeps.refl _ _).alloc _, fun h => h.trans ((Keeps.refl _ _).alloc _)⟩ ⟨heap_alloc_new _ _, Keeps.size hB.1⟩
              simp only [Act.put, List.setIfInBounds_toArray, List.set_cons_zero, List.set_cons_succ]
              refine text_new (fun x : Nat × Nat => .slice (some ⟨x.1, 0, none⟩) (ws1.length + 1) x.2) (fun x w' => RowK w' B (.slice (some ⟨x.1, 0, none⟩) (ws1.length + 1) x.2) (ws1 ++ [⟨txn, page, md⟩]) ∧ ((Value.slice qw ws1.length cw).ownBlock = some x.1 ∨ wr.heap.size ≤ x.1)) (by rfl) (by kernel_rfl) (by kernel_rfl)
                (fun x y h => by obtain ⟨x1, x2⟩ := x; obtain ⟨y1, y2⟩ := y; injection h with h _ h3; injection h with h; injection h with h1 _ _; subst h1; subst h3; rfl) (fun x => keepKStable fun m wa wb hm h k => ⟨h.1.keeps k (fun k' e e' => hm e'.1), h.2⟩) (fun w' hB hm K hK => ?_) (fun x7 => ?_)
              · have hf6 := hm.1 (by kernel_rfl)
                have hrow := hB.2 ⟨7, fun w' => RowK w' B (.slice qw ws1.length cw) ws1⟩ (by show _ ∈ [_]; simp) rfl
                obtain ⟨g, c, w'', hr, h1, h2, h3⟩ := append_lk (x := ⟨txn, page, md⟩) (ty := 27) hrow hf6.1 (by have := Hl.out; omega) (Nat.le_trans HBw.out (Keeps.size hB.1))
                exact gives_appendK (v := .slice qw ws1.length cw) (y := .slice (some ⟨b6, 0, none⟩) 1 1) rfl rfl rfl hr (hK (g, c) _ ⟨h2.mono (fun k _ e => ⟨rfl, e⟩), fun h => h.trans h2⟩ ⟨h1, h3.imp id (fun e => by have := Keeps.size hB.1; omega)⟩)
              simp only [Act.put, List.setIfInBounds_toArray, List.set_cons_zero, List.set_cons_succ]
              refine text_nil fun w8 hB hF => ?_
              obtain ⟨g7, c7⟩ := x7
              have hr7 : RowK w8 B (.slice (some ⟨g7, 0, none⟩) (ws1.length + 1) c7) (ws1 ++ [⟨txn, page, md⟩]) ∧ ((Value.slice qw ws1.length cw).ownBlock = some g7 ∨ wr.heap.size ≤ g7) := hF.1
              have hfin := TabAt.growWaits HM4.out.tab hB hr7.1 hr7.2
              have c18 := Keeps.cell hB c1 Hob.out
              have f18 : w8.frozen? ⟨b, 1, none⟩ = false := by
                rw [World.frozen?_of_block (w := wr) (a := ⟨b, 1, none⟩) (hB.block b (hlw4 b (.inl rfl)).2 Hob.out)]; exact fb1
              have Hfin := Lib.hid hfin
              clear hF hB hfin hr7
              go_wp2
              refine Calm.normal ?_
              go_wp2
              go_ret
              exact ⟨false, hcb.out, by rw [HR.out]; exact HM4.out.done Hfin.out.1 Hfin.out.2.1 Hfin.out.2.2⟩
        · go_wp2
          go_loopw [12, 13, 14] (fun v12 v13 v14 wr2 => ∃ (all2 pre : List Int) (i : Nat), v14 = .int .i64 i ∧ v13 = .bool (decide (all.length < all2.length)) ∧ i ≤ all2.length ∧ SubRow wr2 0 v12 (intsV all2) ∧ Below w3.heap.size w3 wr2 ∧ Hid (Pass (forR ls ws1) O (txnsOf ls) all pre all2 ∧ (all2.length = all.length → ∀ x ∈ all.take i, ∀ y ∈ forR ls ws1 x, y ∈ pre))) (fun _ _ v14 _ => ls.length - (intOf v14).toNat)
          case atStart => exact ⟨all, [], 0, rfl, by simp, Nat.zero_le _, HS.out, Hb.out, Lib.hid ⟨Pass.start Hcl.out.1, fun _ x hx => by simp at hx⟩⟩
          case round =>
            obtain ⟨all2, pre, i, rfl, rfl, hi, hS, hb2, Hp⟩ := hrel
            have Hb2 := Lib.hid hb2
            have HM5 := Lib.hid (HM3.out.below hb2)
            have HS2 := Lib.hid hS
            obtain ⟨q22, c22, rfl, hc22, hm22⟩ := hS.intForm
            have hall2 : all2.length ≤ ls.length := by have := Hp.out.1.clo.len; rw [HT.out] at this; exact this
            clear hS hb2
            by_cases hlt : i < all2.length
            · obtain ⟨x, hx⟩ : ∃ x, all2[i]? = some x := ⟨_, List.getElem?_eq_getElem hlt⟩
              obtain ⟨g, o, c', ev, _, hcx⟩ := SubRow.int HS2.out hx
              injection ev with e1 _ e3
              subst e1 e3
              have Hx := Lib.hid hx
              have hki : (i : Int) < (all2.length : Int) := by omega
              have hfor := rfor_any HM5.out.tab x hl
              have HL : Hid (∀ y ∈ forR ls ws1 x, y ∈ txnsOf ls) := Lib.hid (fun y hy => forR_txns hy)
              obtain ⟨L, hLe⟩ : ∃ L, forR ls ws1 x = L := ⟨_, rfl⟩
              have hLl : (forR ls ws1 x).length ≤ 1000000 := Nat.le_trans (forR_len ls ws1 x) hl
              rw [hLe] at hfor HL hLl
              have HLe := Lib.hid hLe
              clear hx hLe
              go_upto_region 20 with (go_at_call 20; (with_reducible refine hfor.mono ?_); rintro _ w4 ⟨v15, rfl, h15, b15⟩; clear hfor; have H15 := Lib.hid h15; have B15 := Lib.hid b15; clear h15 b15)
              obtain ⟨q15, c15, rfl, hc15, hm15⟩ := H15.out.intForm
              have HS4 := Lib.hid (SubRow.below HS2.out B15.out)
              have Hb4 := Lib.hid (Hb2.out.trans (B15.out.mono Hb2.out.size))
              clear hcx
              go_wp2
              go_loopw [12, 13, 16] (fun v12 v13 v16 wr3 => ∃ (all3 : List Int) (k : Nat), v16 = .int .i64 k ∧ k ≤ L.length ∧ v13 = .bool (decide (all.length < all3.length)) ∧ SubRow wr3 0 v12 (intsV all3) ∧ Below w4.heap.size w4 wr3 ∧ Hid (all2.length ≤ all3.length ∧ (∀ z ∈ all2, z ∈ all3) ∧ Pass (forR ls ws1) O (txnsOf ls) all (pre ++ L.take k) all3)) (fun _ _ v16 _ => L.length - (intOf v16).toNat)
              case atStart => exact ⟨all2, 0, rfl, Nat.zero_le _, rfl, HS4.out, Below.refl _ _, Lib.hid ⟨Nat.le_refl _, fun _ h => h, by rw [List.take_zero, List.append_nil]; exact Hp.out.1⟩⟩
              case round =>
                obtain ⟨all3, k, rfl, hk, rfl, hS3, hb3, H3⟩ := hrel
                have Hb3 := Lib.hid hb3
                have HS3 := Lib.hid hS3
                obtain ⟨q33, c33, rfl, hc33, hm33⟩ := hS3.intForm
                clear hS3 hb3
                by_cases hlt3 : k < L.length
                · obtain ⟨y, hy⟩ : ∃ y, L[k]? = some y := ⟨_, List.getElem?_eq_getElem hlt3⟩
                  have H15' := Lib.hid (SubRow.below H15.out Hb3.out)
                  obtain ⟨g5, o5, c5', ev, _, hcy⟩ := SubRow.int H15'.out hy
                  injection ev with e1 _ e3
                  subst e1 e3
                  have hki3 : (k : Int) < (L.length : Int) := by omega
                  have hmy := List.mem_of_getElem? hy
                  have hal3 : all3.length ≤ 1000000 := by have := H3.out.2.2.clo.len; rw [HT.out] at this; omega
                  have hin := rinsert_any HS3.out y hal3 (Nat.zero_le _)
                  have htk : L.take (k + 1) = L.take k ++ [y] := by rw [List.take_add_one, hy]; rfl
                  have HP := Lib.hid (Pass.ins H3.out.2.2 (H3.out.2.1 x (List.mem_of_getElem? Hx.out)) (by rw [HLe.out]; exact hmy) (HL.out y hmy))
                  have Hg := Lib.hid (insertR_grow all3 y)
                  have Htk := Lib.hid htk
                  have Hsub : Hid (∀ z ∈ all2, z ∈ insertR all3 y) := Lib.hid (fun z hz => (mem_insertR _ _ _).2 (.inr (H3.out.2.1 z hz)))
                  have Hge3 := Lib.hid H3.out.2.2.ge
                  obtain ⟨all4, h4⟩ : ∃ all4, insertR all3 y = all4 := ⟨_, rfl⟩
                  rw [h4] at hin HP Hg Hsub
                  clear hy hmy htk h4
                  by_cases hgr : all.length < all3.length
                  · have hd : decide (all.length < all3.length) = true := by simpa using hgr
                    rw [hd]
                    go_wp2_with (go_at_call 42; (with_reducible refine hin.mono ?_); rintro _ w5 ⟨v5, rfl, h5, b5⟩; clear hin; obtain ⟨q5, c5, rfl, _, _⟩ := h5.intForm; have H5 := Lib.hid h5; have B5 := Lib.hid b5; clear h5 b5)
                    go_roundw
                    case rel => exact ⟨all4, k + 1, by go_num, by omega, by have := Hg.out; simp; omega, H5.out, Hb3.out.trans (B5.out.mono Hb3.out.size), Lib.hid ⟨Nat.le_trans H3.out.1 Hg.out, Hsub.out, by rw [Htk.out, ← List.append_assoc]; exact HP.out⟩⟩
                    case measure => simp [intOf]; omega
                  · have hd : decide (all.length < all3.length) = false := by simpa using hgr
                    rw [hd]
                    have he : all.length = all3.length := by have := Hge3.out; omega
                    have hde : decide (((all4.length : Nat) : Int) > ((all3.length : Nat) : Int)) = decide (all.length < all4.length) := by rw [he]; simp
                    go_wp2_with (go_at_call 42; (with_reducible refine hin.mono ?_); rintro _ w5 ⟨v5, rfl, h5, b5⟩; clear hin; obtain ⟨q5, c5, rfl, _, _⟩ := h5.intForm; have H5 := Lib.hid h5; have B5 := Lib.hid b5; clear h5 b5)
                    go_roundw
                    case rel => exact ⟨all4, k + 1, by go_num, by omega, by first | rfl | (rw [he]) | (rw [he]; simp), H5.out, Hb3.out.trans (B5.out.mono Hb3.out.size), Lib.hid ⟨Nat.le_trans H3.out.1 Hg.out, Hsub.out, by rw [Htk.out, ← List.append_assoc]; exact HP.out⟩⟩
                    case measure => simp [intOf]; omega
                · have hkl : k = L.length := by omega
                  subst hkl
                  have Hfin : Hid (Pass (forR ls ws1) O (txnsOf ls) all (pre ++ L) all3 ∧ (all3.length = all.length → ∀ x ∈ all.take (i + 1), ∀ y ∈ forR ls ws1 x, y ∈ pre ++ L)) := by
                    refine Lib.hid ⟨by have := H3.out.2.2; rw [List.take_length] at this; exact this, fun e => ?_⟩
                    have h23 := H3.out.1
                    have hge := Hp.out.1.ge
                    have e2 : all2.length = all.length := by omega
                    obtain ⟨e3, _⟩ := Hp.out.1.same e2
                    subst e3
                    intro z hz y hy
                    rw [List.take_add_one, Hx.out] at hz
                    rcases List.mem_append.1 hz with hz | hz
                    · exact List.mem_append.2 (.inl (Hp.out.2 rfl z hz y hy))
                    · have e4 : z = x := by simpa using hz
                      subst e4
                      exact List.mem_append.2 (.inr (by rw [HLe.out] at hy; exact hy))
                  have hi3 : i + 1 ≤ all3.length := by have := H3.out.1; omega
                  have hil : i < ls.length := by omega
                  have Hb5 := Lib.hid (Hb4.out.trans (Hb3.out.mono Hb4.out.size))
                  go_wp2
                  go_roundw
                  case rel => exact ⟨all3, pre ++ L, i + 1, by go_num, rfl, hi3, HS3.out, Hb5.out, Hfin⟩
                  case measure => simp [intOf]; omega
            · have hil : i = all2.length := by omega
              subst hil
              have Hsh : Hid (decide (all.length < all2.length) = false → Shut (forR ls ws1) all2) := Lib.hid (fun e => Pass.shut Hp.out.1 (fun x hx y hy => by
                have hge := Hp.out.1.ge
                have e1 : ¬ all.length < all2.length := by simpa using e
                have e2 : all2.length = all.length := by omega
                exact Hp.out.2 e2 x (by rw [e2, List.take_length]; exact hx) y hy) (by simpa using e))
              have hge := Hp.out.1.ge
              go_wp2
              go_roundw
              case rel => exact ⟨all2, decide (all.length < all2.length), rfl, HS2.out, Hb2.out, Lib.hid ⟨Hp.out.1.clo, Hsh.out⟩⟩
              case measure =>
                simp only [truthOf, lenOf, if_true]
                by_cases e : all.length < all2.length
                · simp only [e, decide_true, if_true]; omega
                · simp only [e, decide_false]; simp; omega
end
end Go.Proofs.Ytnficiohnhodiaa.Pre
