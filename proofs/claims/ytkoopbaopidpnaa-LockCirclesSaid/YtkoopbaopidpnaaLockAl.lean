import Derived.Test.YtkoopbaopidpnaaLockFr
/-
  LockAlone.
-/
namespace Go.Proofs.Ytkoopbaopidpnaa
open Go.RowKit
theorem alone {t : LT} {n : Nat} (g : t.Good n) {page a b : Int} (ha : a ∈ (t.holders page).map (·.1)) (hb : b ∈ (t.holders page).map (·.1)) (hne : a ≠ b) :
    t.holds a page = t.holds b page ∧ t.holds a page ≠ 3 ∧ t.holds a page ≠ 0 := by
  obtain ⟨x, hx⟩ := aget_isSome ha
  obtain ⟨y, hy⟩ := aget_isSome hb
  have e1 : t.holds a page = x := by unfold LT.holds; rw [hx]; rfl
  have e2 : t.holds b page = y := by unfold LT.holds; rw [hy]; rfl
  have h1 := g.ok page _ (aget_mem hx) _ (aget_mem hy) hne
  have h2 := (g.modes page _ (aget_mem hx)).1
  simp at h1 h2
  rw [e1, e2]; exact ⟨h1.1, h1.2, by omega⟩
theorem below_dr {B : Nat} {a w : World} (h : Below B a w) (n : Nat) : Below B a (w.drewN n) := h.trans ⟨rfl, rfl, rfl, Nat.le_refl _, fun _ _ => rfl⟩
theorem IntRow.weaken {w : World} {q : Option Addr} {L : List Int} {B : Nat} (h : IntRow w q L B) : IntRow w q L 0 := fun j x hx => by obtain ⟨g, h1, _, h3⟩ := h j x hx; exact ⟨g, h1, Nat.zero_le _, h3⟩
structure AlR (w wr : World) (p mp mw : Nat) (t : LT) (q : Option Addr) (L : List Int) (bx : Nat) (pg : Int) : Prop where
  tb : TB w wr p mp mw t
  row : IntRow wr q L 0
  box : wr.cell? ⟨bx, 2, none⟩ = some (.int .i64 pg)
theorem AlR.drewN {w wr : World} {p mp mw : Nat} {t : LT} {q : Option Addr} {L : List Int} {bx : Nat} {pg : Int} (h : AlR w wr p mp mw t q L bx pg) (n : Nat) : AlR w (wr.drewN n) p mp mw t q L bx pg :=
  ⟨h.tb.below (below_dr (Below.refl _ _) n), h.row.keeps (S := fun _ => False) ((Keeps.refl _ _).drewN n) (fun _ hf => hf.elim), h.box⟩
theorem nodup_ne {L : List Int} (nd : L.Nodup) {i j : Nat} {a b : Int} (ha : L[i]? = some a) (hb : L[j]? = some b) (h : j < i) : a ≠ b := by
  rintro rfl
  obtain ⟨h1, e1⟩ := List.getElem?_eq_some_iff.1 ha
  obtain ⟨h2, e2⟩ := List.getElem?_eq_some_iff.1 hb
  have := (List.getElem_inj nd).1 (e1.trans e2.symm)
  omega
set_option maxRecDepth 100000 in
set_option maxHeartbeats 8000000 in
theorem lockAlone_ok (a : Option Addr) (len cap : Nat) (zs : List OpL) (w : World) (hz : IsOps w a len cap zs) (hlen : len ≤ 200) (hl : zs.length = len) (hcap : len ≤ cap) :
    Calls Try.prog 6 #[.slice a len cap] w fun e w' => e = .returned (.bool true) ∧ Below w.heap.size w w' := by
  have hal := alive_any w
  go_enter Try.func6, Try.ntmps6
  go_wp2_with (first
    | (go_at_call 10; (with_reducible refine hal.mono ?_); rintro _ w1 ⟨rfl, hb1⟩; clear hal; have hn := new_tb w w1 hb1)
    | (go_at_call 11; (with_reducible refine hn.mono ?_); rintro _ w2 ⟨p, mp, mw, rfl, h2, _, _⟩; clear hn))
  have Hz := Lib.hid hz; clear hz
  have Hl := Lib.hid hl; clear hl
  go_loopw [23] (fun i wr => ∃ k : Nat, ∃ t : LT, k ≤ len ∧ i = .int .i64 k ∧ TB w wr p mp mw t ∧ t.Good k) (fun i _ => len - (intOf i).toNat)
  case atStart => exact ⟨0, LT.empty, by omega, rfl, h2, good_empty⟩
  case round =>
    obtain ⟨k, t, hk, rfl, ht, hg⟩ := hrel
    by_cases hlt : k < len
    · obtain ⟨o, ho⟩ : ∃ o, zs[k]? = some o := ⟨_, List.getElem?_eq_getElem (by rw [Hl.out]; exact hlt)⟩
      obtain ⟨x, rfl⟩ := ops_some Hz.out ho
      obtain ⟨c0, c1, c2, c3⟩ := ops_at Hz.out ht.bel k o ho
      have hw := (wf_ops Hz.out ho).2.1
      have Hw : Hid (wfI o.txn) := hw
      clear ho hw
      have h3 := ht.below ((Below.refl _ _).alloc (Nat.le_refl _) (.cells #[.int .i64 o.kind, .int .i64 o.txn, .int .i64 o.page, .int .i64 o.mode] 27))
      have hc := take_tb o.txn o.page o.mode h3 (hg.fit (by omega))
      have hr := release_tb o.txn h3 (hg.fit (by omega))
      obtain ⟨bk, hk2⟩ : ∃ b : Bool, (o.kind == 1) = b := ⟨_, rfl⟩
      cases bk
      all_goals
        go_wp2_with (first
          | (go_at_call 13; (with_reducible refine hc.mono ?_); rintro _ w4 ⟨m, rfl, h4⟩; clear hc hr; have hg4 := hg.take (m := m) ht.lay.wkeys o.page o.mode Hw.out; generalize (t.take o.txn o.page o.mode m).2 = tt at h4 hg4)
          | (go_at_call 12; (with_reducible refine hr.mono ?_); rintro _ w4 ⟨rfl, h4⟩; clear hc hr; have hg4 := (hg.release o.txn).more (Nat.le_succ k); generalize t.release o.txn = tt at h4 hg4))
        clear h3 c0 c1 c2 c3 ht hk2
        have Hg := Lib.hid hg4
        clear hg4 hg
        go_loopw [48] (fun i wr => ∃ j : Nat, j ≤ k + 1 ∧ i = .int .i64 j ∧ TB w wr p mp mw tt) (fun i _ => k + 1 - (intOf i).toNat)
        case atStart => exact ⟨0, by omega, rfl, h4⟩
        case round =>
          clear h4
          obtain ⟨j, hj, rfl, ht⟩ := hrel
          by_cases hjl : j < k + 1
          · obtain ⟨o2, ho2⟩ : ∃ o, zs[j]? = some o := ⟨_, List.getElem?_eq_getElem (by rw [Hl.out]; omega)⟩
            obtain ⟨c0, c1, c2, c3⟩ := ops_at Hz.out ht.bel j o2 ho2
            clear ho2
            have h5 := ht.below ((Below.refl _ _).alloc (Nat.le_refl _) (.cells #[.int .i64 o2.kind, .int .i64 o2.txn, .int .i64 o2.page, .int .i64 o2.mode] 27))
            have hbx : (wr.alloc (.cells #[.int .i64 o2.kind, .int .i64 o2.txn, .int .i64 o2.page, .int .i64 o2.mode] 27)).heap[wr.heap.size]? = some (.cells #[.int .i64 o2.kind, .int .i64 o2.txn, .int .i64 o2.page, .int .i64 o2.mode] 27 (0, 0)) := heap_alloc_new _ _
            have hfit := Hg.out.fit (by omega)
            have hhold := holders_any _ p mp mw tt o2.page h5.lay hfit Hg.out.wfs
            have Hnd : Hid ((sortI ((tt.holders o2.page).map (·.1))).Nodup) := ((sortI_perm_self _).nodup_iff).2 (Hg.out.ndi o2.page)
            have Hmem : Hid (∀ y, y ∈ sortI ((tt.holders o2.page).map (·.1)) → y ∈ (tt.holders o2.page).map (·.1)) := fun y => ((sortI_perm_self _).mem_iff).1
            have Hln : Hid ((tt.holders o2.page).length = (sortI ((tt.holders o2.page).map (·.1))).length) := by rw [(sortI_perm_self _).length_eq, List.length_map]; exact rfl
            have hL : (sortI ((tt.holders o2.page).map (·.1))).length ≤ 1000000 := by rw [← Hln.out]; exact hfit.small.holders o2.page
            generalize sortI ((tt.holders o2.page).map (·.1)) = L at hhold Hnd Hmem Hln hL
            have Hbx := Lib.hid hbx
            clear hbx hfit
            go_wp2_with (go_at_call 18; (with_reducible refine hhold.mono ?_); rintro _ w5 ⟨v, rfl, ho, hb5⟩; clear hhold; (obtain ⟨q, cap2, rfl, hcq, hcm, hrow⟩ := intRow_of Hln.out ho); clear ho)
            have hA : AlR w w5 p mp mw tt q L wr.heap.size o2.page := ⟨h5.below hb5, hrow.weaken, cell_in ((hb5.block _ (by simp)).trans Hbx.out) rfl⟩
            clear hrow h5 hb5 Hbx c0 c1 c2 c3 ht Hln
            generalize wr.heap.size = bx at hA ⊢
            go_loopw [58] (fun i w' => ∃ k2 : Nat, k2 ≤ L.length ∧ i = .int .i64 k2 ∧ AlR w w' p mp mw tt q L bx o2.page) (fun i _ => L.length - (intOf i).toNat)
            case atStart => exact ⟨0, by omega, rfl, hA⟩
            case round =>
              clear hA
              obtain ⟨k2, hk2, rfl, hA2⟩ := hrel
              by_cases hlt2 : k2 < L.length
              · obtain ⟨a1, ha1⟩ : ∃ o, L[k2]? = some o := ⟨_, List.getElem?_eq_getElem hlt2⟩
                obtain ⟨g, rfl, _, hcell⟩ := hA2.row k2 a1 ha1
                have Ha1 := Lib.hid ha1
                clear ha1
                go_wp2
                clear hcell
                go_loopw [67] (fun i w' => ∃ k3 : Nat, k3 ≤ k2 ∧ i = .int .i64 k3 ∧ AlR w w' p mp mw tt (some ⟨g, 0, none⟩) L bx o2.page) (fun i _ => k2 - (intOf i).toNat)
                case atStart => exact ⟨0, by omega, rfl, hA2⟩
                case round =>
                  clear hA2
                  obtain ⟨k3, hk3, rfl, hA3⟩ := hrel
                  by_cases hlt3 : k3 < k2
                  · obtain ⟨b1, hb1⟩ : ∃ o, L[k3]? = some o := ⟨_, List.getElem?_eq_getElem (by omega)⟩
                    obtain ⟨g', e', _, hcell⟩ := hA3.row k3 b1 hb1
                    cases e'
                    have hal := alone Hg.out (Hmem.out a1 (List.mem_of_getElem? Ha1.out)) (Hmem.out b1 (List.mem_of_getElem? hb1)) (nodup_ne Hnd.out Ha1.out hb1 hlt3)
                    clear hb1
                    have hbox := hA3.box
                    have t1 : (tt.holds a1 o2.page != tt.holds b1 o2.page) = false := by simpa using hal.1
                    have t2 : (tt.holds a1 o2.page == 3) = false := by simpa using hal.2.1
                    have t3 : (tt.holds a1 o2.page == 0) = false := by simpa using hal.2.2
                    clear hal
                    have hq1 : ∀ a n, Calls Try.prog 17 #[.pointer (some ⟨p, 0, none⟩), .int .i64 a, .int .i64 o2.page] (wr.drewN n) fun e w' => e = .returned (.int .i64 (tt.holds a o2.page)) ∧ w' = wr.drewN n := fun a n => (holds_tb a o2.page (hA3.drewN n).tb).mono fun _ _ ⟨h1, h2⟩ => ⟨h1, h2.symm⟩
                    have Hq1 := Lib.hid hq1
                    clear hq1
                    go_wp2_with fail
                    go_quiet ((go_at_call 17; exact Calls.quiet_of_same (Hq1.out _ _)))
                    go_wp2
                    go_roundw
                    case rel => exact ⟨k3 + 1, by omega, by go_num, hA3.drewN _⟩
                    case measure => simp [intOf]; omega
                  · obtain rfl : k3 = k2 := by omega
                    go_wp2
                    go_roundw
                    case rel => exact ⟨k3 + 1, by omega, by go_num, hA3⟩
                    case measure => simp [intOf]; omega
              · go_wp2
                go_roundw
                case rel => exact ⟨j + 1, by omega, by go_num, hA2.tb⟩
                case measure => simp [intOf]; omega
          · go_wp2
            go_roundw
            case rel => exact ⟨k + 1, tt, by omega, by go_num, ht, Hg.out⟩
            case measure => simp [intOf]; omega
    · go_wp2
      go_ret
      exact ⟨rfl, ht.bel⟩
set_option maxRecDepth 100000 in
theorem lockAlone_long (a : Option Addr) (len cap : Nat) (w : World) (hlen : 200 < len) :
    Calls Try.prog 6 #[.slice a len cap] w fun e w' => e = .returned (.bool true) ∧ Below w.heap.size w w' := by
  have hal := alive_any w
  go_enter Try.func6, Try.ntmps6
  go_wp2_with (go_at_call 10; (with_reducible refine hal.mono ?_); rintro _ w1 ⟨rfl, hb1⟩; clear hal)
  go_ret
  exact ⟨rfl, hb1⟩
theorem ops_cap {w : World} {a : Option Addr} {len cap : Nat} {zs : List OpL} (h : IsOps w a len cap zs) : len ≤ cap := by
  rcases h with ⟨_, rfl, rfl, rfl⟩ | ⟨y, _, _, h, _⟩
  · exact Nat.le_refl _
  · exact h
theorem lockAlone_walk (a : Option Addr) (len cap : Nat) (zs : List OpL) (w : World) (hz : IsOps w a len cap zs) :
    Calls Try.prog 6 #[.slice a len cap] w fun e w' => e = .returned (.bool true) ∧ Below w.heap.size w w' := by
  by_cases h : len ≤ 200
  · exact lockAlone_ok a len cap zs w hz h (ops_len hz) (ops_cap hz)
  · exact lockAlone_long a len cap w (by omega)
end Go.Proofs.Ytkoopbaopidpnaa
