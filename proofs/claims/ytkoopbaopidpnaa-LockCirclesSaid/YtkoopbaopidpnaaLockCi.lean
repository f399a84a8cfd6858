import Derived.Test.YtkoopbaopidpnaaLockAl
import Derived.Test.YtkoopbaopidpnaaSub
import Derived.Deep.Cut
/-
  LockCircles: the walk of waits.
-/
namespace Go.Proofs.Ytkoopbaopidpnaa
open Go.RowKit
theorem SubRow.lt {w : World} {B : Nat} {v : Value} {xs : List Value} (h : SubRow w B v xs) : ∀ k, v.ownBlock = some k → B ≤ k ∧ k < w.heap.size := by
  intro k hk
  rcases h with ⟨rfl, _⟩ | ⟨g, off, cap, rfl, h1, h2, _⟩
  · cases hk
  · cases hk; exact ⟨h1, h2⟩
/-- the state of the walk: seen S, to come L -/
structure WkAt (p mp mw : Nat) (t : LT) (txn : Int) (w : World) (k : Nat) (v5 v6 : Value) (S L : List Int) (wr : World) : Prop where
  lay : LTAt wr p mp mw t
  row5 : SubRow wr w.heap.size v5 (S.map (Value.int .i64))
  row6 : SubRow wr w.heap.size v6 (L.map (Value.int .i64))
  ap : ∀ j, v5.ownBlock = some j → v6.ownBlock ≠ some j
  bel : Below w.heap.size w wr
  from' : ∀ x ∈ L, ∃ y ∈ t.wait txn, Reach t y x
  tot : k = L.length + t.pot S
  le : S.length + k ≤ 1000001000000
theorem mem_take_yes {S : List Int} {j : Nat} {s1 o : Int} (h : S[j]? = some s1) (hin : o ∈ S.take j) : decide (o ∈ S.take (j + 1)) = true := by
  rw [List.take_add_one, h]; simp [hin]
theorem mem_take_no {S : List Int} {j : Nat} {s1 o : Int} (h : S[j]? = some s1) (hin : ¬ o ∈ S.take j) : decide (o ∈ S.take (j + 1)) = (s1 == o) := by
  rw [List.take_add_one, h, Bool.eq_iff_iff]; simp only [Option.toList_some, List.mem_append, List.mem_singleton, decide_eq_true_eq, beq_iff_eq]; exact ⟨fun a => (a.resolve_left hin).symm, fun a => .inr a.symm⟩
theorem mid7 {p mp mw : Nat} {t : LT} {w wr wa w7 : World} {v5 v5' v6 : Value} {S L' : List Int} (hA : LTAt wr p mp mw t) (hR5 : SubRow wr w.heap.size v5 (S.map (Value.int .i64))) (hr6 : SubRow wr w.heap.size v6 (L'.map (Value.int .i64)))
    (hap : ∀ j, v5.ownBlock = some j → v6.ownBlock ≠ some j) (hbel : Below w.heap.size w wr) (hf : ∀ k, LTFoot p mp mw t k → k < w.heap.size) (hal : Below wr.heap.size wr wa) (hk7 : Keeps (fun k => v5.ownBlock = some k) wa w7)
    (hn7 : v5'.ownBlock = v5.ownBlock ∨ v5'.ownBlock = some wa.heap.size) :
    LTAt w7 p mp mw t ∧ SubRow w7 w.heap.size v6 (L'.map (Value.int .i64)) ∧ Below w.heap.size w w7 ∧ ∀ j, v5'.ownBlock = some j → v6.ownBlock ≠ some j := by
  have hA1 : LTAt wa p mp mw t := hA.keeps (S := fun _ => False) (Keeps.of_below hal) (fun _ _ hf => hf)
  refine ⟨hA1.keeps hk7 (fun k hk e => ?_), (hr6.below hal).block_keeps hk7 (fun k hk e => hap k e hk), ?_, fun j hj hj6 => ?_⟩
  · have := (hR5.lt k e).1; have := hf k hk; omega
  · have h1 : Below w.heap.size w wa := hbel.trans (hal.mono hbel.size)
    exact h1.trans (hk7.below h1.size (fun k hk e => by have := (hR5.lt k e).1; omega))
  · rcases hn7 with h | h
    · exact hap j (h ▸ hj) hj6
    · rw [h] at hj; cases hj; have := (hr6.lt _ hj6).2; have := hal.size; omega
theorem mid9 {p mp mw : Nat} {t : LT} {w w7 w8 w9 : World} {v5' v6 v6' : Value} {L' : List Int} {xs : List Value} (hA : LTAt w7 p mp mw t) (hr6 : SubRow w7 w.heap.size v6 (L'.map (Value.int .i64))) (hbel : Below w.heap.size w w7) (hap : ∀ j, v5'.ownBlock = some j → v6.ownBlock ≠ some j)
    (hf : ∀ k, LTFoot p mp mw t k → k < w.heap.size) (h7 : SubRow w7 w.heap.size v5' xs) (hb8 : Below w7.heap.size w7 w8) (hk9 : Keeps (fun k => v6.ownBlock = some k) w8 w9) (hn9 : v6'.ownBlock = v6.ownBlock ∨ v6'.ownBlock = some w8.heap.size) :
    LTAt w9 p mp mw t ∧ SubRow w9 w.heap.size v5' xs ∧ Below w.heap.size w w9 ∧ ∀ j, v5'.ownBlock = some j → v6'.ownBlock ≠ some j := by
  have hA1 : LTAt w8 p mp mw t := hA.keeps (S := fun _ => False) (Keeps.of_below hb8) (fun _ _ hf => hf)
  have hr8 := hr6.below hb8
  refine ⟨hA1.keeps hk9 (fun k hk e => ?_), (h7.below hb8).block_keeps hk9 (fun k hk e => hap k hk e), ?_, fun j hj hj6 => ?_⟩
  · have := (hr8.lt k e).1; have := hf k hk; omega
  · have h1 : Below w.heap.size w w8 := hbel.trans (hb8.mono hbel.size)
    exact h1.trans (hk9.below h1.size (fun k hk e => by have := (hr8.lt k e).1; omega))
  · rcases hn9 with h | h
    · exact hap j hj (h ▸ hj6)
    · rw [h] at hj6; cases hj6; have := (h7.lt _ hj).2; have := hb8.size; omega
theorem lit_src (w : World) (o : Int) (T : TypeId) : Src Try.prog 1 33 (.slice (some ⟨w.heap.size, 0, none⟩) 1 1) [Value.int .i64 o].length [.int .i64 o] (w.alloc (.cells #[.int .i64 o] T)) :=
  Src.ofSlice _ Try.underlying33 _ _ _ _ rfl (fun j u hu => by
    cases j with
    | zero => simp at hu; subst hu; exact cell_in (heap_alloc_new w _) rfl
    | succ j => simp at hu) (fun u hu => by simp at hu; subst hu; rfl)
set_option maxRecDepth 100000 in
set_option maxHeartbeats 8000000 in
theorem walks_any (w : World) (p mp mw : Nat) (t : LT) (txn : Int) (h : LTAt w p mp mw t) (hs : t.small) (hw : t.waits.length ≤ 1000000) (hnc : NoCirc t) :
    Calls Try.prog 15 #[.pointer (some ⟨p, 0, none⟩), .int .i64 txn] w fun e w' => e = .returned (.bool false) ∧ Below w.heap.size w w' := by
  have hpl := LT.pot_le hs hw []
  have hwk := h.wkeys
  have hwl := LT.wait_le hs txn
  have hlt := h.lt
  have hA0 : LTAt (w.alloc (.cells #[] 3)) p mp mw t := h.keeps (S := fun _ => False) ((Keeps.refl _ w).alloc _) (fun _ _ hf => hf)
  have hwa := waits_any (w.alloc (.cells #[] 3)) p mp mw t txn hA0 hs
  have hr0 : SubRow (w.alloc (.cells #[] 3)) w.heap.size (.slice (some ⟨w.heap.size, 0, none⟩) 0 0) (([] : List Int).map (Value.int .i64)) := .inr ⟨w.heap.size, 0, 0, rfl, Nat.le_refl _, by simp, by simp, by simp, fun j hj => by omega, fun j u hu => by simp at hu⟩
  obtain ⟨i0, hi, hz0, hz1, hz2⟩ := info_parts infoI
  have Hwk := Lib.hid hwk
  have Hlt := Lib.hid hlt
  have Hnc := Lib.hid hnc
  have Hpl := Lib.hid hpl
  have Hwl := Lib.hid hwl
  clear h hwk hlt hnc hpl hwl
  go_enter Try.func15, Try.ntmps15
  go_wp2_with (go_at_call 14; (with_reducible refine hwa.mono ?_); rintro _ w2 ⟨v, rfl, ho, hb2⟩; clear hwa)
  have hst : WkAt p mp mw t txn w ((sortI (t.wait txn)).length + t.pot []) (.slice (some ⟨w.heap.size, 0, none⟩) 0 0) v [] (sortI (t.wait txn)) w2 := by
    have hw0 : w.heap.size ≤ (w.alloc (.cells #[] 3)).heap.size := by simp
    refine ⟨hA0.keeps (S := fun _ => False) (Keeps.of_below hb2) (fun _ _ hf => hf), hr0.below hb2, (SubRow.of_owns ho).weaken hw0, fun j hj hj2 => ?_, ((Below.refl _ w).alloc (Nat.le_refl _) _).trans (hb2.mono hw0), fun x hx => ⟨x, (sortI_perm_self _).mem_iff.1 hx, .refl x⟩, rfl, ?_⟩
    · cases hj; have := ((SubRow.of_owns ho).lt _ hj2).1; simp at this; omega
    · rw [sortI_length]; have := Hpl.out; have := Hwl.out; simp only [List.length_nil]; omega
  clear hr0 ho hb2 hA0
  generalize (sortI (t.wait txn)).length + t.pot [] = N0 at hst
  have hst' : ∃ S L, WkAt p mp mw t txn w N0 (.slice (some ⟨w.heap.size, 0, none⟩) 0 0) v S L w2 := ⟨[], _, hst⟩
  clear hst
  go_loopg [5, 6] N0 (fun k v5 v6 wr => ∃ S L, WkAt p mp mw t txn w k v5 v6 S L wr)
  case atStart => exact hst'
  case round =>
    clear hst'
    obtain ⟨S, L, hR⟩ := hrel
    cases L with
    | nil =>
      obtain ⟨q, cap, rfl, _, _⟩ := hR.row6.form
      have hb := hR.bel
      clear hR
      go_wp2_with fail
      go_ret
      exact ⟨rfl, hb⟩
    | cons o L' =>
      have hr6 := hR.row6
      rw [List.map_cons] at hr6
      obtain ⟨g, off, cap, rfl, hc1, hc2, hgB, hcell⟩ := hr6.at0
      rw [List.length_map] at hc1
      simp only [List.length_map] at hr6 hcell ⊢
      have hr6' := SubRow.tail (xs := L'.map (Value.int .i64)) (by simpa using hr6)
      obtain ⟨q5, cap5, e5, hl5, hm5⟩ := hR.row5.form
      rw [List.length_map] at e5 hl5
      subst e5
      have hne : o ≠ txn := by
        rintro rfl
        obtain ⟨y, hy, hr⟩ := hR.from' o (by simp)
        exact Hnc.out o y hy hr
      have hR5 := hR.row5
      have hfr := hR.from'
      have hA := hR.lay
      have hbel := hR.bel
      have hap := hR.ap
      have htot := hR.tot
      have hle := hR.le
      clear hR hr6
      have Hfr := Lib.hid hfr
      have Htot := Lib.hid htot
      clear hfr htot
      have hne1 : (o == txn) = false := by simpa using hne
      have hcl5 : ∀ j x, S[j]? = some x → ∃ g off, q5 = some ⟨g, off, none⟩ ∧ wr.cell? ⟨g, off + j, none⟩ = some (.int .i64 x) := by
        intro j x hx
        rcases hR5 with ⟨h0, h1⟩ | ⟨g', off', cap', e, _, _, _, _, _, h6⟩
        · rw [List.map_eq_nil_iff.1 h1] at hx; simp at hx
        · simp only [Value.slice.injEq] at e
          exact ⟨g', off', e.1, h6 j _ (by rw [List.getElem?_map, hx]; rfl)⟩
      have Hcl5 := Lib.hid hcl5
      clear hcl5
      obtain ⟨A6, n6, c6, hA6, hn6, Hr6⟩ : ∃ A6 n6 c6, (if cap = 1 then (⟨g, off, none⟩ : Addr) else ⟨g, off + 1, none⟩) = A6 ∧ n6 = L'.length ∧ Hid (SubRow wr w.heap.size (.slice (some A6) n6 c6) (L'.map (Value.int .i64)) ∧ c6 = cap - 1 ∧ A6.block = g) := ⟨_, _, _, rfl, rfl, by simpa using hr6', rfl, by split <;> rfl⟩
      clear hr6'
      obtain ⟨Lg, HLg⟩ : ∃ Lg, Hid (L' = Lg) := ⟨_, Lib.hid rfl⟩
      rw [HLg.out] at Hr6 Hfr Htot
      by_cases hcap : cap = 1
      all_goals first
        | (subst hcap; (have hl0 : L'.length = 0 := by omega); (obtain rfl := List.eq_nil_of_length_eq_zero hl0); simp only [if_true] at hA6; subst hA6; subst hn6)
        | (simp only [if_neg hcap] at hA6; subst hA6; subst hn6)
      all_goals
        go_wp2_with fail
        go_loop [8, 28] (fun d i => ∃ j : Nat, j ≤ S.length ∧ i = .int .i64 j ∧ d = .bool (decide (o ∈ S.take j))) (fun _ i => S.length - (intOf i).toNat)
        case atStart => exact ⟨0, by omega, rfl, by simp⟩
        case round =>
          obtain ⟨j, hj, rfl, rfl⟩ := hrel
          by_cases hlt : j < S.length
          · obtain ⟨s1, hs1⟩ : ∃ x, S[j]? = some x := ⟨_, List.getElem?_eq_getElem hlt⟩
            obtain ⟨g5, off5, rfl, hcell5⟩ := Hcl5.out j s1 hs1
            by_cases hin : o ∈ S.take j
            · have hd : decide (o ∈ S.take j) = true := by simpa using hin
              have Hd := Lib.hid (mem_take_yes hs1 hin)
              rw [hd]
              clear hd hs1 hin
              go_wp2
              go_round
              case rel => exact ⟨j + 1, by omega, by go_num, by rw [Hd.out]⟩
              case measure => simp [intOf]; omega
            · have hd : decide (o ∈ S.take j) = false := by simpa using hin
              have Hd := Lib.hid (mem_take_no hs1 hin)
              rw [hd]
              clear hd hs1 hin
              go_wp2
              go_round
              case rel => exact ⟨j + 1, by omega, by go_num, by rw [Hd.out]⟩
              case measure => simp [intOf]; omega
          · obtain rfl : j = S.length := by omega
            rw [List.take_length]
            obtain ⟨hr6, hc6, hg6⟩ := Hr6.out
            subst hc6
            clear hg6 Hr6 Hcl5 hcell
            by_cases hos : o ∈ S
            · have hd : decide (o ∈ S) = true := by simpa using hos
              rw [hd]
              clear hd
              have htot := Htot.out
              rw [List.length_cons] at htot
              go_wp2
              go_roundg (Lg.length + t.pot S)
              case measure => omega
              case rel => exact ⟨S, Lg, hA, hR5, hr6, fun j hj => hap j hj, hbel, fun x hx => Hfr.out x (by simp [hx]), rfl, by omega⟩
            · have hd : decide (o ∈ S) = false := by simpa using hos
              rw [hd]
              clear hd
              have hpn := LT.pot_new Hwk.out hos
              have htot := Htot.out
              rw [List.length_cons] at htot
              have hsz := hbel.size
              have hap' : ∀ j, (Value.slice q5 S.length cap5).ownBlock = some j → _ := fun j hj => hap j hj
              clear hap Htot
              have Hap := Lib.hid hap'
              have Hpn := Lib.hid hpn
              have Htot := Lib.hid htot
              clear hap' hpn htot
              go_wp2_with (first
                | (go_at_call 14; (with_reducible refine hwa.mono ?_); rintro _ w8 ⟨v8, rfl, ho8, hb8⟩; clear hwa; have h9src := SubRow.src (P := Try.prog) Try.underlying33 (SubRow.of_owns ho8) (ints_one _); have hr8 := hmid.2.1.below hb8)
                | (at_builtin; refine wpList_append_sub _ rfl _ _ 33 rfl 3 i0 (.int .i64 0) 8 Try.underlying33 hi hz0 hz1 hz2 rfl w.heap.size _ (S.map (Value.int .i64)) rfl (hR5.below ((Below.refl _ _).alloc (Nat.le_refl _) _)) _ rfl [Value.int .i64 o] (lit_src _ _ _) (by simp; unfold maxLen; omega) (by simp; omega) (by simp; omega) ?_; intro v5' w7 h7 hk7 hn7; have hmid := mid7 hA hR5 hr6 Hap.out hbel Hlt.out ((Below.refl _ _).alloc (Nat.le_refl _) _) hk7 hn7; have hwa := waits_any w7 p mp mw t o hmid.1 hs)
                | (at_builtin; refine wpList_append_sub _ rfl _ _ 33 rfl 3 i0 (.int .i64 0) 8 Try.underlying33 hi hz0 hz1 hz2 rfl w.heap.size _ (Lg.map (Value.int .i64)) rfl hr8 _ rfl _ h9src ?_ ?_ ?_ ?_))
              · have := Hpn.out; have := Htot.out; simp [sortI_length]; unfold maxLen; omega
              · have := Hpn.out; have := Htot.out; simp [sortI_length]; omega
              · have := hmid.2.2.1.size; have := hb8.size; omega
              · intro v6' w9 h9 hk9 hn9
                have hm9 := mid9 hmid.1 hmid.2.1 hmid.2.2.1 hmid.2.2.2 Hlt.out h7 hb8 hk9 hn9
                have hh5 : SubRow w9 w.heap.size v5' ((S ++ [o]).map (Value.int .i64)) := by rw [List.map_append]; exact hm9.2.1
                have hh6 : SubRow w9 w.heap.size v6' ((Lg ++ sortI (t.wait o)).map (Value.int .i64)) := by rw [List.map_append]; exact h9
                clear h9 h7 hk7 hk9 hn7 hn9 h9src hr8 ho8
                have Hm9 := Lib.hid hm9
                clear hm9
                have Hln : Hid ((Lg ++ sortI (t.wait o)).length = Lg.length + (t.wait o).length) := by rw [List.length_append, sortI_length]; exact rfl
                go_wp2_with fail
                go_roundg ((Lg ++ sortI (t.wait o)).length + t.pot (S ++ [o]))
                case measure => have := Hpn.out; have := Htot.out; have := Hln.out; omega
                case rel =>
                  refine ⟨S ++ [o], Lg ++ sortI (t.wait o), Hm9.out.1, hh5, hh6, Hm9.out.2.2.2, Hm9.out.2.2.1, fun x hx => ?_, rfl, ?_⟩
                  · rcases List.mem_append.1 hx with hx | hx
                    · exact Hfr.out x (by simp [hx])
                    · obtain ⟨y, hy, hr⟩ := Hfr.out o (by simp)
                      exact ⟨y, hy, hr.snoc ((sortI_perm_self _).mem_iff.1 hx)⟩
                  · have := Hpn.out; have := Htot.out; have := Hln.out; rw [List.length_append]; simp only [List.length_cons, List.length_nil]; omega
theorem take_ci {w0 w : World} {p mp mw : Nat} {t : LT} {k : Nat} (txn page mode : Int) (h : TB w0 w p mp mw t) (hg : t.Good k) (hk : k ≤ 1000000) (hnc : NoCirc t) (hw : wfI txn) :
    Calls Try.prog 13 #[.pointer (some ⟨p, 0, none⟩), .int .i64 txn, .int .i64 page, .int .i64 mode] w fun e w' => ∃ r tt, e = .returned (errV r) ∧ TB w0 w' p mp mw tt ∧ Keeps (LTFoot p mp mw t) w w' ∧ tt.Good (k + 1) ∧ NoCirc tt ∧ (r = 18 → tt.wait txn = []) ∧ (r = 17 → tt.wait txn ≠ []) :=
  (take_any w p mp mw t txn page mode h.lay (hg.fit hk)).mono fun _ _ ⟨m, he, hl, hk, hf⟩ => ⟨_, _, he, h.step hl hk hf, hk, hg.take h.lay.wkeys _ _ _ hw, hnc.take _ _ _ _, (take_err txn page mode m).1, (take_err txn page mode m).2⟩
set_option maxRecDepth 100000 in
set_option maxHeartbeats 8000000 in
theorem lockCircles_ok (a : Option Addr) (len cap : Nat) (zs : List OpL) (w : World) (hz : IsOps w a len cap zs) (hlen : len ≤ 150) (hl : zs.length = len) (hcap : len ≤ cap) :
    Calls Try.prog 3 #[.slice a len cap] w fun e w' => e = .returned (.bool true) ∧ Below w.heap.size w w' := by
  have hal := alive_any w
  go_enter Try.func3, Try.ntmps3
  go_wp2_with (first
    | (go_at_call 10; (with_reducible refine hal.mono ?_); rintro _ w1 ⟨rfl, hb1⟩; clear hal; have hn := new_tb w w1 hb1)
    | (go_at_call 11; (with_reducible refine hn.mono ?_); rintro _ w2 ⟨p, mp, mw, rfl, h2, _, _⟩; clear hn))
  have Hz := Lib.hid hz; clear hz
  have Hl := Lib.hid hl; clear hl
  go_loopw [17] (fun i wr => ∃ k : Nat, ∃ t : LT, k ≤ len ∧ i = .int .i64 k ∧ TB w wr p mp mw t ∧ t.Good k ∧ NoCirc t) (fun i _ => len - (intOf i).toNat)
  case atStart => exact ⟨0, LT.empty, by omega, rfl, h2, good_empty, noCirc_empty⟩
  case round =>
    obtain ⟨k, t, hk, rfl, ht, hg, hnc⟩ := hrel
    by_cases hlt : k < len
    · obtain ⟨o, ho⟩ : ∃ o, zs[k]? = some o := ⟨_, List.getElem?_eq_getElem (by rw [Hl.out]; exact hlt)⟩
      obtain ⟨x, rfl⟩ := ops_some Hz.out ho
      obtain ⟨c0, c1, c2, c3⟩ := ops_at Hz.out ht.bel k o ho
      have hw := (wf_ops Hz.out ho).2.1
      have Hw : Hid (wfI o.txn) := hw
      clear ho hw
      have h3 := ht.below ((Below.refl _ _).alloc (Nat.le_refl _) (.cells #[.int .i64 o.kind, .int .i64 o.txn, .int .i64 o.page, .int .i64 o.mode] 27))
      have hbx : ∀ W', Keeps (LTFoot p mp mw t) (wr.alloc (.cells #[.int .i64 o.kind, .int .i64 o.txn, .int .i64 o.page, .int .i64 o.mode] 27)) W' → W'.cell? ⟨wr.heap.size, 1, none⟩ = some (.int .i64 o.txn) := fun W' hK => hK.cell (cell_in (heap_alloc_new _ _) rfl) (fun e => by have := ht.lay.lt _ e; simp at this)
      have Hbx := Lib.hid hbx
      clear hbx
      have hc := take_ci o.txn o.page o.mode h3 hg (by omega) hnc Hw.out
      have hr := release_tb o.txn h3 (hg.fit (by omega))
      have Hrl : Hid ((t.release o.txn).Good (k + 1) ∧ NoCirc (t.release o.txn)) := ⟨(hg.release o.txn).more (Nat.le_succ k), NoCirc.release hg hnc o.txn⟩
      have hq18 : ∀ w r, (binOp .eql 30 (errV r) (.iface 32 (.int .i64 18))).run Try.prog w = .ok (.bool (r == 18)) w := fun w r => errEqK w r 18 (by decide)
      have hq17 : ∀ w r, (binOp .eql 30 (errV r) (.iface 32 (.int .i64 17))).run Try.prog w = .ok (.bool (r == 17)) w := fun w r => errEqK w r 17 (by decide)
      have Hq18 := Lib.hid hq18
      have Hq17 := Lib.hid hq17
      clear hq18 hq17
      obtain ⟨bk, hk2⟩ : ∃ b : Bool, (o.kind == 1) = b := ⟨_, rfl⟩
      cases bk
      · go_upto_region 12 with (go_at_call 13; (with_reducible refine hc.mono ?_); rintro _ w4 ⟨r, tt, rfl, h4, hk4, hg4, hn4, he18, he17⟩; clear hc hr)
        have hc5 := Hbx.out _ hk4
        have hwt := waits_any w4 p mp mw tt o.txn h4.lay (hg4.fit (by omega)).small
        have Hg4 : Hid (tt.Good (k + 1) ∧ NoCirc tt) := ⟨hg4, hn4⟩
        clear hg4 hn4 c0 c1 c2 c3 ht hg hnc h3 hk4 hk2
        by_cases h18 : r = 18
        · have hw0 := he18 h18
          rw [hw0] at hwt
          clear he18 he17 hw0
          subst h18
          rw [errV_pos (by decide)]
          have q1 : ∀ w, (binOp .eql 30 (.iface 32 (.int .i64 18)) (.iface 32 (.int .i64 18))).run Try.prog w = .ok (.bool true) w := fun w => Hq18.out w 18
          have q2 : ∀ w, (binOp .eql 30 (.iface 32 (.int .i64 18)) (.iface 32 (.int .i64 17))).run Try.prog w = .ok (.bool false) w := fun w => Hq17.out w 18
          go_wp2_with (go_at_call 14; (with_reducible refine hwt.mono ?_); rintro _ w5 ⟨v5, rfl, ho5, hb5⟩; clear hwt; have h5 := h4.below hb5; (obtain ⟨q5, cap5, rfl⟩ := owned_nil ho5); clear ho5 h4 hb5 hc5)
          clear q1 q2
          go_loopw [66] (fun i wr => ∃ j : Nat, j ≤ k + 1 ∧ i = .int .i64 j ∧ TB w wr p mp mw tt) (fun i _ => k + 1 - (intOf i).toNat)
          case atStart => exact ⟨0, by omega, rfl, h5⟩
          case round =>
            clear h5
            obtain ⟨j, hj, rfl, ht⟩ := hrel
            by_cases hjl : j < k + 1
            · obtain ⟨o2, ho2⟩ : ∃ o, zs[j]? = some o := ⟨_, List.getElem?_eq_getElem (by rw [Hl.out]; omega)⟩
              obtain ⟨c0, c1, c2, c3⟩ := ops_at Hz.out ht.bel j o2 ho2
              clear ho2
              have h5 := ht.below ((Below.refl _ _).alloc (Nat.le_refl _) (.cells #[.int .i64 o2.kind, .int .i64 o2.txn, .int .i64 o2.page, .int .i64 o2.mode] 27))
              have hfit := Hg4.out.1.fit (by omega)
              have hwk := walks_any _ p mp mw tt o2.txn h5.lay hfit.small hfit.waits Hg4.out.2
              clear hfit
              go_wp2_with (go_at_call 15; (with_reducible refine hwk.mono ?_); rintro _ w6 ⟨rfl, hb6⟩; clear hwk)
              go_roundw
              case rel => exact ⟨j + 1, by omega, by go_num, h5.below hb6⟩
              case measure => simp [intOf]; omega
            · go_wp2
              go_roundw
              case rel => exact ⟨k + 1, tt, by omega, by go_num, ht, Hg4.out⟩
              case measure => simp [intOf]; omega
        · by_cases h17 : r = 17
          · have hw0 := he17 h17
            have hpos : ((tt.wait o.txn).length : Int) ≠ 0 := by have := List.length_pos_iff.2 hw0; omega
            have Hln : Hid ((tt.wait o.txn).length = (sortI (tt.wait o.txn)).length) := (sortI_length _).symm
            have hpb : (((tt.wait o.txn).length : Int) == 0) = false := by simpa using hpos
            clear he18 he17 hw0 h18 hpos
            rw [Hln.out] at hpb
            generalize sortI (tt.wait o.txn) = LL at hwt Hln hpb
            subst h17
            rw [errV_pos (by decide)]
            have q1 : ∀ w, (binOp .eql 30 (.iface 32 (.int .i64 17)) (.iface 32 (.int .i64 18))).run Try.prog w = .ok (.bool false) w := fun w => Hq18.out w 17
            have q2 : ∀ w, (binOp .eql 30 (.iface 32 (.int .i64 17)) (.iface 32 (.int .i64 17))).run Try.prog w = .ok (.bool true) w := fun w => Hq17.out w 17
            go_wp2_with (go_at_call 14; (with_reducible refine hwt.mono ?_); rintro _ w5 ⟨v5, rfl, ho5, hb5⟩; clear hwt; have h5 := h4.below hb5; (obtain ⟨q5, cap5, rfl, _, _, _⟩ := intRow_of Hln.out ho5); clear ho5 h4 hb5 hc5)
            clear q1 q2
            go_loopw [66] (fun i wr => ∃ j : Nat, j ≤ k + 1 ∧ i = .int .i64 j ∧ TB w wr p mp mw tt) (fun i _ => k + 1 - (intOf i).toNat)
            case atStart => exact ⟨0, by omega, rfl, h5⟩
            case round =>
              clear h5
              obtain ⟨j, hj, rfl, ht⟩ := hrel
              by_cases hjl : j < k + 1
              · obtain ⟨o2, ho2⟩ : ∃ o, zs[j]? = some o := ⟨_, List.getElem?_eq_getElem (by rw [Hl.out]; omega)⟩
                obtain ⟨c0, c1, c2, c3⟩ := ops_at Hz.out ht.bel j o2 ho2
                clear ho2
                have h5 := ht.below ((Below.refl _ _).alloc (Nat.le_refl _) (.cells #[.int .i64 o2.kind, .int .i64 o2.txn, .int .i64 o2.page, .int .i64 o2.mode] 27))
                have hfit := Hg4.out.1.fit (by omega)
                have hwk := walks_any _ p mp mw tt o2.txn h5.lay hfit.small hfit.waits Hg4.out.2
                clear hfit
                go_wp2_with (go_at_call 15; (with_reducible refine hwk.mono ?_); rintro _ w6 ⟨rfl, hb6⟩; clear hwk)
                go_roundw
                case rel => exact ⟨j + 1, by omega, by go_num, h5.below hb6⟩
                case measure => simp [intOf]; omega
              · go_wp2
                go_roundw
                case rel => exact ⟨k + 1, tt, by omega, by go_num, ht, Hg4.out⟩
                case measure => simp [intOf]; omega
          · clear he18 he17 hwt
            have b18 : (r == 18) = false := by simpa using h18
            have b17 : (r == 17) = false := by simpa using h17
            have q1 : ∀ w, (binOp .eql 30 (errV r) (.iface 32 (.int .i64 18))).run Try.prog w = .ok (.bool false) w := fun w => b18 ▸ Hq18.out w r
            have q2 : ∀ w, (binOp .eql 30 (errV r) (.iface 32 (.int .i64 17))).run Try.prog w = .ok (.bool false) w := fun w => b17 ▸ Hq17.out w r
            clear b18 b17 h18 h17
            have h5 := h4
            clear h4 hc5
            by_cases hr0 : r = 0
            · subst hr0
              rw [errV_zero] at q1 q2 ⊢
              go_wp2
              clear q1 q2
              go_loopw [66] (fun i wr => ∃ j : Nat, j ≤ k + 1 ∧ i = .int .i64 j ∧ TB w wr p mp mw tt) (fun i _ => k + 1 - (intOf i).toNat)
              case atStart => exact ⟨0, by omega, rfl, h5⟩
              case round =>
                clear h5
                obtain ⟨j, hj, rfl, ht⟩ := hrel
                by_cases hjl : j < k + 1
                · obtain ⟨o2, ho2⟩ : ∃ o, zs[j]? = some o := ⟨_, List.getElem?_eq_getElem (by rw [Hl.out]; omega)⟩
                  obtain ⟨c0, c1, c2, c3⟩ := ops_at Hz.out ht.bel j o2 ho2
                  clear ho2
                  have h5 := ht.below ((Below.refl _ _).alloc (Nat.le_refl _) (.cells #[.int .i64 o2.kind, .int .i64 o2.txn, .int .i64 o2.page, .int .i64 o2.mode] 27))
                  have hfit := Hg4.out.1.fit (by omega)
                  have hwk := walks_any _ p mp mw tt o2.txn h5.lay hfit.small hfit.waits Hg4.out.2
                  clear hfit
                  go_wp2_with (go_at_call 15; (with_reducible refine hwk.mono ?_); rintro _ w6 ⟨rfl, hb6⟩; clear hwk)
                  go_roundw
                  case rel => exact ⟨j + 1, by omega, by go_num, h5.below hb6⟩
                  case measure => simp [intOf]; omega
                · go_wp2
                  go_roundw
                  case rel => exact ⟨k + 1, tt, by omega, by go_num, ht, Hg4.out⟩
                  case measure => simp [intOf]; omega
            · rw [errV_pos hr0] at q1 q2 ⊢
              go_wp2
              clear q1 q2
              go_loopw [66] (fun i wr => ∃ j : Nat, j ≤ k + 1 ∧ i = .int .i64 j ∧ TB w wr p mp mw tt) (fun i _ => k + 1 - (intOf i).toNat)
              case atStart => exact ⟨0, by omega, rfl, h5⟩
              case round =>
                clear h5
                obtain ⟨j, hj, rfl, ht⟩ := hrel
                by_cases hjl : j < k + 1
                · obtain ⟨o2, ho2⟩ : ∃ o, zs[j]? = some o := ⟨_, List.getElem?_eq_getElem (by rw [Hl.out]; omega)⟩
                  obtain ⟨c0, c1, c2, c3⟩ := ops_at Hz.out ht.bel j o2 ho2
                  clear ho2
                  have h5 := ht.below ((Below.refl _ _).alloc (Nat.le_refl _) (.cells #[.int .i64 o2.kind, .int .i64 o2.txn, .int .i64 o2.page, .int .i64 o2.mode] 27))
                  have hfit := Hg4.out.1.fit (by omega)
                  have hwk := walks_any _ p mp mw tt o2.txn h5.lay hfit.small hfit.waits Hg4.out.2
                  clear hfit
                  go_wp2_with (go_at_call 15; (with_reducible refine hwk.mono ?_); rintro _ w6 ⟨rfl, hb6⟩; clear hwk)
                  go_roundw
                  case rel => exact ⟨j + 1, by omega, by go_num, h5.below hb6⟩
                  case measure => simp [intOf]; omega
                · go_wp2
                  go_roundw
                  case rel => exact ⟨k + 1, tt, by omega, by go_num, ht, Hg4.out⟩
                  case measure => simp [intOf]; omega
      · go_wp2_with (go_at_call 12; (with_reducible refine hr.mono ?_); rintro _ w4 ⟨rfl, h5⟩; clear hc hr; have Hg4 := Hrl; generalize t.release o.txn = tt at h5 Hg4)
        clear hk2 c0 c1 c2 c3 ht hg hnc h3 Hrl
        go_loopw [66] (fun i wr => ∃ j : Nat, j ≤ k + 1 ∧ i = .int .i64 j ∧ TB w wr p mp mw tt) (fun i _ => k + 1 - (intOf i).toNat)
        case atStart => exact ⟨0, by omega, rfl, h5⟩
        case round =>
          clear h5
          obtain ⟨j, hj, rfl, ht⟩ := hrel
          by_cases hjl : j < k + 1
          · obtain ⟨o2, ho2⟩ : ∃ o, zs[j]? = some o := ⟨_, List.getElem?_eq_getElem (by rw [Hl.out]; omega)⟩
            obtain ⟨c0, c1, c2, c3⟩ := ops_at Hz.out ht.bel j o2 ho2
            clear ho2
            have h5 := ht.below ((Below.refl _ _).alloc (Nat.le_refl _) (.cells #[.int .i64 o2.kind, .int .i64 o2.txn, .int .i64 o2.page, .int .i64 o2.mode] 27))
            have hfit := Hg4.out.1.fit (by omega)
            have hwk := walks_any _ p mp mw tt o2.txn h5.lay hfit.small hfit.waits Hg4.out.2
            clear hfit
            go_wp2_with (go_at_call 15; (with_reducible refine hwk.mono ?_); rintro _ w6 ⟨rfl, hb6⟩; clear hwk)
            go_roundw
            case rel => exact ⟨j + 1, by omega, by go_num, h5.below hb6⟩
            case measure => simp [intOf]; omega
          · go_wp2
            go_roundw
            case rel => exact ⟨k + 1, tt, by omega, by go_num, ht, Hg4.out⟩
            case measure => simp [intOf]; omega
    · go_wp2
      go_ret
      exact ⟨rfl, ht.bel⟩
set_option maxRecDepth 100000 in
theorem lockCircles_long (a : Option Addr) (len cap : Nat) (w : World) (hlen : 150 < len) :
    Calls Try.prog 3 #[.slice a len cap] w fun e w' => e = .returned (.bool true) ∧ Below w.heap.size w w' := by
  have hal := alive_any w
  go_enter Try.func3, Try.ntmps3
  go_wp2_with (go_at_call 10; (with_reducible refine hal.mono ?_); rintro _ w1 ⟨rfl, hb1⟩; clear hal)
  go_ret
  exact ⟨rfl, hb1⟩
theorem lockCircles_walk (a : Option Addr) (len cap : Nat) (zs : List OpL) (w : World) (hz : IsOps w a len cap zs) :
    Calls Try.prog 3 #[.slice a len cap] w fun e w' => e = .returned (.bool true) ∧ Below w.heap.size w w' := by
  by_cases h : len ≤ 150
  · exact lockCircles_ok a len cap zs w hz h (ops_len hz) (ops_cap hz)
  · exact lockCircles_long a len cap w (by omega)
end Go.Proofs.Ytkoopbaopidpnaa
