import Derived.Test.YtnficiohnhodiaaLockE
namespace Go.Proofs.Ytnficiohnhodiaa
open Go.RowKit
open Go.ChangeMaps (setBlock)
theorem nil_or_snoc (L : List Int) : L = [] ∨ ∃ L' o, L = L' ++ [o] := by
  rcases List.eq_nil_or_concat L with h | ⟨a, b, h⟩
  · exact .inl h
  · exact .inr ⟨a, b, by simpa using h⟩
theorem owns_pre {W : World} {base e g cap n : Nat} {xs : List Value} {x : Value} (h : W.ownsRow base e 1 (.slice (some ⟨g, 0, none⟩) (n + 1) cap) (n + 1) (xs ++ [x])) : W.ownsRow base e 1 (.slice (some ⟨g, 0, none⟩) n cap) n xs := by
  obtain ⟨h1, ⟨h0, _⟩ | ⟨g', cap', cur, hv, hg, hb, h3, h4, h5, h6⟩⟩ := h
  · cases h0
  · cases hv
    have hx : xs.length = n := by simpa using h1
    refine ⟨by omega, .inr ⟨g, cap, cur, rfl, hg, hb, by omega, h4, h5, ?_⟩⟩
    rw [show n * 1 = min n ((n + 1) * 1) from by omega, ← List.take_take, h6, List.take_append_of_le_length (by omega), List.take_of_length_le (by omega)]
def CircAt (p mp mw : Nat) (t : LT) (txn : Int) (L0 : List Int) (base : Nat) (w : World) (k : Nat) (v : Value) (wr : World) : Prop :=
  ∃ (S L : List Int), k = L.length + t.pot S ∧ LTAt wr p mp mw t ∧ IMap wr w.heap.size (seenM S) ∧ wr.ownsRow base 3 1 v L.length (L.map (Value.int .i64)) ∧ v.ownBlock ≠ some w.heap.size ∧ Below base w wr ∧ Hid (Circ t txn L0 S L) ∧ L.length + t.pot S ≤ 2000000000000 ∧ w.heap.size < wr.heap.size
set_option maxRecDepth 100000 in
set_option maxHeartbeats 2000000 in
theorem circle_any (w : World) (p mp mw : Nat) (t : LT) (txn : Int) (v : Value) (L0 : List Int) (base : Nat) (h : LTAt w p mp mw t) (hs : t.small) (hw : t.waits.length ≤ 1000000) (hf : ∀ k, LTFoot p mp mw t k → k < base) (hb : base ≤ w.heap.size)
    (hl : L0.length ≤ 1000000) (hown : w.ownsRow base 3 1 v L0.length (L0.map (Value.int .i64))) :
    Calls Try.prog 39 #[.pointer (some ⟨p, 0, none⟩), .int .i64 txn, v] w fun e w' => ∃ b : Bool, e = .returned (.bool b) ∧ (b = true ↔ ∃ o ∈ L0, Reach t o txn) ∧ Below base w w' := by
  have hmm := @run_makeMap Try.prog
  have hpl := LT.pot_le hs hw []
  have hwk := h.wkeys
  have h' : LTAt (w.alloc (.map #[] 0)) p mp mw t := h.keeps ((Keeps.refl (fun _ => False) w).alloc _) (fun _ _ hf => hf)
  have hB : Below base w (w.alloc (.map #[] 0)) := (Below.refl _ _).alloc hb _
  have hm : IMap (w.alloc (.map #[] 0)) w.heap.size (seenM []) := imap_nil (clock := 0) (heap_alloc_new _ _)
  have hown' := hown.alloc (.map #[] 0)
  have hsz : w.heap.size < (w.alloc (.map #[] 0)).heap.size := by simp
  have hvb : v.ownBlock ≠ some w.heap.size := fun e => by have := (hown.lt _ e).2; omega
  clear hown h
  go_enter Try.func39, Try.ntmps39
  go_wp2; go_step3; go_wp2; go_step3; go_wp2
  generalize w.alloc (.map #[] 0) = W at h' hB hm hown' hsz ⊢
  clear hmm
  go_loopg [2] (L0.length + t.pot []) (fun k v wr => CircAt p mp mw t txn L0 base w k v wr)
  case atStart => exact ⟨[], L0, rfl, h', hm, hown', hvb, hB, Lib.hid (Circ.start _ _ _), by omega, hsz⟩
  case round =>
    clear h' hB hm hown' hsz hvb
    obtain ⟨S, L, rfl, hA, hm, hown, hvb, hB, HI, hle, hsz⟩ := hrel
    have hlens := hown.1
    rcases nil_or_snoc L with rfl | ⟨L', o, rfl⟩
    · have hv : ∃ pv cap, u2 = .slice pv 0 cap := by
        rcases hown.2 with ⟨rfl, _⟩ | ⟨g, cap, cur, rfl, _⟩
        · exact ⟨none, 0, rfl⟩
        · exact ⟨_, cap, rfl⟩
      obtain ⟨pv, cap, rfl⟩ := hv
      have := HI.out.no
      clear hown hlens
      go_wp2_with fail
      unfold Exit.noGoto
      go_ret
      exact ⟨false, rfl, by simpa using this, hB⟩
    · simp only [List.length_append, List.length_cons, List.length_nil, Nat.zero_add] at hown hle
      obtain ⟨_, ⟨_, h0⟩ | ⟨g, cap, cur, rfl, hg, hbk, h3, h4, h5, h6⟩⟩ := id hown
      · cases h0
      have hc := hown.cellAt L'.length (by omega)
      rw [show (List.map (Value.int .i64) (L' ++ [o]))[L'.length]? = some (.int .i64 o) from by simp] at hc
      have hz : (zeroValue 3).run Try.prog wr = .ok (.int .i64 0) wr := zint wr
      have hlk := run_lookup_im (P := Try.prog) Try.underlying79 Try.underlying3 hm (.int .i64 0) hz o false
      rw [seenM_get] at hlk
      by_cases hot : o = txn
      · subst hot
        have := HI.out.yes (by simp)
        clear hlk
        go_wp2_with fail
        unfold Exit.noGoto
        go_ret
        exact ⟨true, rfl, by simpa using this, hB⟩
      · by_cases hos : o ∈ S
        · rw [if_pos hos] at hlk
          simp only [Option.getD_some, Bool.false_eq_true, if_false] at hlk
          go_wp2_with fail
          go_roundg (L'.length + t.pot S)
          case measure => simp
          case rel =>
            exact ⟨S, L', rfl, hA, hm, owns_pre (by simpa using hown), hvb, hB, Lib.hid (HI.out.seen hos (by simp)), by omega, hsz⟩
        · rw [if_neg hos] at hlk
          simp only [Option.getD_none, Bool.false_eq_true, if_false] at hlk
          obtain ⟨w5, hu1, hu2, hu3, hu4⟩ := run_mapUpdate_im (P := Try.prog) Try.underlying79 Try.underlying3 hm o (.int .i64 1)
          rw [seenM_put S o hos] at hu2
          have hA5 : LTAt w5 p mp mw t := hA.keeps hu3 (fun k hk e => by have := hf k hk; omega)
          have hwa := waits_any w5 p mp mw t o hA5 hs
          have hB5 : Below base w w5 := hB.trans (hu3.below (by omega) (fun k hk e => by omega))
          have hgne : g ≠ w.heap.size := fun e => hvb (by rw [e]; rfl)
          have hown5 : w5.ownsRow base 3 1 (.slice (some ⟨g, 0, none⟩) L'.length cap) L'.length (L'.map (Value.int .i64)) :=
            (owns_pre (by simpa using hown)).kept (row := some w.heap.size) ⟨hu3.os, hu3.tape, hu3.output, hu3.size, fun j hj hne => hu3.block j hj (fun e => hne (by rw [e]))⟩ (.inr hvb)
          have hsz5 : w.heap.size < w5.heap.size := by omega
          have hpn := LT.pot_new hwk hos
          have hwl := LT.wait_le hs o
          have hbase5 : base ≤ w5.heap.size := by omega
          clear hu4 hown hA hm hB
          obtain ⟨i0, hi, hz0, hz1, hz2⟩ := info_parts infoI
          go_wp2_with (first | (go_at_call 19; (with_reducible refine hwa.mono ?_); rintro _ w6 ⟨v2, rfl, ho2, hb2⟩; have hs6 := hb2.size) | (at_builtin; go_loud (refine wpList_append_own_row _ rfl _ _ 41 rfl base 3 i0 (.int .i64 0) 1 8 Try.underlying41 hi hz0 hz1 hz2 rfl (by decide) _ L'.length (L'.map (Value.int .i64)) rfl (owns_below hown5 hb2) w5.heap.size _ (t.wait o).length ((sortI (t.wait o)).map (Value.int .i64)) rfl ho2 (ints_one _) (by unfold maxLen; omega) (by omega) (by omega) ?_); intro v' w7 hown7 hgr hnew))
          go_roundg ((L' ++ sortI (t.wait o)).length + t.pot (S ++ [o]))
          case measure => simp [sortI_length]; omega
          case rel =>
            have hgr' : w6.grownBy w7 (some g) := hgr
            have hb6 : Below base w w6 := hB5.trans (hb2.mono (by omega))
            have hft : ∀ k, LTFoot p mp mw t k → k < w5.heap.size ∧ k ≠ g := fun k hk => ⟨by have := hf k hk; omega, fun e => by have := hf k hk; omega⟩
            have hk7 : ∀ k, k < w5.heap.size → k ≠ g → w7.heap[k]? = w5.heap[k]? := fun k hk hg' => (hgr'.block k (by omega) (fun e => hg' (by cases e; rfl))).trans (hb2.block k hk)
            refine ⟨S ++ [o], L' ++ sortI (t.wait o), rfl, ?_, hu2.kept (hk7 _ hsz5 (Ne.symm hgne)), ?_, ?_, ?_, Lib.hid (HI.out.new hot (by simp)), ?_, ?_⟩
            · exact hA5.keeps (S := (· = g)) ⟨hgr'.os.trans hb2.os, hgr'.tape.trans hb2.tape, hgr'.output.trans hb2.output, Nat.le_trans hb2.size hgr'.size, hk7⟩ (fun k hk e => (hft k hk).2 e)
            · rw [List.length_append, sortI_length, List.map_append]; exact hown7
            · rcases hnew with e | e
              · rw [e]; exact hvb
              · rw [e]; intro e'; have := Option.some.inj e'; omega
            · exact hb6.grown hgr' (by omega) (fun b hb => by cases hb; exact hg)
            · rw [List.length_append, sortI_length]; omega
            · have := hgr'.size; omega
end Go.Proofs.Ytnficiohnhodiaa
