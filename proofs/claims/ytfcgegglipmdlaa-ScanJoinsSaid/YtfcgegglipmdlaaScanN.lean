import Derived.Test.YtfcgegglipmdlaaScanM
import Derived.Test.YtfcgegglipmdlaaScanL
namespace Go.Proofs.Ytfcgegglipmdlaa
open Go.RowKit
theorem pl_get (S : List UInt8) (k : Nat) (ts : List Tk) (h : PL S k ts) (i : Nat) (hi : i < ts.length) : ∃ p : Nat, ts[i].pos = p ∧ p ≤ S.length := by
  induction ts generalizing k i with
  | nil => simp at hi
  | cons t ts ih =>
    obtain ⟨p, h1, h2, h3, _, _, h6⟩ := h
    cases i with
    | zero => exact ⟨p, h1, by omega⟩
    | succ i =>
      rcases h6 with ⟨rfl, _⟩ | ⟨_, _, _, h7⟩
      · simp at hi
      · simpa using ih _ h7 i (by simpa using hi)
theorem tkRow_take {w : World} {g cap n : Nat} {ts : List Tk} (h : TkRow w (.slice (some ⟨g, 0, none⟩) ts.length cap) ts) (hn : n ≤ ts.length) : TkRow w (.slice (some ⟨g, 0, none⟩) n cap) (ts.take n) := by
  rcases h with ⟨h, _⟩ | ⟨g', cap', h1, h2, h3, h4⟩
  · cases h
  · cases h1
    refine .inr ⟨g, cap, by rw [List.length_take, Nat.min_eq_left hn], by simp; omega, h3, fun i hi => ?_⟩
    have hi' : i < ts.length := by simp at hi; omega
    have := h4 i hi'
    rw [List.getElem_take]; exact this
theorem tkRow_slice {w : World} {v : Value} {ts : List Tk} (h : TkRow w v ts) (h0 : 0 < ts.length) : ∃ g cap, v = .slice (some ⟨g, 0, none⟩) ts.length cap ∧ ts.length ≤ cap ∧ cap ≤ maxLen ∧
    ∀ i (h : i < ts.length), w.cell? ⟨g, i * 3, none⟩ = some (.int .i64 ts[i].kind) ∧ w.cell? ⟨g, i * 3 + 1, none⟩ = some (.string ⟨ts[i].text.toArray⟩) ∧ w.cell? ⟨g, i * 3 + 2, none⟩ = some (.int .i64 ts[i].pos) := by
  rcases h with ⟨_, rfl⟩ | h
  · simp at h0
  · exact h
theorem pick_lt (a : Int) (n : Nat) (h : 0 < n) (hn : n ≤ 9223372036854775807) : ∃ j : Nat, wrap64 ((IntKind.u64.wrap a).tmod n) = (j : Int) ∧ j < n := by
  have h1 : 0 ≤ IntKind.u64.wrap a := by rw [IntKind.wrap_u64]; omega
  have h2 : 0 ≤ (IntKind.u64.wrap a).tmod n := Int.tmod_nonneg _ h1
  have h3 : (IntKind.u64.wrap a).tmod n < n := Int.tmod_lt_of_pos _ (by omega)
  refine ⟨((IntKind.u64.wrap a).tmod n).toNat, ?_, by omega⟩
  unfold wrap64; omega
set_option maxHeartbeats 4000000 in
theorem scanCuts_ok (s : ByteArray) (a : Int) (ts : List Tk) (w : World) (hs : s.size ≤ 140737488351232) (ht : toksT s.data.toList = .ok ts) :
    Calls Try.prog 7 #[.string s, .int .i64 a] w fun e w' => e = .returned (.bool true) ∧ Below w.heap.size w w' := by
  have hm : s.size ≤ maxLen := by unfold maxLen; omega
  have hl : Hid (s.data.toList.length = s.size) := Lib.hid (by simp)
  have hpl := Lib.hid (pl_all _ _ ht)
  have h0 := tks_lt _ _ ht
  have Ht := Lib.hid ht; clear ht
  go_enter Try.func7, Try.ntmps7
  go_wp2_with fail
  refine (alive_any _).mono ?_
  rintro _ w1 ⟨rfl, hB1⟩
  have hz1 := hB1.size
  go_wp2_with fail
  refine (tokens_ok _ ts _ Ht.out hm).mono ?_
  rintro _ w2 ⟨sv, rfl, hB2, hown2⟩
  have hz2 := hB2.size
  have hr2 := tkRow_of_owns hown2
  clear hown2
  obtain ⟨g, cap, rfl, hc, hcm, hcell⟩ := tkRow_slice hr2 h0
  unfold maxLen at hcm
  have Hcell := Lib.hid hcell; clear hcell
  have Hr2 := Lib.hid hr2; clear hr2
  obtain ⟨j, hj, hjl⟩ := pick_lt a ts.length h0 (by omega)
  obtain ⟨k1, k2, k3⟩ := Hcell.out j hjl
  obtain ⟨p, hp1, hp2⟩ := pl_get _ _ _ hpl.out j hjl
  rw [hl.out] at hp2
  rw [hp1] at k3
  have Ht2 := Lib.hid (toksT_cut _ ts j p Ht.out hjl hp1)
  clear k1 k2 hp1
  go_wp2_with fail
  refine (tokens_ok _ (ts.take j ++ [⟨4, [], p⟩]) _ (by rw [ext_take]; exact Ht2.out) (by rw [ByteArray.size_extract]; unfold maxLen; omega)).mono ?_
  rintro _ w3 ⟨tv, rfl, hB3, hown3⟩
  have hz3 := hB3.size
  have hr3 := tkRow_of_owns hown3
  clear hown3
  have hus : (ts.take j ++ [(⟨4, [], p⟩ : Tk)]).length = j + 1 := by simp; omega
  obtain ⟨g3, cap3, rfl, hc3, hcm3, hcell3⟩ := tkRow_slice hr3 (by rw [hus]; omega)
  unfold maxLen at hcm3
  have m1 : w3.cell? ⟨g3, j * 3, none⟩ = some (.int .i64 4) := by
    have := (hcell3 j (by omega)).1; rw [List.getElem_append_right (by simp; omega)] at this; simpa using this
  have m2 : w3.cell? ⟨g3, j * 3 + 1, none⟩ = some (.string ⟨#[]⟩) := by
    have := (hcell3 j (by omega)).2.1; rw [List.getElem_append_right (by simp; omega)] at this; simpa using this
  have m3 : w3.cell? ⟨g3, j * 3 + 2, none⟩ = some (.int .i64 p) := by
    have := (hcell3 j (by omega)).2.2; rw [List.getElem_append_right (by simp; omega)] at this; simpa using this
  have k4 := cell_below k3 hB3
  have hA : ∀ n, TkRow (w3.drewN n) (.slice (some ⟨g3, 0, none⟩) j cap3) (ts.take j) := fun n => by
    have := tkRow_drewN n (tkRow_take (n := j) (by exact hr3) (by omega))
    rwa [List.take_left' (by simp; omega)] at this
  have hB' : ∀ n, TkRow (w3.drewN n) (.slice (some ⟨g, 0, none⟩) j cap) (ts.take j) := fun n => tkRow_drewN n (tkRow_take (tkRow_below Hr2.out hB3) (by omega))
  have HA := Lib.hid hA; have HB' := Lib.hid hB'
  have hBz : Hid (Below w.heap.size w w3) := Lib.hid ((hB1.trans (hB2.mono hz1)).trans (hB3.mono (by omega)))
  clear hcell3 hr3 hA hB' k3 hB1 hB2 hB3
  rw [hus] at hc3 ⊢
  have hw : IntKind.i64.wrap ((j : Int) + 1) = j + 1 := IntWalk.i64_in _ (by omega)
  clear hus
  go_wp2
  go_quiet (fail)
  go_wp2
  generalize hw4 : w3.drewN nq = w4
  have HA2 : Hid (∀ n, TkRow (w4.drewN n) (.slice (some ⟨g3, 0, none⟩) j cap3) (ts.take j)) := Lib.hid (fun n => by rw [← hw4, World.drewN_drewN]; exact HA.out _)
  have HB2 : Hid (∀ n, TkRow (w4.drewN n) (.slice (some ⟨g, 0, none⟩) j cap) (ts.take j)) := Lib.hid (fun n => by rw [← hw4, World.drewN_drewN]; exact HB'.out _)
  have hBz2 : Hid (Below w.heap.size w w4) := Lib.hid (by rw [← hw4]; exact below_drewN _ hBz.out)
  clear hw4 HA HB' hBz m1 m2 m3 k4
  go_quiet ((go_at_call 13; exact Calls.quiet_of (same_any _ _ (ts.take j) (ts.take j) _ (HA2.out _) (HB2.out _))))
  rw [show decide (ts.take j = ts.take j) = true from by simp]
  go_wp2
  go_ret
  exact ⟨rfl, below_drewN _ hBz2.out⟩
theorem scanCuts_err (s : ByteArray) (a : Int) (c : Int) (k : Nat) (w : World) (hs : s.size ≤ 140737488351232) (ht : toksT s.data.toList = .error (c, k)) :
    Calls Try.prog 7 #[.string s, .int .i64 a] w fun e w' => e = .returned (.bool true) ∧ Below w.heap.size w w' := by
  have hm : s.size ≤ maxLen := by unfold maxLen; omega
  have Ht := Lib.hid ht; clear ht
  go_enter Try.func7, Try.ntmps7
  go_wp2_with fail
  refine (alive_any _).mono ?_
  rintro _ w1 ⟨rfl, hB1⟩
  have hz1 := hB1.size
  go_wp2_with fail
  refine (tokens_err _ c k _ Ht.out hm).mono ?_
  rintro _ w2 ⟨b, rfl, hB2, hb, hf⟩
  have Hf := Lib.hid hf; clear hf
  go_wp2
  go_ret
  exact ⟨rfl, hB1.trans (hB2.mono hz1)⟩
theorem scanCuts_walk (s : ByteArray) (a : Int) (w : World) (hs : s.size ≤ 140737488351232) (ha : (Lit.int .i64 a).wf = true) :
    Calls Try.prog 7 #[.string s, .int .i64 a] w fun e w' => e = .returned (.bool true) ∧ Below w.heap.size w w' := by
  cases ht : toksT s.data.toList with
  | ok ts => exact scanCuts_ok s a ts w hs ht
  | error e => exact scanCuts_err s a e.1 e.2 w hs ht
end Go.Proofs.Ytfcgegglipmdlaa
