import Derived.Test.YtfcgegglipmdlaaScanH
namespace Go.Proofs.Ytfcgegglipmdlaa
open Go.RowKit
theorem tokens_any (s : ByteArray) (w : World) (hs : s.size ≤ maxLen) : Calls Try.prog 10 #[.string s] w fun e w' => ToksPost s.data.toList w e w' := by
  rcases Nat.lt_or_ge 480 s.size with h | h
  · exact tokens_long s w hs h
  · exact tokens_short s w h
theorem tokens_ok (s : ByteArray) (ts : List Tk) (w : World) (h : toksT s.data.toList = .ok ts) (hs : s.size ≤ maxLen) :
    Calls Try.prog 10 #[.string s] w fun e w' => ∃ sv, e = .returned (.tuple #[sv, .nilIface]) ∧ Below w.heap.size w w' ∧ w'.ownsRow w.heap.size 35 3 sv ts.length (ts.flatMap Tk.cells) :=
  (tokens_any s w hs).mono fun e w' hp => by unfold ToksPost at hp; rw [h] at hp; obtain ⟨hB, sv, he, hown⟩ := hp; exact ⟨sv, he, hB, hown⟩
theorem tokens_err (s : ByteArray) (c : Int) (k : Nat) (w : World) (h : toksT s.data.toList = .error (c, k)) (hs : s.size ≤ maxLen) :
    Calls Try.prog 10 #[.string s] w fun e w' => ∃ b, e = .returned (.tuple #[.slice none 0 0, .iface 43 (.pointer (some ⟨b, 0, none⟩))]) ∧ Below w.heap.size w w' ∧ w.heap.size ≤ b ∧ w'.heap[b]? = some (.cells #[.int .i64 c, .int .i64 k] 46 (0, 0)) :=
  (tokens_any s w hs).mono fun e w' hp => by unfold ToksPost at hp; rw [h] at hp; obtain ⟨hB, b, he, hb, hc⟩ := hp; exact ⟨b, he, hB, hb, hc⟩
theorem refTokens_any (s : ByteArray) (w : World) (hs : s.size ≤ maxLen) : Calls Try.prog 11 #[.string s] w fun e w' => RefPost s.data.toList w e w' := by
  rcases Nat.lt_or_ge 480 s.size with h | h
  · exact refTokens_long s w hs h
  · exact refTokens_short s w h
theorem refTokens_ok (s : ByteArray) (ts : List Tk) (w : World) (h : toksT s.data.toList = .ok ts) (hs : s.size ≤ maxLen) :
    Calls Try.prog 11 #[.string s] w fun e w' => ∃ sv, e = .returned (.tuple #[sv, .int .i64 0, .int .i64 0]) ∧ Below w.heap.size w w' ∧ w'.ownsRow w.heap.size 35 3 sv ts.length (ts.flatMap Tk.cells) :=
  (refTokens_any s w hs).mono fun e w' hp => by unfold RefPost at hp; rw [h] at hp; obtain ⟨hB, sv, he, hown⟩ := hp; exact ⟨sv, he, hB, hown⟩
theorem refTokens_err (s : ByteArray) (c : Int) (k : Nat) (w : World) (h : toksT s.data.toList = .error (c, k)) (hs : s.size ≤ maxLen) :
    Calls Try.prog 11 #[.string s] w fun e w' => e = .returned (.tuple #[.slice none 0 0, .int .i64 c, .int .i64 k]) ∧ Below w.heap.size w w' :=
  (refTokens_any s w hs).mono fun e w' hp => by unfold RefPost at hp; rw [h] at hp; exact ⟨hp.2, hp.1⟩
theorem below_drewN {B : Nat} {a w : World} (n : Nat) (h : Below B a w) : Below B a (w.drewN n) := ⟨h.os, h.tape, h.output, h.size, h.block⟩
theorem tkRow_below {w w' : World} {v : Value} {ts : List Tk} (h : TkRow w v ts) (hb : Below w.heap.size w w') : TkRow w' v ts := by
  rcases h with h | ⟨g, cap, h1, h2, h3, h4⟩
  · exact .inl h
  · refine .inr ⟨g, cap, h1, h2, h3, fun i hi => ?_⟩
    obtain ⟨a, b, c⟩ := h4 i hi
    exact ⟨(hb.cell (World.block_lt_of_cell? w _ a)).trans a, (hb.cell (World.block_lt_of_cell? w _ b)).trans b, (hb.cell (World.block_lt_of_cell? w _ c)).trans c⟩
theorem heap_below {w w' : World} {b : Nat} {o : Obj} (h : w.heap[b]? = some o) (hb : Below w.heap.size w w') : w'.heap[b]? = some o :=
  (hb.block b (Array.getElem?_eq_some_iff.1 h).1).trans h
theorem cell_below {w w' : World} {a : Addr} {v : Value} (h : w.cell? a = some v) (hb : Below w.heap.size w w') : w'.cell? a = some v :=
  (hb.cell (World.block_lt_of_cell? w _ h)).trans h
def ts1 : List Tk := [⟨1, [120], 0⟩, ⟨3, [43, 61], 1⟩, ⟨2, [49, 48], 3⟩, ⟨3, [59], 5⟩, ⟨4, [], 6⟩]
theorem toks1 : toksT [120, 43, 61, 49, 48, 59] = .ok ts1 := by kernel_rfl
theorem toks2 : toksT [97, 32, 38, 32, 98] = .error (7, 2) := by kernel_rfl
set_option maxHeartbeats 1000000 in
theorem alive_any (w : World) : Calls Try.prog 9 #[] w fun e w' => e = .returned (.bool true) ∧ Below w.heap.size w w' := by
  go_enter Try.func9, Try.ntmps9
  go_wp2_with fail
  refine (tokens_ok _ ts1 _ toks1 (by decide)).mono ?_
  rintro _ w1 ⟨sv, rfl, hB1, hown⟩
  have hrow := tkRow_of_owns hown
  clear hown
  rcases hrow with ⟨_, h0⟩ | ⟨g, cap, rfl, hc, hm, hcell⟩
  · cases h0
  have Hcell := Lib.hid hcell; clear hcell
  go_wp2_with fail
  refine (tokens_err _ 7 2 _ toks2 (by decide)).mono ?_
  rintro _ w2 ⟨b, rfl, hB2, hb, hf⟩
  have Hf := Lib.hid hf; clear hf
  go_wp2_with fail
  refine (fault_some b 7 2 _ Hf.out).mono ?_
  rintro _ w3 ⟨rfl, n, rfl⟩
  have hz := hB1.size
  have k1 : w2.cell? ⟨g, 3, none⟩ = some (.int .i64 3) := cell_below (Hcell.out 1 (by decide)).1 hB2
  have k2 : w2.cell? ⟨g, 4, none⟩ = some (.string ⟨#[43, 61]⟩) := cell_below (Hcell.out 1 (by decide)).2.1 hB2
  have k3 : w2.cell? ⟨g, 5, none⟩ = some (.int .i64 1) := cell_below (Hcell.out 1 (by decide)).2.2 hB2
  have k4 : w2.cell? ⟨g, 12, none⟩ = some (.int .i64 4) := cell_below (Hcell.out 4 (by decide)).1 hB2
  have hlen : ts1.length = 5 := rfl
  rw [hlen] at hc; rw [hlen]; clear hlen
  unfold maxLen at hm
  go_wp2
  go_ret
  exact ⟨rfl, below_drewN n (hB1.trans (hB2.mono hz))⟩
end Go.Proofs.Ytfcgegglipmdlaa
