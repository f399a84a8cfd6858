import Derived.Test.YtfcgegglipmdlaaScanI
namespace Go.Proofs.Ytfcgegglipmdlaa
open Go.RowKit
set_option maxHeartbeats 1000000 in
theorem scanTokens_walk (s : ByteArray) (w : World) (hs : s.size ≤ 140737488351232) :
    Calls Try.prog 3 #[.string s] w fun e w' => e = .returned (.bool true) ∧ Below w.heap.size w w' := by
  have hm : s.size ≤ maxLen := by unfold maxLen; omega
  go_enter Try.func3, Try.ntmps3
  go_wp2_with fail
  refine (alive_any _).mono ?_
  rintro _ w1 ⟨rfl, hB1⟩
  have hz1 := hB1.size
  cases ht : toksT s.data.toList with
  | ok ts =>
    have Ht := Lib.hid ht; clear ht
    go_wp2_with fail
    refine (tokens_ok _ ts _ Ht.out hm).mono ?_
    rintro _ w2 ⟨sv, rfl, hB2, hown2⟩
    have hz2 := hB2.size
    have hr2 := tkRow_of_owns hown2
    clear hown2
    go_wp2_with fail
    refine (refTokens_ok _ ts _ Ht.out hm).mono ?_
    rintro _ w3 ⟨tv, rfl, hB3, hown3⟩
    have hz3 := hB3.size
    have hr3 := tkRow_of_owns hown3
    clear hown3
    go_wp2_with fail
    refine (fault_nil _).mono ?_
    rintro _ w4 ⟨rfl, rfl⟩
    go_wp2_with fail
    refine (same_any _ _ ts ts _ (tkRow_below hr2 hB3) hr3).mono ?_
    rintro _ w5 ⟨rfl, n, rfl⟩
    rw [show decide (ts = ts) = true from by simp]
    go_wp2
    go_ret
    exact ⟨rfl, below_drewN n ((hB1.trans (hB2.mono hz1)).trans (hB3.mono (by omega)))⟩
  | error e =>
    obtain ⟨c, k⟩ := e
    have Ht := Lib.hid ht; clear ht
    go_wp2_with fail
    refine (tokens_err _ c k _ Ht.out hm).mono ?_
    rintro _ w2 ⟨b, rfl, hB2, hb, hf⟩
    have hz2 := hB2.size
    have Hf := Lib.hid hf; clear hf
    go_wp2_with fail
    refine (refTokens_err _ c k _ Ht.out hm).mono ?_
    rintro _ w3 ⟨rfl, hB3⟩
    have hz3 := hB3.size
    go_wp2_with fail
    refine (fault_some b c k _ (heap_below Hf.out hB3)).mono ?_
    rintro _ w4 ⟨rfl, n, rfl⟩
    go_wp2_with fail
    refine (same_any _ _ [] [] _ (.inl ⟨rfl, rfl⟩) (.inl ⟨rfl, rfl⟩)).mono ?_
    rintro _ w5 ⟨rfl, m, rfl⟩
    rw [show decide (([] : List Tk) = []) = true from by simp]
    go_wp2
    go_ret
    exact ⟨rfl, below_drewN _ ((hB1.trans (hB2.mono hz1)).trans (hB3.mono (by omega)))⟩
end Go.Proofs.Ytfcgegglipmdlaa
