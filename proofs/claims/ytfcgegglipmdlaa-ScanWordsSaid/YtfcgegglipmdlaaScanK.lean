import Derived.Test.YtfcgegglipmdlaaScanI
namespace Go.Proofs.Ytfcgegglipmdlaa
open Go.RowKit
theorem allI_run (l : List UInt8) : allI l = decide (runN insideB l = l.length) := by
  have h := runN_take insideB l l.length (Nat.le_refl _)
  rw [List.take_length] at h
  have := runN_le insideB l
  unfold allI; rw [h]; rw [decide_eq_decide]; omega
def kwB (l : List UInt8) : Bool :=
  l == [111, 112] || l == [110, 101, 101, 100] || l == [108, 101, 116] || l == [105, 102] || l == [101, 108, 115, 101] || l == [102, 111, 114] || l == [105, 110] || l == [103, 105, 118, 101] || l == [116, 114, 117, 101] || l == [102, 97, 108, 115, 101]
theorem kw_word (l : List UInt8) (h : kwB l = true) : wordB l = true := by
  unfold kwB at h; simp only [Bool.or_eq_true, beq_iff_eq] at h
  rcases h with h | h; rcases h with h | h; rcases h with h | h; rcases h with h | h; rcases h with h | h; rcases h with h | h; rcases h with h | h; rcases h with h | h; rcases h with h | h
  all_goals rw [h]; decide +kernel
set_option maxHeartbeats 1000000 in
theorem scanKw_any (s : ByteArray) (w : World) :
    Calls Try.prog 18 #[.string s] w fun e w' => e = .returned (.bool (kwB s.data.toList)) ∧ w = w' := by
  go_enter Try.func18, Try.ntmps18
  go_wp2
  all_goals (go_ret; exact ⟨ret_bool (by unfold kwB; simp only [ByteArray.toList_eq] at *; simp_all), rfl⟩)
set_option maxHeartbeats 1000000 in
theorem refKw_any (s : ByteArray) (w : World) :
    Calls Try.prog 19 #[.string s] w fun e w' => e = .returned (.bool (kwB s.data.toList)) ∧ w = w' := by
  go_enter Try.func19, Try.ntmps19
  go_wp2
  all_goals (go_ret; exact ⟨ret_bool (by unfold kwB; simp only [ByteArray.toList_eq] at *; simp_all), rfl⟩)
set_option maxHeartbeats 1000000 in
theorem scanWord_any (s : ByteArray) (w : World) (hs : s.size ≤ maxLen) :
    Calls Try.prog 16 #[.string s] w fun e w' => e = .returned (.bool (wordB s.data.toList)) ∧ w = w' := by
  have hs0 := hs
  unfold maxLen at hs
  have hl : Hid (s.data.toList.length = s.size) := Lib.hid (by simp)
  have r1 := runN_le insideB s.data.toList
  rw [hl.out] at r1
  by_cases h0 : 0 < s.size
  · have hh := Lib.hid (head0 s h0)
    have hne : s.toList.isEmpty = false := by
      rw [ByteArray.toList_eq]; cases hd : s.data.toList with
      | nil => have := hl.out; rw [hd] at this; simp at this; omega
      | cons a l => rfl
    go_enter Try.func16, Try.ntmps16
    go_wp2_with (first | (go_at_call 26; (with_reducible refine (letter_any _ _).mono ?_); rintro e w' ⟨rfl, rfl⟩) | (go_at_call 27; (with_reducible refine (run_inside _ _ hs0).mono ?_); rintro e w' ⟨rfl, rfl⟩))
    all_goals (go_ret; refine ⟨ret_bool ?_, rfl⟩; unfold wordB longB; rw [hh.out, hl.out, allI_run, hl.out])
    all_goals (by_cases z1 : s.size ≤ 16 <;> by_cases z2 : runN insideB s.data.toList = s.size <;> simp_all <;> omega)
  · have hd : s.data.toList = [] := List.eq_nil_of_length_eq_zero (by rw [hl.out]; omega)
    have hne : s.toList.isEmpty = true := by rw [ByteArray.toList_eq, hd]; rfl
    have hne2 : s.toList = [] := by rw [ByteArray.toList_eq, hd]
    clear hd
    go_enter Try.func16, Try.ntmps16
    go_wp2
    go_ret
    exact ⟨ret_bool (by unfold wordB longB; rw [hl.out]; simp [h0]), rfl⟩
set_option maxHeartbeats 1000000 in
theorem scanWords_walk (s : ByteArray) (w : World) (hs : s.size ≤ 140737488351232) :
    Calls Try.prog 8 #[.string s] w fun e w' => e = .returned (.bool true) ∧ Below w.heap.size w w' := by
  have hm : s.size ≤ maxLen := by unfold maxLen; omega
  have hkw := kw_word s.data.toList
  cases hk : kwB s.data.toList <;> cases hw : wordB s.data.toList
  all_goals have Hk := Lib.hid hk; clear hk
  all_goals have Hw := Lib.hid hw; clear hw
  case true.false => have := hkw Hk.out; rw [Hw.out] at this; cases this
  all_goals clear hkw
  all_goals
    go_enter Try.func8, Try.ntmps8
    go_wp2_with (first | (go_at_call 9; (with_reducible refine (alive_any _).mono ?_); rintro _ w1 ⟨rfl, hB1⟩) | (go_at_call 16; (with_reducible refine (scanWord_any _ _ hm).mono ?_); rintro _ _ ⟨rfl, rfl⟩; rw [Hw.out]) | (go_at_call 17; (with_reducible refine (refWord_any _ _ hm).mono ?_); rintro _ _ ⟨rfl, rfl⟩; rw [Hw.out]) | (go_at_call 18; (with_reducible refine (scanKw_any _ _).mono ?_); rintro _ _ ⟨rfl, rfl⟩; rw [Hk.out]) | (go_at_call 19; (with_reducible refine (refKw_any _ _).mono ?_); rintro _ _ ⟨rfl, rfl⟩; rw [Hk.out]))
    all_goals (go_ret; exact ⟨rfl, by assumption⟩)
end Go.Proofs.Ytfcgegglipmdlaa
