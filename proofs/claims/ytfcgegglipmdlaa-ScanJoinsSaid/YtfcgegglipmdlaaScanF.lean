import Derived.Test.YtfcgegglipmdlaaScanE
import Derived.Test.YtfcgegglipmdlaaScanD
namespace Go.Proofs.Ytfcgegglipmdlaa
open Go.RowKit
set_option maxHeartbeats 400000 in
theorem has_any (s : ByteArray) (c : Int) (w : World) (hs : s.size ≤ maxLen) :
    Calls Try.prog 34 #[.string s, .int .u8 c] w fun e w' => e = .returned (.bool (hasB s.data.toList c)) ∧ w = w' := by
  unfold maxLen at hs
  have hl : Hid (s.data.toList.length = s.size) := Lib.hid (by simp)
  go_enter Try.func34, Try.ntmps34
  go_wp2
  go_loop [5] (fun n => ∃ k : Nat, k ≤ s.size ∧ n = .int .i64 k ∧ Hid (hasB s.data.toList c = hasB (s.data.toList.drop k) c)) (fun n => s.size - (intOf n).toNat)
  case atStart => exact ⟨0, Nat.zero_le _, rfl, Lib.hid (by simp)⟩
  case round =>
    obtain ⟨k, hk, rfl, HK⟩ := hrel
    by_cases hlt : k < s.size
    · have hd : Hid (hasB (s.data.toList.drop k) c = ((s[k].toNat : Int) == c || hasB (s.data.toList.drop (k + 1)) c)) := by
        have h1 : k < s.data.toList.length := by rw [hl.out]; exact hlt
        have h2 : s.data.toList[k] = s[k] := rfl
        rw [List.drop_eq_getElem_cons h1, h2]; rfl
      by_cases hc : ((s[k].toNat : Int) == c) = true
      · go_wp2
        go_ret
        exact ⟨ret_bool (by rw [HK.out, hd.out, hc]; rfl), rfl⟩
      · simp only [Bool.not_eq_true] at hc
        go_wp2
        go_round
        case rel => exact ⟨k + 1, by omega, by go_num, Lib.hid (by rw [HK.out, hd.out, hc]; rfl)⟩
        case measure => simp [intOf]; omega
    · go_wp2
      go_ret
      exact ⟨ret_bool (by rw [HK.out, List.drop_eq_nil_of_le (by rw [hl.out]; omega)]; rfl), rfl⟩
def allH (t l : List UInt8) : Bool := l.all fun x => hasB t x.toNat
set_option maxHeartbeats 400000 in
theorem all_any (s t : ByteArray) (w : World) (hs : s.size ≤ maxLen) (ht : t.size ≤ maxLen) :
    Calls Try.prog 23 #[.string s, .string t] w fun e w' => e = .returned (.bool (allH t.data.toList s.data.toList)) ∧ w = w' := by
  unfold maxLen at hs
  have hl : Hid (s.data.toList.length = s.size) := Lib.hid (by simp)
  go_enter Try.func23, Try.ntmps23
  go_wp2
  go_loop [5] (fun n => ∃ k : Nat, k ≤ s.size ∧ n = .int .i64 k ∧ Hid (allH t.data.toList s.data.toList = allH t.data.toList (s.data.toList.drop k))) (fun n => s.size - (intOf n).toNat)
  case atStart => exact ⟨0, Nat.zero_le _, rfl, Lib.hid (by simp)⟩
  case round =>
    obtain ⟨k, hk, rfl, HK⟩ := hrel
    by_cases hlt : k < s.size
    · have hd : Hid (allH t.data.toList (s.data.toList.drop k) = (hasB t.data.toList s[k].toNat && allH t.data.toList (s.data.toList.drop (k + 1)))) := by
        have h1 : k < s.data.toList.length := by rw [hl.out]; exact hlt
        have h2 : s.data.toList[k] = s[k] := rfl
        rw [List.drop_eq_getElem_cons h1, h2]; rfl
      by_cases hc : hasB t.data.toList s[k].toNat = true
      · have Hc := Lib.hid hc; clear hc
        go_wp2_with (go_at_call 34; (with_reducible refine (has_any _ _ _ ht).mono ?_); rintro e w' ⟨rfl, rfl⟩; rw [Hc.out])
        go_round
        case rel => exact ⟨k + 1, by omega, by go_num, Lib.hid (by rw [HK.out, hd.out, Hc.out]; rfl)⟩
        case measure => simp [intOf]; omega
      · simp only [Bool.not_eq_true] at hc
        have Hc := Lib.hid hc; clear hc
        go_wp2_with (go_at_call 34; (with_reducible refine (has_any _ _ _ ht).mono ?_); rintro e w' ⟨rfl, rfl⟩; rw [Hc.out])
        go_ret
        exact ⟨ret_bool (by rw [HK.out, hd.out, Hc.out]; rfl), rfl⟩
    · go_wp2
      go_ret
      exact ⟨ret_bool (by rw [HK.out, List.drop_eq_nil_of_le (by rw [hl.out]; omega)]; rfl), rfl⟩
def bLetters : ByteArray := ⟨#[97, 98, 99, 100, 101, 102, 103, 104, 105, 106, 107, 108, 109, 110, 111, 112, 113, 114, 115, 116, 117, 118, 119, 120, 121, 122, 65, 66, 67, 68, 69, 70, 71, 72, 73, 74, 75, 76, 77, 78, 79, 80, 81, 82, 83, 84, 85, 86, 87, 88, 89, 90]⟩
theorem has_let (c : UInt8) (w : World) : Calls Try.prog 34 #[.string ⟨#[97, 98, 99, 100, 101, 102, 103, 104, 105, 106, 107, 108, 109, 110, 111, 112, 113, 114, 115, 116, 117, 118, 119, 120, 121, 122, 65, 66, 67, 68, 69, 70, 71, 72, 73, 74, 75, 76, 77, 78, 79, 80, 81, 82, 83, 84, 85, 86, 87, 88, 89, 90]⟩, .int .u8 c.toNat] w fun e w' => e = .returned (.bool (letterB c.toNat)) ∧ w = w' := by
  rw [← has_letters]; exact has_any bLetters _ _ (by decide)
theorem has_sing (c : UInt8) (w : World) : Calls Try.prog 34 #[.string ⟨#[40, 41, 123, 125, 91, 93, 44, 59, 43, 45, 42, 47, 37, 33, 60, 62, 61]⟩, .int .u8 c.toNat] w fun e w' => e = .returned (.bool (hasB singlesL c.toNat)) ∧ w = w' :=
  has_any ⟨#[40, 41, 123, 125, 91, 93, 44, 59, 43, 45, 42, 47, 37, 33, 60, 62, 61]⟩ _ _ (by decide)
theorem all_ins (s : ByteArray) (w : World) (hs : s.size ≤ maxLen) : Calls Try.prog 23 #[.string s, .string ⟨#[97, 98, 99, 100, 101, 102, 103, 104, 105, 106, 107, 108, 109, 110, 111, 112, 113, 114, 115, 116, 117, 118, 119, 120, 121, 122, 65, 66, 67, 68, 69, 70, 71, 72, 73, 74, 75, 76, 77, 78, 79, 80, 81, 82, 83, 84, 85, 86, 87, 88, 89, 90, 48, 49, 50, 51, 52, 53, 54, 55, 56, 57, 95]⟩] w fun e w' => e = .returned (.bool (allI s.data.toList)) ∧ w = w' := by
  have e : (fun x : UInt8 => insideB x.toNat) = (fun x => hasB (lettersL ++ digitsL ++ [95]) x.toNat) := funext fun x => (has_inside x).symm
  unfold allI; rw [e]
  exact all_any s ⟨(lettersL ++ digitsL ++ [95]).toArray⟩ _ hs (by decide)
theorem all_dig (s : ByteArray) (w : World) (hs : s.size ≤ maxLen) : Calls Try.prog 23 #[.string s, .string ⟨#[48, 49, 50, 51, 52, 53, 54, 55, 56, 57]⟩] w fun e w' => e = .returned (.bool (allD s.data.toList)) ∧ w = w' := by
  have e : (fun x : UInt8 => digitB x.toNat) = (fun x => hasB digitsL x.toNat) := funext fun x => (has_digits x).symm
  unfold allD; rw [e]
  exact all_any s ⟨digitsL.toArray⟩ _ hs (by decide)
set_option maxHeartbeats 400000 in
theorem long_any (s : ByteArray) (w : World) (hs : s.size ≤ maxLen) :
    Calls Try.prog 22 #[.string s] w fun e w' => e = .returned (.bool (longB s.data.toList)) ∧ w = w' := by
  have hs0 := hs
  unfold maxLen at hs
  have hl : Hid (s.data.toList.length = s.size) := Lib.hid (by simp)
  by_cases h0 : 0 < s.size
  · have hh := Lib.hid (head0 s h0)
    go_enter Try.func22, Try.ntmps22
    go_wp2_with (first | (go_at_call 34; (with_reducible refine (has_let _ _).mono ?_); rintro e w' ⟨rfl, rfl⟩) | (go_at_call 23; (with_reducible refine (all_ins _ _ hs0).mono ?_); rintro e w' ⟨rfl, rfl⟩))
    all_goals (go_ret; exact ⟨ret_bool (by unfold longB; rw [hh.out, hl.out]; simp_all), rfl⟩)
  · go_enter Try.func22, Try.ntmps22
    go_wp2
    go_ret
    exact ⟨ret_bool (by unfold longB; rw [hl.out]; simp [h0]), rfl⟩
set_option maxHeartbeats 400000 in
theorem refWord_any (s : ByteArray) (w : World) (hs : s.size ≤ maxLen) :
    Calls Try.prog 17 #[.string s] w fun e w' => e = .returned (.bool (wordB s.data.toList)) ∧ w = w' := by
  have hs0 := hs
  unfold maxLen at hs
  have hl : Hid (s.data.toList.length = s.size) := Lib.hid (by simp)
  go_enter Try.func17, Try.ntmps17
  go_wp2_with (go_at_call 22; (with_reducible refine (long_any _ _ hs0).mono ?_); rintro e w' ⟨rfl, rfl⟩)
  all_goals (go_ret; exact ⟨ret_bool (by unfold wordB; rw [hl.out]; simp_all <;> omega), rfl⟩)
set_option maxHeartbeats 1000000 in
theorem refSign_any (s : ByteArray) (w : World) :
    Calls Try.prog 24 #[.string s] w fun e w' => e = .returned (.bool (signB s.data.toList)) ∧ w = w' := by
  have hl : Hid (s.data.toList.length = s.size) := Lib.hid (by simp)
  by_cases h1 : s.size = 1
  · have h0 : 0 < s.size := by omega
    have hh := Lib.hid (head0 s h0)
    go_enter Try.func24, Try.ntmps24
    go_wp2_with (go_at_call 34; (with_reducible refine (has_sing _ _).mono ?_); rintro e w' ⟨rfl, rfl⟩)
    all_goals (go_ret; exact ⟨ret_bool (by unfold signB; rw [hh.out, hl.out, if_pos h1]), rfl⟩)
  · go_enter Try.func24, Try.ntmps24
    go_wp2
    all_goals (go_ret; exact ⟨ret_bool (by unfold signB; rw [hl.out, if_neg h1]; unfold pairsB; simp only [ByteArray.toList_eq] at *; simp_all), rfl⟩)
set_option maxHeartbeats 1000000 in
theorem refNumber_any (s : ByteArray) (w : World) (hs : s.size ≤ maxLen) (h0 : 0 < s.size) :
    Calls Try.prog 25 #[.string s] w fun e w' => e = .returned (.bool (numB s.data.toList)) ∧ w = w' := by
  unfold maxLen at hs
  have hl : Hid (s.data.toList.length = s.size) := Lib.hid (by simp)
  have hh := Lib.hid (head0 s h0)
  go_enter Try.func25, Try.ntmps25
  go_wp2
  all_goals (go_ret; refine ⟨ret_bool ?_, rfl⟩; have hh := hh.out; have hl := hl.out; unfold numB leB greatest; rw [hh, hl]; try simp only [ByteArray.toList_eq] at *)
  all_goals have c1 : ((s[0].toNat : Int) == 48) = decide (s[0].toNat = 48) := by (rw [Bool.eq_iff_iff]; simp; omega)
  all_goals have c2 : decide ((s.size : Int) < 19) = decide (s.size < 19) := by (simp; omega)
  all_goals (try simp only [c1, c2]); clear c1 c2
  all_goals (by_cases z1 : 1 < s.size <;> by_cases z2 : s.size < 19 <;> by_cases z4 : 19 < s.size <;> by_cases z3 : s[0].toNat = 48 <;> first | omega | (simp_all; done) | (simp_all <;> omega))
end Go.Proofs.Ytfcgegglipmdlaa
