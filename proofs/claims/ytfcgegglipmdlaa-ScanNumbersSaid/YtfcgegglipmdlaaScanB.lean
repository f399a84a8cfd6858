import Derived.Test.YtfcgegglipmdlaaScanA
import Derived.Test.YtfcgegglipmdlaaShelf
namespace Go.Proofs.Ytfcgegglipmdlaa
open Go.RowKit
def pairsB (l : List UInt8) : Bool :=
  l == [43, 61] || l == [45, 61] || l == [60, 62] || l == [60, 61] || l == [62, 61] || l == [61, 61] || l == [33, 61] || l == [38, 38] || l == [124, 124] || l == [46, 46]
set_option maxHeartbeats 1000000 in
theorem pairs_any (s : ByteArray) (w : World) :
    Calls Try.prog 32 #[.string s] w fun e w' => e = .returned (.bool (pairsB s.data.toList)) ∧ w = w' := by
  go_enter Try.func32, Try.ntmps32
  go_wp2
  all_goals (go_ret; exact ⟨ret_bool (by unfold pairsB; simp only [ByteArray.toList_eq] at *; simp_all), rfl⟩)
def greatest : List UInt8 := [57, 50, 50, 51, 51, 55, 50, 48, 51, 54, 56, 53, 52, 55, 55, 53, 56, 48, 55]
def leB (a b : List UInt8) : Bool := Op.bytesLess a b || a == b
def goodB (l : List UInt8) : Bool :=
  (l == [48] || decide ((l.headD 0).toNat ≠ 48)) && (decide (l.length < 19) || (decide (l.length = 19) && leB l greatest))
theorem headD_eq (l : List UInt8) (h : 0 < l.length) : l.headD 0 = l[0] := by
  cases l with
  | nil => simp at h
  | cons a l => simp
theorem head0 (s : ByteArray) (h : 0 < s.size) : s.data.toList.headD 0 = s[0] := headD_eq _ (by simpa using h)
set_option maxHeartbeats 1000000 in
theorem good_any (s : ByteArray) (w : World) (h0 : 0 < s.size) (hs : s.size ≤ maxLen) :
    Calls Try.prog 31 #[.string s] w fun e w' => e = .returned (.bool (goodB s.data.toList)) ∧ w = w' := by
  unfold maxLen at hs
  have hh := Lib.hid (head0 s h0)
  have hl : Hid (s.data.toList.length = s.size) := Lib.hid (by simp)
  go_enter Try.func31, Try.ntmps31
  go_wp2
  all_goals (go_ret; refine ⟨ret_bool ?_, rfl⟩; have hh := hh.out; have hl := hl.out; unfold goodB leB greatest; rw [hh, hl]; simp only [ByteArray.toList_eq] at *)
  all_goals have c1 : ((s[0].toNat : Int) != 48) = decide (s[0].toNat ≠ 48) := by (rw [Bool.eq_iff_iff]; simp; omega)
  all_goals have c2 : decide ((s.size : Int) < 19) = decide (s.size < 19) := by (simp; omega)
  all_goals (try simp only [c1, c2]); clear c1 c2
  all_goals (by_cases z1 : s.size = 19 <;> by_cases z2 : s.size < 19 <;> by_cases z3 : s[0].toNat = 48 <;> first | omega | (simp_all; done) | (simp_all <;> omega))
/-- the token that a text begins with: its kind and its length; 0: none -/
def tokN (l : List UInt8) : Int × Nat :=
  if letterB (l.headD 0).toNat then (if runN insideB l ≤ 16 then (1, runN insideB l) else (0, 0))
  else if digitB (l.headD 0).toNat then (if goodB (l.take (runN digitB l)) then (2, runN digitB l) else (0, 0))
  else if 1 < l.length ∧ pairsB (l.take 2) then (3, 2)
  else if Lib.indexByte [40, 41, 123, 125, 91, 93, 44, 59, 43, 45, 42, 47, 37, 33, 60, 62, 61] (l.headD 0) ≥ 0 then (3, 1)
  else (0, 0)
theorem ext_take (s : ByteArray) (k : Nat) : (s.extract 0 k).data.toList = s.data.toList.take k := by
  simp [ByteArray.data_extract, List.extract_eq_take_drop]
theorem good_take (s : ByteArray) (n : Nat) (w : World) (h0 : 0 < n) (h1 : n ≤ s.size) (hs : s.size ≤ maxLen) :
    Calls Try.prog 31 #[.string (s.extract 0 n)] w fun e w' => e = .returned (.bool (goodB (s.data.toList.take n))) ∧ w = w' := by
  rw [← ext_take]; exact good_any _ _ (by rw [ByteArray.size_extract]; omega) (by rw [ByteArray.size_extract]; omega)
theorem run_pos (p : Int → Bool) (s : ByteArray) (h0 : 0 < s.size) (h : p (s[0].toNat) = true) : 0 < runN p s.data.toList := by
  have h1 : 0 < s.data.toList.length := by simpa using h0
  have e := runN_drop p s.data.toList 0 h1
  have e0 : s.data.toList[0] = s[0] := rfl
  rw [e0, if_pos h] at e; simp at e; omega
theorem tok_post {s : ByteArray} {a : Act} {w w0 : World} (k : Int) (n : Nat)
    (hr : (results Try.f21 a.tmps).run Try.prog w = .ok (.agg #[.int .i64 k, .string (s.extract 0 n), .int .i64 0]) w) (hd : a.defers = []) (ht : tokN s.data.toList = (k, n)) (hb : Below w0.heap.size w0 w) :
    bodyPost Try.prog Try.f21 (fun e w' => e = .returned (.agg #[.int .i64 (tokN s.data.toList).1, .string (s.extract 0 (tokN s.data.toList).2), .int .i64 0]) ∧ Below w0.heap.size w0 w') .ret a w :=
  bodyPost_ret hr hd ⟨by rw [ht], hb⟩
set_option maxHeartbeats 2000000 in
theorem token_any (s : ByteArray) (w : World) (h0 : 0 < s.size) (hs : s.size ≤ maxLen) :
    Calls Try.prog 21 #[.string s] w fun e w' => e = .returned (.agg #[.int .i64 (tokN s.data.toList).1, .string (s.extract 0 (tokN s.data.toList).2), .int .i64 0]) ∧ Below w.heap.size w w' := by
  have hs0 := hs
  unfold maxLen at hs
  have hh := Lib.hid (head0 s h0)
  have rl : s.data.toList.length = s.size := by simp
  have r1 := runN_le insideB s.data.toList
  have r2 := runN_le digitB s.data.toList
  rw [rl] at r1 r2; clear rl
  go_enter Try.func21, Try.ntmps21
  go_wp2_with (first | (go_at_call 26; (with_reducible refine (letter_any _ _).mono ?_); rintro e w' ⟨rfl, rfl⟩) | (go_at_call 30; (with_reducible refine (digit_any _ _).mono ?_); rintro e w' ⟨rfl, rfl⟩) | (go_at_call 32; (with_reducible refine (pairs_any _ _).mono ?_); rintro e w' ⟨rfl, rfl⟩; simp only [ext_take]) | (go_at_call 33; (with_reducible refine (Try.strings_IndexByte _ _ _).mono ?_); rintro e w' ⟨rfl, rfl⟩) | (go_at_call 31; (with_reducible refine (good_take _ _ _ ?_ ?_ hs0).mono ?_); rotate_left 2; rintro e w' ⟨rfl, rfl⟩) | (go_at_call 27; (with_reducible refine (run_inside _ _ hs0).mono ?_); rintro e w' ⟨rfl, rfl⟩) | (go_at_call 27; (with_reducible refine (run_digit _ _ hs0).mono ?_); rintro e w' ⟨rfl, rfl⟩))
  case refine_1 => exact run_pos _ s h0 (by assumption)
  case refine_2 => exact r2
  all_goals have hh := hh.out
  all_goals have rl : s.data.toList.length = s.size := by simp
  · exact tok_post 1 (runN insideB s.data.toList) (by simp [results, Try.results21, go_sem]) rfl (by unfold tokN; rw [hh, rl]; simp_all <;> omega) ((Below.refl _ _).alloc (Nat.le_refl _) _)
  · exact tok_post 0 (0) (by simp [results, Try.results21, go_sem]; rfl) rfl (by unfold tokN; rw [hh, rl]; simp_all <;> omega) ((Below.refl _ _).alloc (Nat.le_refl _) _)
  · exact tok_post 2 (runN digitB s.data.toList) (by simp [results, Try.results21, go_sem]) rfl (by unfold tokN; rw [hh, rl]; simp_all <;> omega) ((Below.refl _ _).alloc (Nat.le_refl _) _)
  · exact tok_post 0 (0) (by simp [results, Try.results21, go_sem]; rfl) rfl (by unfold tokN; rw [hh, rl]; simp_all <;> omega) ((Below.refl _ _).alloc (Nat.le_refl _) _)
  · exact tok_post 3 (2) (by simp [results, Try.results21, go_sem]) rfl (by unfold tokN; rw [hh, rl]; simp_all <;> omega) ((Below.refl _ _).alloc (Nat.le_refl _) _)
  · exact tok_post 3 (1) (by simp [results, Try.results21, go_sem]) rfl (by unfold tokN; rw [hh, rl]; simp_all <;> omega) ((Below.refl _ _).alloc (Nat.le_refl _) _)
  · exact tok_post 0 (0) (by simp [results, Try.results21, go_sem]; rfl) rfl (by unfold tokN; rw [hh, rl]; simp_all <;> omega) ((Below.refl _ _).alloc (Nat.le_refl _) _)
  · exact tok_post 3 (1) (by simp [results, Try.results21, go_sem]) rfl (by unfold tokN; rw [hh, rl]; simp_all <;> omega) ((Below.refl _ _).alloc (Nat.le_refl _) _)
  · exact tok_post 0 (0) (by simp [results, Try.results21, go_sem]; rfl) rfl (by unfold tokN; rw [hh, rl, if_neg (by simp_all), if_neg (by simp_all), if_neg (by rintro ⟨h, _⟩; omega), if_neg (by omega)]) ((Below.refl _ _).alloc (Nat.le_refl _) _)
end Go.Proofs.Ytfcgegglipmdlaa
