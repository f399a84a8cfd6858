import Derived.Test.YtfcgegglipmdlaaRows
import Derived.WalkKit
import Derived.WalkSpells
import Derived.WalkLawsBesides
import Derived.Deep.QuietTactic
import Derived.BigQuiet
import Derived.Lib.Hide
namespace Go.Proofs.Ytfcgegglipmdlaa
open Go.RowKit

theorem ret_bool {a b : Bool} (h : a = b) : Ending.returned (.bool a) = .returned (.bool b) := by rw [h]
theorem ret_int {k : IntKind} {a b : Int} (h : a = b) : Ending.returned (.int k a) = .returned (.int k b) := by rw [h]
def letterB (c : Int) : Bool := (decide (97 ≤ c) && decide (c ≤ 122)) || (decide (65 ≤ c) && decide (c ≤ 90))
def digitB (c : Int) : Bool := (decide (48 ≤ c) && decide (c ≤ 57))
def insideB (c : Int) : Bool := letterB c || digitB c || decide (c = 95)
set_option maxHeartbeats 400000 in
theorem letter_any (c : Int) (w : World) :
    Calls Try.prog 26 #[.int .u8 c] w fun e w' => e = .returned (.bool (letterB c)) ∧ w = w' := by
  go_enter Try.func26, Try.ntmps26
  go_wp2
  all_goals (go_ret; exact ⟨ret_bool (by unfold letterB; first | (simp_all; done) | (simp; omega) | (simp_all; omega)), rfl⟩)
theorem digit_any (c : Int) (w : World) :
    Calls Try.prog 30 #[.int .u8 c] w fun e w' => e = .returned (.bool (digitB c)) ∧ w = w' := by
  go_enter Try.func30, Try.ntmps30
  go_wp2
  all_goals (go_ret; exact ⟨ret_bool (by unfold digitB; first | rfl | (simp_all; done) | (simp; omega)), rfl⟩)
theorem notnl_any (c : Int) (w : World) :
    Calls Try.prog 29 #[.int .u8 c] w fun e w' => e = .returned (.bool (c != 10)) ∧ w = w' := by
  go_enter Try.func29, Try.ntmps29
  go_wp2
  all_goals (go_ret; exact ⟨rfl, rfl⟩)
set_option maxHeartbeats 400000 in
theorem inside_any (c : Int) (w : World) :
    Calls Try.prog 28 #[.int .u8 c] w fun e w' => e = .returned (.bool (insideB c)) ∧ w = w' := by
  go_enter Try.func28, Try.ntmps28
  go_wp2_with (first | (go_at_call 26; refine (letter_any _ _).mono ?_; rintro e w' ⟨rfl, rfl⟩) | (go_at_call 30; refine (digit_any _ _).mono ?_; rintro e w' ⟨rfl, rfl⟩))
  all_goals (go_ret; exact ⟨ret_bool (by unfold insideB; simp_all <;> rfl), rfl⟩)
theorem ext_drop (s : ByteArray) (k : Nat) : (s.extract k s.size).data.toList = s.data.toList.drop k := by
  simp [ByteArray.data_extract, List.extract_eq_take_drop]
  exact List.take_of_length_le (by simp)
theorem ext_size (s : ByteArray) (k : Nat) : (s.extract k s.size).size = s.size - k := by
  simp [ByteArray.size_extract]
/-- how many first bytes are of a kind -/
def runN (p : Int → Bool) : List UInt8 → Nat
  | [] => 0
  | c :: l => if p c.toNat then runN p l + 1 else 0
theorem runN_le (p : Int → Bool) (l : List UInt8) : runN p l ≤ l.length := by
  induction l with
  | nil => simp [runN]
  | cons c l ih => simp only [runN]; split <;> simp <;> omega

theorem runN_drop (p : Int → Bool) (l : List UInt8) (k : Nat) (h : k < l.length) : runN p (l.drop k) = if p (l[k].toNat) then runN p (l.drop (k + 1)) + 1 else 0 := by
  rw [List.drop_eq_getElem_cons h]; rfl
theorem drop_len (l : List UInt8) (p : Int → Bool) : runN p (l.drop l.length) = 0 := by simp [runN]
set_option maxHeartbeats 400000 in
theorem run_any (f : Nat) (p : Int → Bool) (hcf : ∀ (args : Array Value) (w : World), (callFunc f args).run Try.prog w = .ok (.enter f args) w) (hk : ∀ (c : Int) (w : World), Calls Try.prog f #[.int .u8 c] w fun e w' => e = .returned (.bool (p c)) ∧ w = w')
    (s : ByteArray) (w : World) (hs : s.size ≤ maxLen) :
    Calls Try.prog 27 #[.string s, .func (.func f) #[] #[]] w fun e w' => e = .returned (.int .i64 (runN p s.data.toList)) ∧ w = w' := by
  unfold maxLen at hs
  have Hk := Lib.hid hk; clear hk
  go_enter Try.func27, Try.ntmps27
  go_wp2
  go_loop [5] (fun n => ∃ k : Nat, k ≤ s.size ∧ n = .int .i64 k ∧ Hid (runN p s.data.toList = k + runN p (s.data.toList.drop k))) (fun n => s.size - (intOf n).toNat)
  case atStart => exact ⟨0, Nat.zero_le _, rfl, Lib.hid (by simp)⟩
  case round =>
    obtain ⟨k, hk, rfl, HK⟩ := hrel
    have hl : s.data.toList.length = s.size := by simp
    by_cases hlt : k < s.size
    · have hd : Hid (runN p (s.data.toList.drop k) = if p (s[k].toNat) then runN p (s.data.toList.drop (k + 1)) + 1 else 0) := runN_drop p _ k (by simpa using hlt)
      by_cases hp : p (s[k].toNat) = true
      · go_wp2_with (refine (Hk.out _ _).mono ?_; rintro e w' ⟨rfl, rfl⟩)
        go_round
        case rel => exact ⟨k + 1, by omega, by go_num, Lib.hid (by have h1 := HK.out; have h2 := hd.out; rw [if_pos hp] at h2; omega)⟩
        case measure => simp [intOf]; omega
      · go_wp2_with (refine (Hk.out _ _).mono ?_; rintro e w' ⟨rfl, rfl⟩)
        go_ret
        exact ⟨ret_int (by have h1 := HK.out; have h2 := hd.out; rw [if_neg hp] at h2; omega), rfl⟩
    · go_wp2
      go_ret
      exact ⟨ret_int (by have h1 := HK.out; have : k = s.data.toList.length := by omega
                         rw [h1, this, drop_len]; omega), rfl⟩
theorem cf28 (args : Array Value) (w : World) : (callFunc 28 args).run Try.prog w = .ok (.enter 28 args) w := by kernel_rfl
theorem cf29 (args : Array Value) (w : World) : (callFunc 29 args).run Try.prog w = .ok (.enter 29 args) w := by kernel_rfl
theorem cf30 (args : Array Value) (w : World) : (callFunc 30 args).run Try.prog w = .ok (.enter 30 args) w := by kernel_rfl
theorem run_inside (s : ByteArray) (w : World) (hs : s.size ≤ maxLen) :
    Calls Try.prog 27 #[.string s, .func (.func 28) #[] #[]] w fun e w' => e = .returned (.int .i64 (runN insideB s.data.toList)) ∧ w = w' :=
  run_any 28 _ cf28 inside_any s w hs
theorem run_notnl (s : ByteArray) (w : World) (hs : s.size ≤ maxLen) :
    Calls Try.prog 27 #[.string s, .func (.func 29) #[] #[]] w fun e w' => e = .returned (.int .i64 (runN (· != 10) s.data.toList)) ∧ w = w' :=
  run_any 29 _ cf29 notnl_any s w hs
theorem run_digit (s : ByteArray) (w : World) (hs : s.size ≤ maxLen) :
    Calls Try.prog 27 #[.string s, .func (.func 30) #[] #[]] w fun e w' => e = .returned (.int .i64 (runN digitB s.data.toList)) ∧ w = w' :=
  run_any 30 _ cf30 digit_any s w hs

/-- blanks and remarks at the head; the flag: within a remark -/
def skipN : Bool → List UInt8 → Nat
  | _, [] => 0
  | false, c :: l => if c.toNat = 32 ∨ c.toNat = 9 ∨ c.toNat = 10 then skipN false l + 1 else if c.toNat = 35 then skipN true l + 1 else 0
  | true, c :: l => if c.toNat = 10 then skipN false l + 1 else skipN true l + 1
theorem skipN_le (b : Bool) (l : List UInt8) : skipN b l ≤ l.length := by
  induction l generalizing b with
  | nil => simp [skipN]
  | cons c l ih => have h1 := ih true; have h2 := ih false; cases b <;> simp only [skipN] <;> (repeat' split) <;> simp <;> omega
theorem skipN_true (l : List UInt8) : skipN true l = runN (· != 10) l + skipN false (l.drop (runN (· != 10) l)) := by
  induction l with
  | nil => simp [skipN, runN]
  | cons c l ih =>
    by_cases h : c.toNat = 10
    · simp [skipN, runN, h]
    · have h' : ((c.toNat : Int) != 10) = true := by simp; omega
      simp only [skipN, runN, h, h', if_true, if_false, List.drop_succ_cons]; omega
theorem skipN_blank (l : List UInt8) (k : Nat) (h : k < l.length) (hc : l[k].toNat = 32 ∨ l[k].toNat = 9 ∨ l[k].toNat = 10) : skipN false (l.drop k) = skipN false (l.drop (k + 1)) + 1 := by
  rw [List.drop_eq_getElem_cons h]; simp only [skipN, if_pos hc]
theorem skipN_remark (l : List UInt8) (k : Nat) (h : k < l.length) (hc : l[k].toNat = 35) : skipN false (l.drop k) = runN (· != 10) (l.drop k) + skipN false (l.drop (k + runN (· != 10) (l.drop k))) := by
  rw [← List.drop_drop, List.drop_eq_getElem_cons h]
  simp only [skipN, runN, if_true, hc]
  have := skipN_true (l.drop (k + 1))
  simp [this]; rw [show k + 1 + runN (fun x => x != 10) (List.drop (k + 1) l) = k + (runN (fun x => x != 10) (List.drop (k + 1) l) + 1) from by omega]; omega
theorem skipN_stop (l : List UInt8) (k : Nat) (h : k < l.length) (hc : ¬ (l[k].toNat = 32 ∨ l[k].toNat = 9 ∨ l[k].toNat = 10)) (h5 : l[k].toNat ≠ 35) : skipN false (l.drop k) = 0 := by
  rw [List.drop_eq_getElem_cons h]; simp only [skipN, if_neg hc, if_neg h5]
set_option maxHeartbeats 1000000 in
theorem skipped_any (s : ByteArray) (w : World) (hs : s.size ≤ maxLen) :
    Calls Try.prog 20 #[.string s] w fun e w' => e = .returned (.int .i64 (skipN false s.data.toList)) ∧ w = w' := by
  have hs0 := hs
  unfold maxLen at hs
  go_enter Try.func20, Try.ntmps20
  go_wp2; go_step3; go_wp2; go_step3; go_wp2
  go_loop [3] (fun n => ∃ k : Nat, k ≤ s.size ∧ n = .int .i64 k ∧ Hid (skipN false s.data.toList = k + skipN false (s.data.toList.drop k))) (fun n => s.size - (intOf n).toNat)
  case atStart => exact ⟨0, Nat.zero_le _, rfl, Lib.hid (by simp)⟩
  case round =>
    obtain ⟨k, hk, rfl, HK⟩ := hrel
    have hl : s.data.toList.length = s.size := by simp
    by_cases hlt : k < s.size
    · have hlt' : k < s.data.toList.length := by omega
      by_cases hb : s[k].toNat = 32 ∨ s[k].toNat = 9 ∨ s[k].toNat = 10
      · have hd := Lib.hid (skipN_blank s.data.toList k hlt' hb)
        rcases hb with hb | hb | hb
        all_goals
          go_wp2
          go_round
          case rel => exact ⟨k + 1, by omega, by go_num, Lib.hid (by have h1 := HK.out; have h2 := hd.out; omega)⟩
          case measure => simp [intOf]; omega
      · by_cases h5 : s[k].toNat = 35
        · have hd := Lib.hid (skipN_remark s.data.toList k hlt' h5)
          have hle := runN_le (· != 10) (s.data.toList.drop k)
          have hpos : 1 ≤ runN (· != 10) (s.data.toList.drop k) := by
            rw [List.drop_eq_getElem_cons hlt']
            have h' : ((s.data.toList[k].toNat : Int) != 10) = true := by
              have : s.data.toList[k] = s[k] := rfl
              simp [this]; omega
            simp only [runN, h', if_true]; omega
          have hlen : (s.data.toList.drop k).length = s.size - k := by simp
          have hb1 : s[k].toNat ≠ 32 := by omega
          have hb2 : s[k].toNat ≠ 9 := by omega
          have hb3 : s[k].toNat ≠ 10 := by omega
          clear hb
          go_wp2_with (go_at_call 27; refine (run_notnl _ _ (by rw [ext_size]; unfold maxLen; omega)).mono ?_; rintro e w' ⟨rfl, rfl⟩; simp only [ext_drop])
          go_round
          case rel => exact ⟨k + runN (· != 10) (s.data.toList.drop k), by omega, by go_num, Lib.hid (by have h1 := HK.out; have h2 := hd.out; omega)⟩
          case measure => simp [intOf]; omega
        · have hd := Lib.hid (skipN_stop s.data.toList k hlt' hb h5)
          have hb1 : s[k].toNat ≠ 32 := by omega
          have hb2 : s[k].toNat ≠ 9 := by omega
          have hb3 : s[k].toNat ≠ 10 := by omega
          clear hb
          go_wp2
          go_ret
          exact ⟨ret_int (by have h1 := HK.out; have h2 := hd.out; omega), rfl⟩
    · go_wp2
      go_ret
      exact ⟨ret_int (by have h1 := HK.out; have h2 : s.data.toList.drop k = [] := by apply List.drop_eq_nil_of_le; omega
                         rw [h2] at h1; simp only [skipN] at h1; omega), rfl⟩
end Go.Proofs.Ytfcgegglipmdlaa
