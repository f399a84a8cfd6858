import Derived.Test.YtfcgegglipmdlaaScanF
namespace Go.Proofs.Ytfcgegglipmdlaa
open Go.RowKit
def RefPost (l : List UInt8) (w : World) (e : Ending) (w' : World) : Prop :=
  Below w.heap.size w w' ∧ match toksT l with
  | .ok ts => ∃ sv, e = .returned (.tuple #[sv, .int .i64 0, .int .i64 0]) ∧ w'.ownsRow w.heap.size 35 3 sv ts.length (ts.flatMap Tk.cells)
  | .error (c, k) => e = .returned (.tuple #[.slice none 0 0, .int .i64 c, .int .i64 k])
theorem ref_ok {l : List UInt8} {w w1 : World} {ts : List Tk} {v : Value} {e : Ending} (hl : l.length ≤ 480) (h : toksR l 0 = .ok ts) (hB : Below w.heap.size w w1)
    (hown : w1.ownsRow w.heap.size 35 3 v ts.length (ts.flatMap Tk.cells)) (he : e = .returned (.tuple #[v, .int .i64 0, .int .i64 0])) : RefPost l w e w1 := by
  have : toksT l = .ok ts := by unfold toksT; rw [if_neg (by omega), h]; rfl
  unfold RefPost; rw [this]; exact ⟨hB, v, he, hown⟩
theorem ref_bad {l : List UInt8} {w w1 : World} {k : Nat} {e : Ending} (hl : l.length ≤ 480) (h : toksR l 0 = .error k) (hB : Below w.heap.size w w1)
    (he : e = .returned (.tuple #[.slice none 0 0, .int .i64 7, .int .i64 k])) : RefPost l w e w1 := by
  have : toksT l = .error (7, k) := by unfold toksT; rw [if_neg (by omega), h]; rfl
  unfold RefPost; rw [this]; exact ⟨hB, he⟩
theorem ref_long {l : List UInt8} {w w1 : World} {e : Ending} (hl : 480 < l.length) (hB : Below w.heap.size w w1)
    (he : e = .returned (.tuple #[.slice none 0 0, .int .i64 2, .int .i64 0])) : RefPost l w e w1 := by
  have : toksT l = .error (2, 0) := by unfold toksT; rw [if_pos hl]
  unfold RefPost; rw [this]; exact ⟨hB, he⟩
theorem tokInv_move (l : List UInt8) (k k' : Nat) (ts : List Tk) (h : TokInv l k ts) (hk : k + skipN false (l.drop k) = k' + skipN false (l.drop k')) : TokInv l k' ts := by
  have e : ∀ a, (l.drop a).drop (skipN false (l.drop a)) = l.drop (a + skipN false (l.drop a)) := fun a => by rw [List.drop_drop]
  have : toksR (l.drop k) k = toksR (l.drop k') k' := by
    by_cases h1 : l.drop (k + skipN false (l.drop k)) = []
    · rw [toksR_end _ _ (by rw [e]; exact h1), toksR_end _ _ (by rw [e, ← hk]; exact h1), hk]
    · by_cases h2 : (tokN (l.drop (k + skipN false (l.drop k)))).1 = 0
      · rw [toksR_bad _ _ (by rw [e]; exact h1) (by rw [e]; exact h2), toksR_bad _ _ (by rw [e, ← hk]; exact h1) (by rw [e, ← hk]; exact h2), hk]
      · have e1 := toksR_tok (l.drop k) k (by rw [e]; exact h1) (by rw [e]; exact h2)
        have e2 := toksR_tok (l.drop k') k' (by rw [e, ← hk]; exact h1) (by rw [e, ← hk]; exact h2)
        rw [e] at e1 e2; rw [← hk] at e2; rw [e1, e2]
  unfold TokInv at h ⊢; rw [h, this]
theorem skipT_step (l : List UInt8) (k : Nat) (h : k < l.length) (hc : l[k].toNat ≠ 10) : skipN true (l.drop k) = skipN true (l.drop (k + 1)) + 1 := by
  rw [List.drop_eq_getElem_cons h]; simp only [skipN, if_neg hc]
theorem skipT_start (l : List UInt8) (k : Nat) (h : k < l.length) (hc : l[k].toNat = 35) : skipN false (l.drop k) = skipN true (l.drop k) := by
  rw [List.drop_eq_getElem_cons h]; simp [skipN, hc]
theorem skipT_end (l : List UInt8) (k : Nat) (hc : ∀ h : k < l.length, l[k].toNat = 10) : skipN true (l.drop k) = skipN false (l.drop k) := by
  by_cases h : k < l.length
  · rw [List.drop_eq_getElem_cons h]; simp [skipN, hc h]
  · rw [List.drop_eq_nil_of_le (by omega)]; rfl
theorem ext_mid (s : ByteArray) (a b : Nat) : (s.extract a b).data.toList = (s.data.toList.drop a).take (b - a) := by
  simp [ByteArray.data_extract, List.extract_eq_take_drop]
theorem ext_mid' (s : ByteArray) (a b : Nat) : s.extract a b = ⟨((s.data.toList.drop a).take (b - a)).toArray⟩ := by
  apply ByteArray.ext; apply Array.ext'; rw [ext_mid]
theorem cells_one (a c : Int) (b : ByteArray) : ∀ u ∈ [Value.int .i64 a, .string b, .int .i64 c], u.oneCell' = true := by
  intro u hu; simp at hu; rcases hu with rfl | rfl | rfl <;> rfl
theorem ref_cases (m : List UInt8) (n : Nat) (hm : 0 < m.length) (h : RefTok m n) :
    (signB (m.take n) = true ∧ wordB (m.take n) = false ∧ 0 < n ∧ allD (m.take n) = false ∧ tokN m = (3, n)) ∨
    (signB (m.take n) = false ∧ wordB (m.take n) = false ∧ 0 < n ∧ allD (m.take n) = true ∧ numB (m.take n) = true ∧ tokN m = (2, n)) ∨
    (signB (m.take n) = false ∧ wordB (m.take n) = false ∧ 0 < n ∧ allD (m.take n) = true ∧ numB (m.take n) = false ∧ (tokN m).1 = 0) ∨
    (signB (m.take n) = false ∧ wordB (m.take n) = true ∧ 0 < n ∧ allD (m.take n) = false ∧ tokN m = (1, n)) ∨
    (signB (m.take n) = false ∧ wordB (m.take n) = false ∧ 0 < n ∧ allD (m.take n) = false ∧ (tokN m).1 = 0) ∨
    (signB (m.take n) = false ∧ wordB (m.take n) = false ∧ n = 0 ∧ (tokN m).1 = 0) := by
  obtain ⟨hk, hn⟩ := ref_tok m n hm h
  have key : ∀ c : Int, c ≠ 0 → (tokN m).1 = c → tokN m = (c, n) := by
    intro c hc h1; have := hn (by rw [h1]; exact hc); exact Prod.ext h1 this.symm
  rcases Nat.eq_zero_or_pos n with h0 | h0
  · subst h0
    have a1 : signB (m.take 0) = false := by simp [signB, pairsB]
    have a2 : wordB (m.take 0) = false := by simp [wordB, longB]
    refine .inr (.inr (.inr (.inr (.inr ⟨a1, a2, rfl, ?_⟩))))
    rw [← hk]; unfold refKind; rw [a1, a2]; simp
  · have t0 := head_take m n h0
    have tl : 0 < (m.take n).length := by rw [take_len _ _ h.le]; exact h0
    have hp : decide (0 < n) = true := by simpa using h0
    unfold refKind at hk; rw [hp] at hk
    cases hs : signB (m.take n) with
    | true =>
      rw [hs] at hk; simp only [if_true] at hk
      have w : wordB (m.take n) = false := by
        cases hw : wordB (m.take n) with
        | false => rfl
        | true =>
          unfold wordB longB at hw; simp only [Bool.and_eq_true] at hw
          have := sign_letter _ hw.1.1.2; rw [hs] at this; cases this
      have d : allD (m.take n) = false := by
        cases hd : allD (m.take n) with
        | false => rfl
        | true => have := sign_digit _ (head_all digitB _ tl hd); rw [hs] at this; cases this
      exact .inl ⟨rfl, w, h0, d, key 3 (by decide) hk.symm⟩
    | false =>
      rw [hs] at hk; simp only [Bool.false_eq_true, if_false] at hk
      cases hd : allD (m.take n) with
      | true =>
        rw [hd] at hk
        have w : wordB (m.take n) = false := by
          cases hw : wordB (m.take n) with
          | false => rfl
          | true =>
            unfold wordB longB at hw; simp only [Bool.and_eq_true] at hw
            have := letter_digit _ hw.1.1.2; rw [head_all digitB _ tl hd] at this; cases this
        cases hnum : numB (m.take n) with
        | true => rw [hnum] at hk; exact .inr (.inl ⟨rfl, w, h0, rfl, rfl, key 2 (by decide) (by simpa using hk.symm)⟩)
        | false => rw [hnum, w] at hk; exact .inr (.inr (.inl ⟨rfl, w, h0, rfl, rfl, by simpa using hk.symm⟩))
      | false =>
        rw [hd] at hk
        cases hw : wordB (m.take n) with
        | true => rw [hw] at hk; exact .inr (.inr (.inr (.inl ⟨rfl, rfl, h0, rfl, key 1 (by decide) (by simpa using hk.symm)⟩)))
        | false => rw [hw] at hk; exact .inr (.inr (.inr (.inr (.inl ⟨rfl, rfl, h0, rfl, by simpa using hk.symm⟩))))
theorem long_of (m : List UInt8) (h : longB m = true) : signB m = false ∧ allD m = false := by
  unfold longB at h; simp only [Bool.and_eq_true, decide_eq_true_eq] at h
  refine ⟨sign_letter _ h.1.2, ?_⟩
  cases hd : allD m with
  | false => rfl
  | true => have := letter_digit _ h.1.2; rw [head_all digitB _ h.1.1 hd] at this; cases this
theorem match_of (m : List UInt8) (h : matchB m = true) (hs : signB m = false) (hd : allD m = false) : longB m = true := by
  unfold matchB at h; rw [hs, hd] at h; simpa using h
theorem match_not (m : List UInt8) (h : matchB m = false) : longB m = false ∧ allD m = false ∧ signB m = false := by
  unfold matchB at h; simp only [Bool.or_eq_false_iff] at h; exact ⟨h.1.1, h.1.2, h.2⟩
set_option maxHeartbeats 1000000 in
theorem refTokens_long (s : ByteArray) (w : World) (hs : s.size ≤ maxLen) (hl : 480 < s.size) :
    Calls Try.prog 11 #[.string s] w fun e w' => RefPost s.data.toList w e w' := by
  unfold maxLen at hs
  go_enter Try.func11, Try.ntmps11
  go_wp2
  go_ret3
  exact ref_long (by simpa using hl) (Below.refl _ _) rfl
set_option maxRecDepth 100000 in
set_option maxHeartbeats 10000000 in
theorem refTokens_short (s : ByteArray) (w : World) (hs : s.size ≤ 480) :
    Calls Try.prog 11 #[.string s] w fun e w' => RefPost s.data.toList w e w' := by
  have hl : Hid (s.data.toList.length = s.size) := Lib.hid (by simp)
  obtain ⟨i0, hi, hz0, hz1, hz2⟩ := info_parts infoTk
  go_enter Try.func11, Try.ntmps11
  go_wp2
  go_loopw [5, 6] (fun v i wr => ∃ (k : Nat) (ts : List Tk), k ≤ s.size ∧ ts.length ≤ k ∧ i = .int .i64 k ∧ wr.ownsRow w.heap.size 35 3 v ts.length (ts.flatMap Tk.cells) ∧ Below w.heap.size w wr ∧ TokInv s.data.toList k ts) (fun _ i _ => s.size - (intOf i).toNat)
  case atStart => exact ⟨0, [], Nat.zero_le _, Nat.le_refl _, rfl, World.ownsRow_nil _ _ _ _, Below.refl _ _, tokInv_start _⟩
  case round =>
    obtain ⟨k, ts, hk, htk, rfl, hown, hbel, HI⟩ := hrel
    have hbs := hbel.size
    by_cases hlt : k < s.size
    · have hlt' : k < s.data.toList.length := by rw [hl.out]; exact hlt
      by_cases hb : s[k].toNat = 32 ∨ s[k].toNat = 9 ∨ s[k].toNat = 10
      · have hd := Lib.hid (skipN_blank s.data.toList k hlt' hb)
        have HI2 := tokInv_move _ k (k + 1) ts HI (by have := hd.out; omega)
        rcases hb with hb | hb | hb
        all_goals
          go_wp2
          go_roundw
          case rel => exact ⟨k + 1, ts, by omega, by omega, by go_num, hown, hbel, HI2⟩
          case measure => simp [intOf]; omega
      · have hb1 : ((s[k].toNat : Int) == 32) = false := by (simp; omega)
        have hb2 : ((s[k].toNat : Int) == 9) = false := by (simp; omega)
        have hb3 : ((s[k].toNat : Int) == 10) = false := by (simp; omega)
        by_cases h5 : s[k].toNat = 35
        · have h5' : ((s[k].toNat : Int) == 35) = true := by (simp; omega)
          have hst := Lib.hid (skipT_start s.data.toList k hlt' h5)
          clear hb h5
          go_wp2
          obtain ⟨wo, hwo⟩ : ∃ wo : World, wo = wr := ⟨_, rfl⟩
          go_loop [6] (fun i => ∃ k2 : Nat, k ≤ k2 ∧ k2 ≤ s.size ∧ (k = k2 → k < s.size) ∧ i = .int .i64 k2 ∧ Hid (k + skipN false (s.data.toList.drop k) = k2 + skipN true (s.data.toList.drop k2))) (fun i => s.size - (intOf i).toNat)
          case atStart => exact ⟨k, Nat.le_refl _, hk, fun _ => hlt, rfl, Lib.hid (by rw [hst.out])⟩
          case round =>
            obtain ⟨k2, hk1, hk2, hk3, rfl, HK⟩ := hrel
            by_cases hlt2 : k2 < s.size
            · by_cases h10 : s[k2].toNat = 10
              · have h10' : ((s[k2].toNat : Int) != 10) = false := by (simp; omega)
                have HI2 := tokInv_move _ k k2 ts HI (by rw [HK.out, skipT_end]; intro h; exact h10)
                have hne : k ≠ k2 := by
                  rintro rfl; simp only [beq_iff_eq] at h5'; omega
                clear h10
                go_wp2
                go_roundw
                case rel => exact ⟨k2, ts, by omega, by omega, rfl, hown, hbel, HI2⟩
                case measure => simp [intOf]; omega
              · have h10' : ((s[k2].toNat : Int) != 10) = true := by (simp; omega)
                go_wp2
                go_round
                case rel => exact ⟨k2 + 1, by omega, by omega, by omega, by go_num, Lib.hid (by have h1 := HK.out; rw [skipT_step _ k2 (by rw [hl.out]; exact hlt2) h10] at h1; omega)⟩
                case measure => simp [intOf]; omega
            · have HI2 := tokInv_move _ k k2 ts HI (by rw [HK.out, skipT_end]; intro h; rw [hl.out] at h; exact absurd h hlt2)
              go_wp2
              go_roundw
              case rel => exact ⟨k2, ts, by omega, by omega, rfl, hown, hbel, HI2⟩
              case measure => simp [intOf]; omega
        · have hsk := Lib.hid (skipN_stop s.data.toList k hlt' hb h5)
          have h5' : ((s[k].toNat : Int) == 35) = false := by (simp; omega)
          clear hb h5
          have hml : 0 < (s.data.toList.drop k).length := by rw [List.length_drop, hl.out]; omega
          go_wp2
          obtain ⟨wo, hwo⟩ : ∃ wo : World, wo = wr := ⟨_, rfl⟩
          go_loop [7] (fun i => ∃ e : Nat, k ≤ e ∧ e ≤ s.size ∧ i = .int .i64 e ∧ Hid (∀ j, e - k < j → j ≤ s.size - k → matchB ((s.data.toList.drop k).take j) = false)) (fun i => (intOf i).toNat - k)
          case atStart => exact ⟨s.size, by omega, by omega, rfl, Lib.hid (by intro j h1 h2; omega)⟩
          case round =>
            obtain ⟨e, he1, he2, rfl, HN⟩ := hrel
            by_cases hex : e = k ∨ matchB ((s.data.toList.drop k).take (e - k)) = true
            · have hRT : RefTok (s.data.toList.drop k) (e - k) := ⟨by rw [List.length_drop, hl.out]; omega, fun j h1 h2 => HN.out j h1 (by rw [List.length_drop, hl.out] at h2; exact h2), by rcases hex with h | h; exact .inl (by omega); exact .inr h⟩
              rcases ref_cases _ _ hml hRT with ⟨c1, c2, c3, c4, c5⟩ | ⟨c1, c2, c3, c4, c6, c5⟩ | ⟨c1, c2, c3, c4, c6, c5⟩ | ⟨c1, c2, c3, c4, c5⟩ | ⟨c1, c2, c3, c4, c5⟩ | ⟨c1, c2, c3, c5⟩
              · have c7 : longB ((s.data.toList.drop k).take (e - k)) = false := by
                  cases hL : longB ((s.data.toList.drop k).take (e - k)) with
                  | false => rfl
                  | true => first | (rw [(long_of _ hL).1] at c1; cases c1; done) | (rw [(long_of _ hL).2] at c4; cases c4; done)
                have hgt : k < e := by omega
                have Hs := Lib.hid c1; have Hw := Lib.hid c2; have Hd := Lib.hid c4; have Hl := Lib.hid c7; have Ht := Lib.hid c5
                clear c1 c2 c4 c7 c5 hex
                go_wp2_with (first | (go_at_call 22; (with_reducible refine (long_any _ _ (by rw [ByteArray.size_extract]; unfold maxLen; omega)).mono ?_); rintro _ _ ⟨rfl, rfl⟩; simp only [ext_mid]; rw [Hl.out]) | (go_at_call 23; (with_reducible refine (all_dig _ _ (by rw [ByteArray.size_extract]; unfold maxLen; omega)).mono ?_); rintro _ _ ⟨rfl, rfl⟩; simp only [ext_mid]; rw [Hd.out]) | (go_at_call 24; (with_reducible refine (refSign_any _ _).mono ?_); rintro _ _ ⟨rfl, rfl⟩; simp only [ext_mid]; rw [Hs.out]) | (go_at_call 17; (with_reducible refine (refWord_any _ _ (by rw [ByteArray.size_extract]; unfold maxLen; omega)).mono ?_); rintro _ _ ⟨rfl, rfl⟩; simp only [ext_mid]; rw [Hw.out]) | (at_builtin; go_loud (refine wpList_append_own _ rfl _ _ 23 rfl w.heap.size 35 i0 zTk 3 32 Try.underlying23 hi hz0 hz1 hz2 rfl (by decide) _ ts.length (ts.flatMap Tk.cells) rfl ((hown.alloc _).alloc _) ⟨wr.heap.size + 1, 0, none⟩ 1 1 [.int .i64 3, .string (s.extract k e), .int .i64 k] rfl rfl (new_cells' _ _ _ _ (by simp)) (cells_one _ _ _) (by unfold maxLen; omega) (by omega) (by simp; omega) ?_); intro v' w1 hown1 hgr _))
                go_roundw
                case rel =>
                  refine ⟨e, ts ++ [⟨3, (s.data.toList.drop k).take (e - k), (k : Int)⟩], he2, by simp; omega, rfl, ?_, ?_, ?_⟩
                  · rw [List.flatMap_append, List.length_append]; simp only [ext_mid'] at hown1; simpa [Tk.cells] using hown1
                  · exact ((hbel.alloc hbs _).alloc (by simp; omega) _).grown hgr (by simp; omega) (fun b hb => (hown.lt b hb).1)
                  · have := tokInv_next _ k k (e - k) 3 ts HI (by have := hsk.out; omega) (List.length_pos_iff.1 hml) Ht.out (by decide)
                    rwa [show k + (e - k) = e from by omega] at this
                case measure => simp [intOf]; omega
              · have c7 : longB ((s.data.toList.drop k).take (e - k)) = false := by
                  cases hL : longB ((s.data.toList.drop k).take (e - k)) with
                  | false => rfl
                  | true => first | (rw [(long_of _ hL).1] at c1; cases c1; done) | (rw [(long_of _ hL).2] at c4; cases c4; done)
                have hgt : k < e := by omega
                have Hs := Lib.hid c1; have Hw := Lib.hid c2; have Hd := Lib.hid c4; have Hl := Lib.hid c7; have Ht := Lib.hid c5
                clear c1 c2 c4 c7 c5 hex
                have Hn := Lib.hid c6; clear c6
                go_wp2_with (first | (go_at_call 22; (with_reducible refine (long_any _ _ (by rw [ByteArray.size_extract]; unfold maxLen; omega)).mono ?_); rintro _ _ ⟨rfl, rfl⟩; simp only [ext_mid]; rw [Hl.out]) | (go_at_call 23; (with_reducible refine (all_dig _ _ (by rw [ByteArray.size_extract]; unfold maxLen; omega)).mono ?_); rintro _ _ ⟨rfl, rfl⟩; simp only [ext_mid]; rw [Hd.out]) | (go_at_call 24; (with_reducible refine (refSign_any _ _).mono ?_); rintro _ _ ⟨rfl, rfl⟩; simp only [ext_mid]; rw [Hs.out]) | (go_at_call 17; (with_reducible refine (refWord_any _ _ (by rw [ByteArray.size_extract]; unfold maxLen; omega)).mono ?_); rintro _ _ ⟨rfl, rfl⟩; simp only [ext_mid]; rw [Hw.out]) | (go_at_call 25; (with_reducible refine (refNumber_any _ _ (by rw [ByteArray.size_extract]; unfold maxLen; omega) (by rw [ByteArray.size_extract]; omega)).mono ?_); rintro _ _ ⟨rfl, rfl⟩; simp only [ext_mid]; rw [Hn.out]) | (at_builtin; go_loud (refine wpList_append_own _ rfl _ _ 23 rfl w.heap.size 35 i0 zTk 3 32 Try.underlying23 hi hz0 hz1 hz2 rfl (by decide) _ ts.length (ts.flatMap Tk.cells) rfl ((hown.alloc _).alloc _) ⟨wr.heap.size + 1, 0, none⟩ 1 1 [.int .i64 2, .string (s.extract k e), .int .i64 k] rfl rfl (new_cells' _ _ _ _ (by simp)) (cells_one _ _ _) (by unfold maxLen; omega) (by omega) (by simp; omega) ?_); intro v' w1 hown1 hgr _))
                go_roundw
                case rel =>
                  refine ⟨e, ts ++ [⟨2, (s.data.toList.drop k).take (e - k), (k : Int)⟩], he2, by simp; omega, rfl, ?_, ?_, ?_⟩
                  · rw [List.flatMap_append, List.length_append]; simp only [ext_mid'] at hown1; simpa [Tk.cells] using hown1
                  · exact ((hbel.alloc hbs _).alloc (by simp; omega) _).grown hgr (by simp; omega) (fun b hb => (hown.lt b hb).1)
                  · have := tokInv_next _ k k (e - k) 2 ts HI (by have := hsk.out; omega) (List.length_pos_iff.1 hml) Ht.out (by decide)
                    rwa [show k + (e - k) = e from by omega] at this
                case measure => simp [intOf]; omega
              · have c7 : longB ((s.data.toList.drop k).take (e - k)) = false := by
                  cases hL : longB ((s.data.toList.drop k).take (e - k)) with
                  | false => rfl
                  | true => first | (rw [(long_of _ hL).1] at c1; cases c1; done) | (rw [(long_of _ hL).2] at c4; cases c4; done)
                have hgt : k < e := by omega
                have Hs := Lib.hid c1; have Hw := Lib.hid c2; have Hd := Lib.hid c4; have Hl := Lib.hid c7; have Ht := Lib.hid c5
                clear c1 c2 c4 c7 c5 hex
                have Hn := Lib.hid c6; clear c6
                go_wp2_with (first | (go_at_call 22; (with_reducible refine (long_any _ _ (by rw [ByteArray.size_extract]; unfold maxLen; omega)).mono ?_); rintro _ _ ⟨rfl, rfl⟩; simp only [ext_mid]; rw [Hl.out]) | (go_at_call 23; (with_reducible refine (all_dig _ _ (by rw [ByteArray.size_extract]; unfold maxLen; omega)).mono ?_); rintro _ _ ⟨rfl, rfl⟩; simp only [ext_mid]; rw [Hd.out]) | (go_at_call 24; (with_reducible refine (refSign_any _ _).mono ?_); rintro _ _ ⟨rfl, rfl⟩; simp only [ext_mid]; rw [Hs.out]) | (go_at_call 17; (with_reducible refine (refWord_any _ _ (by rw [ByteArray.size_extract]; unfold maxLen; omega)).mono ?_); rintro _ _ ⟨rfl, rfl⟩; simp only [ext_mid]; rw [Hw.out]) | (go_at_call 25; (with_reducible refine (refNumber_any _ _ (by rw [ByteArray.size_extract]; unfold maxLen; omega) (by rw [ByteArray.size_extract]; omega)).mono ?_); rintro _ _ ⟨rfl, rfl⟩; simp only [ext_mid]; rw [Hn.out]))
                go_ret3
                have hHI : toksR s.data.toList 0 = .error k := by
                  have h1 := toksR_bad (s.data.toList.drop k) k (by rw [hsk.out]; exact List.length_pos_iff.1 hml) (by rw [hsk.out]; exact Ht.out)
                  unfold TokInv at HI; rw [HI, h1, hsk.out]; rfl
                exact ref_bad (by rw [hl.out]; exact hs) hHI (hbel.alloc hbs _) rfl
              · have c7 : longB ((s.data.toList.drop k).take (e - k)) = true := match_of _ (by rcases hex with h | h; omega; exact h) c1 c4
                have hgt : k < e := by omega
                have Hs := Lib.hid c1; have Hw := Lib.hid c2; have Hd := Lib.hid c4; have Hl := Lib.hid c7; have Ht := Lib.hid c5
                clear c1 c2 c4 c7 c5 hex
                go_wp2_with (first | (go_at_call 22; (with_reducible refine (long_any _ _ (by rw [ByteArray.size_extract]; unfold maxLen; omega)).mono ?_); rintro _ _ ⟨rfl, rfl⟩; simp only [ext_mid]; rw [Hl.out]) | (go_at_call 23; (with_reducible refine (all_dig _ _ (by rw [ByteArray.size_extract]; unfold maxLen; omega)).mono ?_); rintro _ _ ⟨rfl, rfl⟩; simp only [ext_mid]; rw [Hd.out]) | (go_at_call 24; (with_reducible refine (refSign_any _ _).mono ?_); rintro _ _ ⟨rfl, rfl⟩; simp only [ext_mid]; rw [Hs.out]) | (go_at_call 17; (with_reducible refine (refWord_any _ _ (by rw [ByteArray.size_extract]; unfold maxLen; omega)).mono ?_); rintro _ _ ⟨rfl, rfl⟩; simp only [ext_mid]; rw [Hw.out]) | (at_builtin; go_loud (refine wpList_append_own _ rfl _ _ 23 rfl w.heap.size 35 i0 zTk 3 32 Try.underlying23 hi hz0 hz1 hz2 rfl (by decide) _ ts.length (ts.flatMap Tk.cells) rfl ((hown.alloc _).alloc _) ⟨wr.heap.size + 1, 0, none⟩ 1 1 [.int .i64 1, .string (s.extract k e), .int .i64 k] rfl rfl (new_cells' _ _ _ _ (by simp)) (cells_one _ _ _) (by unfold maxLen; omega) (by omega) (by simp; omega) ?_); intro v' w1 hown1 hgr _))
                go_roundw
                case rel =>
                  refine ⟨e, ts ++ [⟨1, (s.data.toList.drop k).take (e - k), (k : Int)⟩], he2, by simp; omega, rfl, ?_, ?_, ?_⟩
                  · rw [List.flatMap_append, List.length_append]; simp only [ext_mid'] at hown1; simpa [Tk.cells] using hown1
                  · exact ((hbel.alloc hbs _).alloc (by simp; omega) _).grown hgr (by simp; omega) (fun b hb => (hown.lt b hb).1)
                  · have := tokInv_next _ k k (e - k) 1 ts HI (by have := hsk.out; omega) (List.length_pos_iff.1 hml) Ht.out (by decide)
                    rwa [show k + (e - k) = e from by omega] at this
                case measure => simp [intOf]; omega
              · have c7 : longB ((s.data.toList.drop k).take (e - k)) = true := match_of _ (by rcases hex with h | h; omega; exact h) c1 c4
                have hgt : k < e := by omega
                have Hs := Lib.hid c1; have Hw := Lib.hid c2; have Hd := Lib.hid c4; have Hl := Lib.hid c7; have Ht := Lib.hid c5
                clear c1 c2 c4 c7 c5 hex
                go_wp2_with (first | (go_at_call 22; (with_reducible refine (long_any _ _ (by rw [ByteArray.size_extract]; unfold maxLen; omega)).mono ?_); rintro _ _ ⟨rfl, rfl⟩; simp only [ext_mid]; rw [Hl.out]) | (go_at_call 23; (with_reducible refine (all_dig _ _ (by rw [ByteArray.size_extract]; unfold maxLen; omega)).mono ?_); rintro _ _ ⟨rfl, rfl⟩; simp only [ext_mid]; rw [Hd.out]) | (go_at_call 24; (with_reducible refine (refSign_any _ _).mono ?_); rintro _ _ ⟨rfl, rfl⟩; simp only [ext_mid]; rw [Hs.out]) | (go_at_call 17; (with_reducible refine (refWord_any _ _ (by rw [ByteArray.size_extract]; unfold maxLen; omega)).mono ?_); rintro _ _ ⟨rfl, rfl⟩; simp only [ext_mid]; rw [Hw.out]))
                go_ret3
                have hHI : toksR s.data.toList 0 = .error k := by
                  have h1 := toksR_bad (s.data.toList.drop k) k (by rw [hsk.out]; exact List.length_pos_iff.1 hml) (by rw [hsk.out]; exact Ht.out)
                  unfold TokInv at HI; rw [HI, h1, hsk.out]; rfl
                exact ref_bad (by rw [hl.out]; exact hs) hHI (hbel.alloc hbs _) rfl
              · obtain rfl : k = e := by omega
                have Hs := Lib.hid c1; have Hw := Lib.hid c2; have Ht := Lib.hid c5
                clear c1 c2 c3 c5 hex
                go_wp2_with (first | (go_at_call 17; go_loud ((with_reducible refine (refWord_any _ _ (by first | decide | simp [maxLen])).mono ?_); rintro _ _ ⟨rfl, rfl⟩; rw [show wordB ByteArray.empty.data.toList = false from rfl])) | (go_at_call 24; go_loud ((with_reducible refine (refSign_any _ _).mono ?_); rintro _ _ ⟨rfl, rfl⟩; rw [show signB ByteArray.empty.data.toList = false from rfl])))
                go_ret3
                have hHI : toksR s.data.toList 0 = .error k := by
                  have h1 := toksR_bad (s.data.toList.drop k) k (by rw [hsk.out]; exact List.length_pos_iff.1 hml) (by rw [hsk.out]; exact Ht.out)
                  unfold TokInv at HI; rw [HI, h1, hsk.out]; rfl
                exact ref_bad (by rw [hl.out]; exact hs) hHI (hbel.alloc hbs _) rfl
            · have hne : e ≠ k := fun h => hex (.inl h)
              have hgt : k < e := by omega
              obtain ⟨c7, c4, c1⟩ := match_not _ (by cases hM : matchB ((s.data.toList.drop k).take (e - k)); rfl; exact absurd (.inr hM) hex)
              have HN2 : Hid (∀ j, e - 1 - k < j → j ≤ s.size - k → matchB ((s.data.toList.drop k).take j) = false) := Lib.hid (by
                intro j h1 h2
                rcases Nat.lt_or_ge (e - k) j with h3 | h3
                · exact HN.out j h3 h2
                · obtain rfl : j = e - k := by omega
                  unfold matchB; rw [c7, c4, c1]; rfl)
              have Hs := Lib.hid c1; have Hd := Lib.hid c4; have Hl := Lib.hid c7
              clear c1 c4 c7 hex
              go_wp2_with (first | (go_at_call 22; (with_reducible refine (long_any _ _ (by rw [ByteArray.size_extract]; unfold maxLen; omega)).mono ?_); rintro _ _ ⟨rfl, rfl⟩; simp only [ext_mid]; rw [Hl.out]) | (go_at_call 23; (with_reducible refine (all_dig _ _ (by rw [ByteArray.size_extract]; unfold maxLen; omega)).mono ?_); rintro _ _ ⟨rfl, rfl⟩; simp only [ext_mid]; rw [Hd.out]) | (go_at_call 24; (with_reducible refine (refSign_any _ _).mono ?_); rintro _ _ ⟨rfl, rfl⟩; simp only [ext_mid]; rw [Hs.out]))
              go_round
              case rel => exact ⟨e - 1, by omega, by omega, by go_num, HN2⟩
              case measure => simp [intOf]; omega
    · obtain rfl : k = s.size := by omega
      have hHI : Hid (toksR s.data.toList 0 = .ok (ts ++ [⟨4, [], (s.size : Int)⟩])) := Lib.hid (by
        have h0 : s.data.toList.drop s.size = [] := List.drop_eq_nil_of_le (by rw [hl.out]; omega)
        unfold TokInv at HI; rw [h0] at HI; rw [HI, toksR_end [] s.size rfl]; rfl)
      go_wp2_with (at_builtin; go_loud (refine wpList_append_own _ rfl _ _ 23 rfl w.heap.size 35 i0 zTk 3 32 Try.underlying23 hi hz0 hz1 hz2 rfl (by decide) _ ts.length (ts.flatMap Tk.cells) rfl (hown.alloc _) ⟨wr.heap.size, 0, none⟩ 1 1 [.int .i64 4, .string ⟨#[]⟩, .int .i64 s.size] rfl rfl (new_cells' _ _ _ _ (by simp)) (cells_one _ _ _) (by unfold maxLen; omega) (by omega) (by simp; omega) ?_); intro v' w1 hown1 hgr _)
      go_ret3
      refine ref_ok (by rw [hl.out]; exact hs) hHI.out ((hbel.alloc hbs _).grown hgr (by simp; omega) (fun b hb => (hown.lt b hb).1)) ?_ rfl
      rw [List.flatMap_append, List.length_append]; simpa [Tk.cells] using hown1
end Go.Proofs.Ytfcgegglipmdlaa
