import Derived.Test.YtfcgegglipmdlaaScanI
namespace Go.Proofs.Ytfcgegglipmdlaa
open Go.RowKit
def gapF : Bool → List UInt8 → Bool
  | _, [] => true
  | r, c :: l => if c.toNat = 10 then gapF false l else if c.toNat = 35 then gapF true l else if r = false ∧ c.toNat ≠ 32 ∧ c.toNat ≠ 9 then false else gapF r l
theorem gap_skip (b : Bool) (l : List UInt8) : gapF b (l.take (skipN b l)) = true := by
  induction l generalizing b with
  | nil => simp [gapF]
  | cons c l ih =>
    have h1 := ih true; have h2 := ih false
    cases b
    · by_cases a : c.toNat = 32 ∨ c.toNat = 9 ∨ c.toNat = 10
      · rw [show skipN false (c :: l) = skipN false l + 1 from by simp only [skipN, if_pos a], List.take_succ_cons]
        by_cases a1 : c.toNat = 10
        · simp only [gapF, if_pos a1]; exact h2
        · have a2 : ¬ c.toNat = 35 := by omega
          simp only [gapF, if_neg a1, if_neg a2]; rw [if_neg (by omega)]; exact h2
      · by_cases a2 : c.toNat = 35
        · rw [show skipN false (c :: l) = skipN true l + 1 from by simp only [skipN, if_neg a, if_pos a2], List.take_succ_cons]
          have a1 : ¬ c.toNat = 10 := by omega
          simp only [gapF, if_neg a1, if_pos a2]; exact h1
        · rw [show skipN false (c :: l) = 0 from by simp only [skipN, if_neg a, if_neg a2]]; rfl
    · by_cases a1 : c.toNat = 10
      · rw [show skipN true (c :: l) = skipN false l + 1 from by simp only [skipN, if_pos a1], List.take_succ_cons]
        simp only [gapF, if_pos a1]; exact h2
      · rw [show skipN true (c :: l) = skipN true l + 1 from by simp only [skipN, if_neg a1], List.take_succ_cons]
        by_cases a2 : c.toNat = 35
        · simp only [gapF, if_neg a1, if_pos a2]; exact h1
        · simp only [gapF, if_neg a1, if_neg a2]; rw [if_neg (by simp)]; exact h1
/-- tokens that stand in the text at their places, from a place on, up to its end -/
def PL (S : List UInt8) : Nat → List Tk → Prop
  | _, [] => False
  | k, t :: ts => ∃ p : Nat, t.pos = p ∧ k ≤ p ∧ p + t.text.length ≤ S.length ∧ (S.drop p).take t.text.length = t.text ∧ gapF false ((S.drop k).take (p - k)) = true ∧
      ((ts = [] ∧ t.kind = 4 ∧ t.text = [] ∧ p = S.length) ∨ (ts ≠ [] ∧ t.kind ≠ 4 ∧ t.text ≠ [] ∧ PL S (p + t.text.length) ts))
theorem tokN_kind (l : List UInt8) : (tokN l).1 ≠ 4 := by
  unfold tokN; (repeat' split) <;> simp
theorem pl_toks (S : List UInt8) (f k : Nat) (ts : List Tk) (hk : k ≤ S.length) (h : toksF f (S.drop k) k = .ok ts) : PL S k ts := by
  induction f generalizing k ts with
  | zero => simp [toksF] at h
  | succ f ih =>
    simp only [toksF] at h
    have hs := skipN_le false (S.drop k)
    rw [List.length_drop] at hs
    have hg := gap_skip false (S.drop k)
    by_cases h1 : (S.drop k).drop (skipN false (S.drop k)) = []
    · rw [if_pos h1] at h; cases h
      have e : k + skipN false (S.drop k) = S.length := by
        rw [List.drop_drop] at h1; have := congrArg List.length h1; simp at this; omega
      exact ⟨k + skipN false (S.drop k), rfl, by omega, by simp; omega, by simp, by rw [Nat.add_sub_cancel_left]; exact hg, .inl ⟨rfl, rfl, rfl, e⟩⟩
    · rw [if_neg h1] at h
      by_cases h2 : (tokN ((S.drop k).drop (skipN false (S.drop k)))).1 = 0
      · rw [if_pos h2] at h; cases h
      · rw [if_neg h2] at h
        have hl := tokN_len _ (List.length_pos_iff.2 h1) h2
        have hk4 := tokN_kind ((S.drop k).drop (skipN false (S.drop k)))
        rw [List.drop_drop] at h hl hk4
        generalize tokN (S.drop (k + skipN false (S.drop k))) = T at h hl hk4
        rw [List.drop_drop] at h
        cases hr : toksF f (S.drop (k + skipN false (S.drop k) + T.2)) (k + skipN false (S.drop k) + T.2) with
        | error e => rw [hr] at h; cases h
        | ok us =>
          rw [hr] at h; cases h
          rw [List.length_drop] at hl
          have hrec := ih _ us (by omega) hr
          have tl : ((S.drop (k + skipN false (S.drop k))).take T.2).length = T.2 := by simp; omega
          refine ⟨k + skipN false (S.drop k), rfl, by omega, by rw [tl]; omega, by rw [tl], by rw [Nat.add_sub_cancel_left]; exact hg, .inr ⟨?_, hk4, ?_, by rw [tl]; exact hrec⟩⟩
          · rintro rfl; exact hrec
          · intro h0; have h3 : ((S.drop (k + skipN false (S.drop k))).take T.2).length = 0 := congrArg List.length h0; rw [tl] at h3; omega
theorem pl_all (S : List UInt8) (ts : List Tk) (h : toksT S = .ok ts) : PL S 0 ts := by
  unfold toksT at h
  split at h
  · cases h
  · cases hr : toksR S 0 with
    | error e => rw [hr] at h; cases h
    | ok us => rw [hr] at h; cases h; exact pl_toks S _ 0 _ (Nat.zero_le _) (by rw [List.drop_zero]; exact hr)
theorem toksF_err (S : List UInt8) (f k e : Nat) (hf : (S.drop k).length < f) (hk : k ≤ S.length) (h : toksF f (S.drop k) k = .error e) : e < S.length := by
  induction f generalizing k with
  | zero => omega
  | succ f ih =>
    simp only [toksF] at h
    by_cases h1 : (S.drop k).drop (skipN false (S.drop k)) = []
    · rw [if_pos h1] at h; cases h
    · rw [if_neg h1] at h
      have hp := List.length_pos_iff.2 h1
      have hp2 := hp
      rw [List.drop_drop, List.length_drop] at hp2
      by_cases h2 : (tokN ((S.drop k).drop (skipN false (S.drop k)))).1 = 0
      · rw [if_pos h2] at h; cases h; omega
      · rw [if_neg h2] at h
        have hl := tokN_len _ hp h2
        rw [List.drop_drop] at h hl
        generalize tokN (S.drop (k + skipN false (S.drop k))) = T at h hl
        rw [List.length_drop] at hl
        rw [List.drop_drop] at h
        cases hr : toksF f (S.drop (k + skipN false (S.drop k) + T.2)) (k + skipN false (S.drop k) + T.2) with
        | ok us => rw [hr] at h; cases h
        | error e' =>
          rw [hr] at h; cases h
          exact ih _ (by simp at hf ⊢; omega) (by omega) hr
theorem toksT_err (S : List UInt8) (c : Int) (k : Nat) (h : toksT S = .error (c, k)) : (c = 2 ∧ k = 0 ∧ 480 < S.length) ∨ (c = 7 ∧ k < S.length ∧ ¬ 480 < S.length) := by
  unfold toksT at h
  split at h
  · rename_i hl; cases h; exact .inl ⟨rfl, rfl, hl⟩
  · rename_i hl
    cases hr : toksR S 0 with
    | ok us => rw [hr] at h; cases h
    | error e => rw [hr] at h; cases h; exact .inr ⟨rfl, toksF_err S (S.length + 1) 0 k (by simp) (Nat.zero_le _) (by rw [List.drop_zero]; exact hr), hl⟩
set_option maxHeartbeats 1000000 in
theorem gap_any (s : ByteArray) (w : World) (hs : s.size ≤ maxLen) :
    Calls Try.prog 14 #[.string s] w fun e w' => e = .returned (.bool (gapF false s.data.toList)) ∧ w = w' := by
  unfold maxLen at hs
  have hl : Hid (s.data.toList.length = s.size) := Lib.hid (by simp)
  go_enter Try.func14, Try.ntmps14
  go_wp2
  go_loop [3, 4] (fun r n => ∃ (b : Bool) (k : Nat), k ≤ s.size ∧ r = .bool b ∧ n = .int .i64 k ∧ Hid (gapF false s.data.toList = gapF b (s.data.toList.drop k))) (fun _ n => s.size - (intOf n).toNat)
  case atStart => exact ⟨false, 0, Nat.zero_le _, rfl, rfl, Lib.hid (by simp)⟩
  case round =>
    obtain ⟨b, k, hk, rfl, rfl, HK⟩ := hrel
    by_cases hlt : k < s.size
    · have hd : Hid (gapF b (s.data.toList.drop k) = if s[k].toNat = 10 then gapF false (s.data.toList.drop (k + 1)) else if s[k].toNat = 35 then gapF true (s.data.toList.drop (k + 1)) else if b = false ∧ s[k].toNat ≠ 32 ∧ s[k].toNat ≠ 9 then false else gapF b (s.data.toList.drop (k + 1))) := by
        have h1 : k < s.data.toList.length := by rw [hl.out]; exact hlt
        have h2 : s.data.toList[k] = s[k] := rfl
        rw [List.drop_eq_getElem_cons h1, h2]; rfl
      by_cases a1 : s[k].toNat = 10
      · have b1 : ((s[k].toNat : Int) == 10) = true := by (simp; omega)
        have HK2 : Hid (gapF false s.data.toList = gapF false (s.data.toList.drop (k + 1))) := Lib.hid (by rw [HK.out, hd.out, if_pos a1])
        clear a1
        go_wp2
        go_round
        case rel => exact ⟨false, k + 1, by omega, rfl, by go_num, HK2⟩
        case measure => simp [intOf]; omega
      · have b1 : ((s[k].toNat : Int) == 10) = false := by (simp; omega)
        by_cases a2 : s[k].toNat = 35
        · have b2 : ((s[k].toNat : Int) == 35) = true := by (simp; omega)
          have HK2 : Hid (gapF false s.data.toList = gapF true (s.data.toList.drop (k + 1))) := Lib.hid (by rw [HK.out, hd.out, if_neg a1, if_pos a2])
          clear a1 a2
          go_wp2
          go_round
          case rel => exact ⟨true, k + 1, by omega, rfl, by go_num, HK2⟩
          case measure => simp [intOf]; omega
        · have b2 : ((s[k].toNat : Int) == 35) = false := by (simp; omega)
          by_cases a3 : b = false ∧ s[k].toNat ≠ 32 ∧ s[k].toNat ≠ 9
          · have b3 : ((s[k].toNat : Int) != 32) = true := by (simp; omega)
            have b4 : ((s[k].toNat : Int) != 9) = true := by (simp; omega)
            have HK2 : Hid (gapF false s.data.toList = false) := Lib.hid (by rw [HK.out, hd.out, if_neg a1, if_neg a2, if_pos a3])
            obtain ⟨rfl, _, _⟩ := a3
            clear a1 a2
            go_wp2
            go_ret
            exact ⟨ret_bool (by rw [HK2.out]), rfl⟩
          · have HK2 : Hid (gapF false s.data.toList = gapF b (s.data.toList.drop (k + 1))) := Lib.hid (by rw [HK.out, hd.out, if_neg a1, if_neg a2, if_neg a3])
            have a4 : b = true ∨ s[k].toNat = 32 ∨ (s[k].toNat ≠ 32 ∧ s[k].toNat = 9) := by
              cases b
              · simp at a3; omega
              · exact .inl rfl
            clear a1 a2 a3
            rcases a4 with rfl | a4 | ⟨a5, a4⟩
            · go_wp2
              go_round
              case rel => exact ⟨true, k + 1, by omega, rfl, by go_num, HK2⟩
              case measure => simp [intOf]; omega
            · have b3 : ((s[k].toNat : Int) != 32) = false := by (simp; omega)
              clear a4
              cases b
              all_goals
                go_wp2
                go_round
                case rel => exact ⟨_, k + 1, by omega, rfl, by go_num, HK2⟩
                case measure => simp [intOf]; omega
            · have b3 : ((s[k].toNat : Int) != 32) = true := by (simp; omega)
              have b4 : ((s[k].toNat : Int) != 9) = false := by (simp; omega)
              clear a4 a5
              cases b
              all_goals
                go_wp2
                go_round
                case rel => exact ⟨_, k + 1, by omega, rfl, by go_num, HK2⟩
                case measure => simp [intOf]; omega
    · go_wp2
      go_ret
      exact ⟨ret_bool (by rw [HK.out, List.drop_eq_nil_of_le (by rw [hl.out]; omega)]; rfl), rfl⟩
theorem ext_between (s : ByteArray) (a b : Nat) : (s.extract a b).toList = (s.data.toList.drop a).take (b - a) := by rw [ByteArray.toList_eq, ext_mid]
set_option maxRecDepth 100000 in
set_option maxHeartbeats 4000000 in
theorem scanPlaces_ok (s : ByteArray) (ts : List Tk) (w : World) (hs : s.size ≤ 140737488351232) (ht : toksT s.data.toList = .ok ts) :
    Calls Try.prog 4 #[.string s] w fun e w' => e = .returned (.bool true) ∧ Below w.heap.size w w' := by
  have hm : s.size ≤ maxLen := by unfold maxLen; omega
  have hl : Hid (s.data.toList.length = s.size) := Lib.hid (by simp)
  have hpl := pl_all _ _ ht
  have Ht := Lib.hid ht; clear ht
  go_enter Try.func4, Try.ntmps4
  go_wp2_with fail
  refine (alive_any _).mono ?_
  rintro _ w1 ⟨rfl, hB1⟩
  have hz1 := hB1.size
  go_wp2_with fail
  refine (tokens_ok _ ts _ Ht.out hm).mono ?_
  rintro _ w2 ⟨sv, rfl, hB2, hown2⟩
  have hz2 := hB2.size
  have hr2 := tkRow_of_owns hown2
  clear hown2
  have hB : Below w.heap.size w w2 := hB1.trans (hB2.mono hz1)
  clear hB1 hB2 hz1
  rcases hr2 with ⟨rfl, rfl⟩ | ⟨g, cap, rfl, hc, hcm, hcell⟩
  · exact absurd hpl (by simp [PL])
  unfold maxLen at hcm
  have hgl : g < w2.heap.size := by
    have h0 : 0 < ts.length := by cases ts; exact absurd hpl (by simp [PL]); simp
    exact World.block_lt_of_cell? w2 _ (hcell 0 h0).1
  have Hcell := Lib.hid hcell; clear hcell
  go_wp2
  go_loopw [7, 56] (fun a i wr => ∃ (k j : Nat), j ≤ ts.length ∧ k ≤ s.size ∧ a = .int .i64 k ∧ i = .int .i64 j ∧ Below w2.heap.size w2 wr ∧ ((j = ts.length ∧ k = s.size) ∨ (j < ts.length ∧ Hid (PL s.data.toList k (ts.drop j))))) (fun _ i _ => ts.length - (intOf i).toNat)
  case atStart =>
    have h0 : 0 < ts.length := by cases ts; exact absurd hpl (by simp [PL]); simp
    exact ⟨0, 0, Nat.zero_le _, Nat.zero_le _, rfl, rfl, Below.refl _ _, .inr ⟨h0, by simpa using Lib.hid hpl⟩⟩
  case round =>
    obtain ⟨k, j, hj, hk, rfl, rfl, hBr, hor⟩ := hrel
    rcases hor with ⟨hj1, rfl⟩ | ⟨hj1, HP⟩
    · go_wp2
      go_ret
      exact ⟨rfl, hB.trans (hBr.mono (by have := hB.size; omega))⟩
    · obtain ⟨c1, c2, c3⟩ := Hcell.out j hj1
      have d1 := cell_below c1 hBr
      have d2 := cell_below c2 hBr
      have d3 := cell_below c3 hBr
      clear c1 c2 c3
      have hP := HP.out
      rw [List.drop_eq_getElem_cons hj1] at hP
      generalize htj : ts[j] = t at d1 d2 d3 hP
      clear htj
      obtain ⟨c, x, q⟩ := t
      obtain ⟨p, hp1, hp2, hp3, hp4, hp5, hp6⟩ := hP
      simp only at hp1 hp3 hp4 hp5 hp6 d1 d2 d3
      subst hp1
      rw [hl.out] at hp3 hp6
      have hx1 : x.length ≤ s.size - p := by omega
      have hx : Hid ((s.data.toList.drop p).take x.length = x) := Lib.hid hp4
      have hg : Hid (gapF false ((s.data.toList.drop k).take (p - k)) = true) := Lib.hid hp5
      clear hp4 hp5 HP
      rcases hp6 with ⟨h1, rfl, rfl, rfl⟩ | ⟨h1, h2, h3, h4⟩
      · have hj2 : j + 1 = ts.length := by
          have := congrArg List.length h1; simp at this; omega
        have hj3 : ((j : Int) == ts.length - 1) = true := by (simp; omega)
        clear h1
        have hd1 : decide ((s.size : Int) < (k : Int)) = false := by (simp; omega)
        go_wp2
        have hw1 : IntKind.i64.wrap (s.size : Int) = s.size := IntWalk.i64_in _ (by omega)
        have hw2 : IntKind.i64.wrap ((ts.length : Int) - 1) = ts.length - 1 := IntWalk.i64_in _ (by omega)
        have hw3 : IntKind.i64.wrap 0 = 0 := by decide
        have hd2 : decide (s.size < k) = false := by (simp; omega)
        go_quiet (fail)
        go_wp2_with (go_at_call 14; (with_reducible refine (gap_any _ _ (by rw [ByteArray.size_extract]; unfold maxLen; omega)).mono ?_); rintro _ _ ⟨rfl, rfl⟩; simp only [ext_mid]; rw [hg.out])
        go_roundw
        case rel => exact ⟨s.size, j + 1, by omega, by omega, rfl, by go_num, below_drewN _ (hBr.alloc hBr.size _), .inl ⟨hj2, rfl⟩⟩
        case measure => simp [intOf]; omega
      · have hj2 : j + 1 < ts.length := by
          rcases Nat.lt_or_ge (j + 1) ts.length with h | h
          · exact h
          · exact absurd (List.drop_eq_nil_of_le h) h1
        have hj3 : ((j : Int) == ts.length - 1) = false := by (simp; omega)
        have HP2 := Lib.hid h4
        have hx0 : 0 < x.length := List.length_pos_iff.2 h3
        have hx2 : x.isEmpty = false := by cases x <;> simp_all
        have hx3 : (x == []) = false := by cases x <;> simp_all
        have hc4 : (c == 4) = false := by simpa using h2
        have hx4 : (s.extract p (p + x.length)).toList = x := by rw [ext_between, Nat.add_sub_cancel_left]; exact hx.out
        clear h1 h2 h3 h4
        have hd1 : decide ((p : Int) < (k : Int)) = false := by (simp; omega)
        have hd2 : decide (p < k) = false := by (simp; omega)
        have hd3 : decide ((s.size : Int) < p) = false := by (simp; omega)
        have hd4 : decide (s.size < p) = false := by (simp; omega)
        have hd5 : decide ((s.size : Int) - p < x.length) = false := by (simp; omega)
        have hw1 : IntKind.i64.wrap ((s.size : Int) - p) = s.size - p := IntWalk.i64_in _ (by omega)
        have hw2 : IntKind.i64.wrap ((ts.length : Int) - 1) = ts.length - 1 := IntWalk.i64_in _ (by omega)
        have hw3 : IntKind.i64.wrap ((p : Int) + x.length) = p + x.length := IntWalk.i64_in _ (by omega)
        go_wp2
        go_quiet (fail)
        go_wp2_with (go_at_call 14; (with_reducible refine (gap_any _ _ (by rw [ByteArray.size_extract]; unfold maxLen; omega)).mono ?_); rintro _ _ ⟨rfl, rfl⟩; simp only [ext_mid]; rw [hg.out])
        go_roundw
        case rel => exact ⟨p + x.length, j + 1, by omega, by omega, by go_num, by go_num, below_drewN _ (hBr.alloc hBr.size _), .inr ⟨hj2, HP2⟩⟩
        case measure => simp [intOf]; omega
set_option maxHeartbeats 4000000 in
theorem scanPlaces_err (s : ByteArray) (c : Int) (k : Nat) (w : World) (hs : s.size ≤ 140737488351232) (ht : toksT s.data.toList = .error (c, k)) :
    Calls Try.prog 4 #[.string s] w fun e w' => e = .returned (.bool true) ∧ Below w.heap.size w w' := by
  have hm : s.size ≤ maxLen := by unfold maxLen; omega
  have hl : Hid (s.data.toList.length = s.size) := Lib.hid (by simp)
  have he := toksT_err _ c k ht
  rw [hl.out] at he
  have Ht := Lib.hid ht; clear ht
  have he2 : (c = 2 ∧ k = 0 ∧ decide (480 < (s.size : Int)) = true) ∨ (c = 7 ∧ k < s.size) := by
    rcases he with ⟨a, b, d⟩ | ⟨a, b, d⟩
    · exact .inl ⟨a, b, by simp; omega⟩
    · exact .inr ⟨a, b⟩
  clear he
  rcases he2 with ⟨rfl, rfl, hd⟩ | ⟨rfl, hk⟩
  all_goals
    go_enter Try.func4, Try.ntmps4
    go_wp2_with fail
    refine (alive_any _).mono ?_
    rintro _ w1 ⟨rfl, hB1⟩
    have hz1 := hB1.size
    go_wp2_with fail
    refine (tokens_err _ _ _ _ Ht.out hm).mono ?_
    rintro _ w2 ⟨b, rfl, hB2, hb, hf⟩
    have hz2 := hB2.size
    have Hf := Lib.hid hf; clear hf
    go_wp2_with fail
    refine (fault_some b _ _ _ Hf.out).mono ?_
    rintro _ w4 ⟨rfl, n, rfl⟩
    go_wp2
    go_ret
    exact ⟨rfl, below_drewN _ (hB1.trans (hB2.mono hz1))⟩
theorem scanPlaces_walk (s : ByteArray) (w : World) (hs : s.size ≤ 140737488351232) :
    Calls Try.prog 4 #[.string s] w fun e w' => e = .returned (.bool true) ∧ Below w.heap.size w w' := by
  cases ht : toksT s.data.toList with
  | ok ts => exact scanPlaces_ok s ts w hs ht
  | error e => exact scanPlaces_err s e.1 e.2 w hs ht
end Go.Proofs.Ytfcgegglipmdlaa
