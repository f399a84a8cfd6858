import Derived.Test.YtfcgegglipmdlaaScanC
namespace Go.Proofs.Ytfcgegglipmdlaa
open Go.RowKit
def hasB (set : List UInt8) (c : Int) : Bool := set.any fun x => (x.toNat : Int) == c
def lettersL : List UInt8 := [97, 98, 99, 100, 101, 102, 103, 104, 105, 106, 107, 108, 109, 110, 111, 112, 113, 114, 115, 116, 117, 118, 119, 120, 121, 122, 65, 66, 67, 68, 69, 70, 71, 72, 73, 74, 75, 76, 77, 78, 79, 80, 81, 82, 83, 84, 85, 86, 87, 88, 89, 90]
def digitsL : List UInt8 := [48, 49, 50, 51, 52, 53, 54, 55, 56, 57]
def singlesL : List UInt8 := [40, 41, 123, 125, 91, 93, 44, 59, 43, 45, 42, 47, 37, 33, 60, 62, 61]
theorem has_letters : ∀ c : UInt8, hasB lettersL c.toNat = letterB c.toNat := by
  have h : ∀ n : Fin 256, hasB lettersL ((n.val : Nat) : Int) = letterB ((n.val : Nat) : Int) := by decide +kernel
  intro c; exact h ⟨c.toNat, c.toNat_lt⟩
theorem has_inside : ∀ c : UInt8, hasB (lettersL ++ digitsL ++ [95]) c.toNat = insideB c.toNat := by
  have h : ∀ n : Fin 256, hasB (lettersL ++ digitsL ++ [95]) ((n.val : Nat) : Int) = insideB ((n.val : Nat) : Int) := by decide +kernel
  intro c; exact h ⟨c.toNat, c.toNat_lt⟩
theorem has_digits : ∀ c : UInt8, hasB digitsL c.toNat = digitB c.toNat := by
  have h : ∀ n : Fin 256, hasB digitsL ((n.val : Nat) : Int) = digitB ((n.val : Nat) : Int) := by decide +kernel
  intro c; exact h ⟨c.toNat, c.toNat_lt⟩
theorem has_singles : ∀ c : UInt8, hasB singlesL c.toNat = decide (Lib.indexByte singlesL c ≥ 0) := by
  have h : ∀ n : Fin 256, hasB singlesL ((UInt8.ofNat n.val).toNat : Int) = decide (Lib.indexByte singlesL (UInt8.ofNat n.val) ≥ 0) := by decide +kernel
  intro c; have := h ⟨c.toNat, c.toNat_lt⟩; simpa using this
def allI (l : List UInt8) : Bool := l.all fun x => insideB x.toNat
def allD (l : List UInt8) : Bool := l.all fun x => digitB x.toNat
def longB (l : List UInt8) : Bool := (decide (0 < l.length) && letterB (l.headD 0).toNat) && allI l
def wordB (l : List UInt8) : Bool := longB l && decide (l.length ≤ 16)
def signB (l : List UInt8) : Bool := if l.length = 1 then hasB singlesL (l.headD 0).toNat else pairsB l
def numB (l : List UInt8) : Bool :=
  !(decide (1 < l.length) && decide ((l.headD 0).toNat = 48) || decide (19 < l.length)) && (decide (l.length < 19) || leB l greatest)
def matchB (l : List UInt8) : Bool := longB l || allD l || signB l
theorem runN_take (p : Int → Bool) (l : List UInt8) (n : Nat) (h : n ≤ l.length) : (l.take n).all (fun x => p x.toNat) = decide (n ≤ runN p l) := by
  induction l generalizing n with
  | nil => simp at h; subst h; simp [runN]
  | cons c l ih =>
    cases n with
    | zero => simp
    | succ n =>
      simp only [List.take_succ_cons, List.all_cons]
      by_cases hp : p c.toNat = true
      · have e : runN p (c :: l) = runN p l + 1 := by simp [runN, hp]
        rw [e, hp, ih n (by simpa using h)]; simp
      · have e : runN p (c :: l) = 0 := by simp [runN, hp]
        simp only [Bool.not_eq_true] at hp; rw [e, hp]; simp
theorem head_take (l : List UInt8) (n : Nat) (h : 0 < n) : (l.take n).headD 0 = l.headD 0 := by
  cases l <;> cases n <;> simp_all
theorem take_len (l : List UInt8) (n : Nat) (h : n ≤ l.length) : (l.take n).length = n := by simp; omega
theorem pairs_len (l : List UInt8) (h : pairsB l = true) : l.length = 2 := by
  unfold pairsB at h; simp only [Bool.or_eq_true, beq_iff_eq] at h
  rcases h with h | h; rcases h with h | h; rcases h with h | h; rcases h with h | h; rcases h with h | h; rcases h with h | h; rcases h with h | h; rcases h with h | h; rcases h with h | h
  all_goals rw [h]; rfl
theorem pairs_head (l : List UInt8) (h : pairsB l = true) : letterB (l.headD 0).toNat = false ∧ digitB (l.headD 0).toNat = false := by
  unfold pairsB at h; simp only [Bool.or_eq_true, beq_iff_eq] at h
  rcases h with h | h; rcases h with h | h; rcases h with h | h; rcases h with h | h; rcases h with h | h; rcases h with h | h; rcases h with h | h; rcases h with h | h; rcases h with h | h
  all_goals rw [h]; exact ⟨rfl, rfl⟩
theorem singles_head : ∀ c : UInt8, hasB singlesL c.toNat = true → letterB c.toNat = false ∧ digitB c.toNat = false := by
  have h : ∀ n : Fin 256, hasB singlesL ((n.val : Nat) : Int) = true → letterB ((n.val : Nat) : Int) = false ∧ digitB ((n.val : Nat) : Int) = false := by decide +kernel
  intro c; exact h ⟨c.toNat, c.toNat_lt⟩
theorem letter_digit (c : Int) (h : letterB c = true) : digitB c = false := by
  unfold letterB at h; unfold digitB; simp at h ⊢; omega
theorem letter_inside (c : Int) (h : letterB c = true) : insideB c = true := by unfold insideB; rw [h]; rfl
theorem sign_letter (l : List UInt8) (h : letterB (l.headD 0).toNat = true) : signB l = false := by
  unfold signB
  split
  · have := singles_head (l.headD 0); cases hc : hasB singlesL (l.headD 0).toNat <;> simp_all
  · have := pairs_head l; cases hc : pairsB l <;> simp_all
theorem sign_digit (l : List UInt8) (h : digitB (l.headD 0).toNat = true) : signB l = false := by
  unfold signB
  split
  · have := singles_head (l.headD 0); cases hc : hasB singlesL (l.headD 0).toNat <;> simp_all
  · have := pairs_head l; cases hc : pairsB l <;> simp_all
theorem head_all (p : Int → Bool) (l : List UInt8) (hl : 0 < l.length) (h : l.all (fun x => p x.toNat) = true) : p (l.headD 0).toNat = true := by
  cases l with
  | nil => simp at hl
  | cons a l => simp at h ⊢; exact h.1
/-- what the document's way finds: the longest beginning that is a token's form -/
structure RefTok (m : List UInt8) (n : Nat) : Prop where
  le : n ≤ m.length
  none : ∀ j, n < j → j ≤ m.length → matchB (m.take j) = false
  hit : n = 0 ∨ matchB (m.take n) = true
def refKind (m : List UInt8) (n : Nat) : Int :=
  if signB (m.take n) then 3 else if decide (0 < n) && allD (m.take n) && numB (m.take n) then 2 else if wordB (m.take n) then 1 else 0
theorem num_good (l : List UInt8) (h : 0 < l.length) (hd : allD l = true) : numB l = goodB l := by
  unfold numB goodB
  cases l with
  | nil => simp at h
  | cons a l =>
    by_cases h1 : l = []
    · subst h1
      simp
      have := UInt8.toNat_lt a
      by_cases ha : a = 48
      · simp [ha]
      · simp [ha]
        intro h48; apply ha; exact UInt8.toNat_inj.1 (by simpa using h48)
    · have : 0 < l.length := List.length_pos_iff.2 h1
      have e : (a :: l == [48]) = false := by simp [h1]
      rw [e]
      simp
      by_cases a1 : a.toNat = 48 <;> by_cases a2 : l.length + 1 < 19 <;> by_cases a3 : l.length + 1 = 19 <;> simp_all
      all_goals first | omega | ((have b1 : 19 < l.length + 1 := by omega); (have b2 : ¬ l.length + 1 < 19 := by omega); simp [b1, b2])
theorem ref_tok (m : List UInt8) (n : Nat) (hm : 0 < m.length) (h : RefTok m n) : refKind m n = (tokN m).1 ∧ ((tokN m).1 ≠ 0 → n = (tokN m).2) := by
  have r1 := runN_le insideB m
  have r2 := runN_le digitB m
  have e0 := headD_eq m hm
  by_cases hl : letterB (m.headD 0).toNat = true
  · have hd := letter_digit _ hl
    have hM : ∀ j, 0 < j → j ≤ m.length → matchB (m.take j) = decide (j ≤ runN insideB m) := by
      intro j h0 hj
      have d : allD (m.take j) = false := by
        cases hc : allD (m.take j) with
        | false => rfl
        | true => have := head_all digitB (m.take j) (by rw [take_len _ _ hj]; exact h0) hc; rw [head_take _ _ h0] at this; rw [this] at hd; cases hd
      unfold matchB longB
      rw [sign_letter _ (by rw [head_take _ _ h0]; exact hl), d, head_take _ _ h0, hl, take_len _ _ hj]
      unfold allI
      rw [runN_take insideB m j hj]; simp [h0]
    have p1 : 1 ≤ runN insideB m := by
      have e := runN_drop insideB m 0 hm
      rw [if_pos (by rw [← e0]; exact letter_inside _ hl)] at e; simp at e; omega
    have hn : n = runN insideB m := by
      rcases Nat.lt_trichotomy n (runN insideB m) with hlt | heq | hgt
      · have a1 := h.none _ hlt r1; rw [hM _ (by omega) r1] at a1; simp at a1
      · exact heq
      · rcases h.hit with h0 | h1
        · omega
        · rw [hM n (by omega) h.le] at h1; simp at h1; omega
    have d : allD (m.take n) = false := by
      cases hc : allD (m.take n) with
      | false => rfl
      | true => have := head_all digitB (m.take n) (by rw [take_len _ _ h.le]; omega) hc; rw [head_take _ _ (by omega)] at this; rw [this] at hd; cases hd
    have w : wordB (m.take n) = decide (n ≤ 16) := by
      unfold wordB longB
      rw [head_take _ _ (by omega), hl, take_len _ _ h.le]; unfold allI; rw [runN_take insideB m n h.le]; simp; omega
    unfold refKind tokN
    rw [sign_letter _ (by rw [head_take _ _ (by omega)]; exact hl), d, w, hl, if_pos rfl, ← hn]
    by_cases h16 : n ≤ 16 <;> simp [h16]
  · simp only [Bool.not_eq_true] at hl
    have hlong : ∀ j, 0 < j → longB (m.take j) = false := by
      intro j h0; unfold longB; rw [head_take _ _ h0, hl]; simp
    by_cases hd : digitB (m.headD 0).toNat = true
    · have hM : ∀ j, 0 < j → j ≤ m.length → matchB (m.take j) = decide (j ≤ runN digitB m) := by
        intro j h0 hj
        unfold matchB
        rw [hlong j h0, sign_digit _ (by rw [head_take _ _ h0]; exact hd)]; unfold allD; rw [runN_take digitB m j hj]; simp
      have p1 : 1 ≤ runN digitB m := by
        have e := runN_drop digitB m 0 hm
        rw [if_pos (by rw [← e0]; exact hd)] at e; simp at e; omega
      have hn : n = runN digitB m := by
        rcases Nat.lt_trichotomy n (runN digitB m) with hlt | heq | hgt
        · have a1 := h.none _ hlt r2; rw [hM _ (by omega) r2] at a1; simp at a1
        · exact heq
        · rcases h.hit with h0 | h1
          · omega
          · rw [hM n (by omega) h.le] at h1; simp at h1; omega
      have d : allD (m.take n) = true := by unfold allD; rw [runN_take digitB m n h.le]; simp; omega
      have w : wordB (m.take n) = false := by unfold wordB; rw [hlong n (by omega)]; rfl
      unfold refKind tokN
      rw [sign_digit _ (by rw [head_take _ _ (by omega)]; exact hd), d, w, hl, hd, ← hn, num_good _ (by rw [take_len _ _ h.le]; omega) d]
      have : decide (0 < n) = true := by simp; omega
      rw [this]
      cases hg : goodB (m.take n) <;> simp
    · simp only [Bool.not_eq_true] at hd
      have hdd : ∀ j, 0 < j → j ≤ m.length → allD (m.take j) = false := by
        intro j h0 hj
        cases hc : allD (m.take j) with
        | false => rfl
        | true => have := head_all digitB (m.take j) (by rw [take_len _ _ hj]; exact h0) hc; rw [head_take _ _ h0] at this; rw [this] at hd; cases hd
      have hM : ∀ j, 0 < j → j ≤ m.length → matchB (m.take j) = signB (m.take j) := by
        intro j h0 hj; unfold matchB; rw [hlong j h0, hdd j h0 hj]; rfl
      have hs1 : signB (m.take 1) = hasB singlesL (m.headD 0).toNat := by
        unfold signB; rw [take_len _ _ (by omega), if_pos rfl, head_take _ _ (by omega)]
      have hs2 : ∀ j, 1 < j → j ≤ m.length → signB (m.take j) = pairsB (m.take j) := by
        intro j h0 hj; unfold signB; rw [take_len _ _ hj, if_neg (by omega)]
      have hbig : ∀ j, 2 < j → j ≤ m.length → signB (m.take j) = false := by
        intro j h0 hj; rw [hs2 j (by omega) hj]
        cases hc : pairsB (m.take j) with
        | false => rfl
        | true => have := pairs_len _ hc; rw [take_len _ _ hj] at this; omega
      have s0 : signB (m.take 0) = false := by simp [signB, pairsB]
      have hk : refKind m n = if signB (m.take n) then 3 else 0 := by
        unfold refKind wordB
        rcases Nat.eq_zero_or_pos n with h0 | h0
        · subst h0; rw [s0]; simp [longB]
        · rw [hdd n h0 h.le, hlong n h0]; simp
      have hi := has_singles (m.headD 0)
      rw [hk]
      unfold tokN
      rw [hl, hd]
      simp only [Bool.false_eq_true, if_false]
      by_cases hp : 1 < m.length ∧ pairsB (m.take 2) = true
      · rw [if_pos hp]
        have h2 : signB (m.take 2) = true := by rw [hs2 2 (by omega) (by omega)]; exact hp.2
        have hn : n = 2 := by
          rcases Nat.lt_trichotomy n 2 with hlt | heq | hgt
          · have a1 := h.none 2 hlt (by omega); rw [hM 2 (by omega) (by omega), h2] at a1; cases a1
          · exact heq
          · rcases h.hit with h0 | h1
            · omega
            · rw [hM n (by omega) h.le, hbig n hgt h.le] at h1; cases h1
        subst hn; rw [h2]; simp
      · rw [if_neg hp]
        have hnle : n ≤ 1 := by
          apply Nat.le_of_not_lt; intro hgt
          rcases h.hit with h0 | h1
          · omega
          · rw [hM n (by omega) h.le] at h1
            rcases Nat.lt_or_ge 2 n with h3 | h3
            · rw [hbig n h3 h.le] at h1; cases h1
            · obtain rfl : n = 2 := by omega
              have := h.le
              rw [hs2 2 (by omega) h.le] at h1; exact hp ⟨by omega, h1⟩
        by_cases hs : Lib.indexByte singlesL (m.headD 0) ≥ 0
        · have e1 : hasB singlesL (m.headD 0).toNat = true := by rw [hi]; simpa using hs
          have hn : n = 1 := by
            rcases Nat.eq_zero_or_pos n with h0 | h0
            · have a1 := h.none 1 (by omega) (by omega); rw [hM 1 (by omega) (by omega), hs1, e1] at a1; cases a1
            · omega
          unfold singlesL at hs
          subst hn; rw [hs1, e1, if_pos hs]; simp
        · have e1 : hasB singlesL (m.headD 0).toNat = false := by rw [hi]; simpa using hs
          unfold singlesL at hs
          rw [if_neg hs]
          have : signB (m.take n) = false := by
            rcases Nat.eq_zero_or_pos n with h0 | h0
            · subst h0; exact s0
            · obtain rfl : n = 1 := by omega
              rw [hs1, e1]
          rw [this]; simp
end Go.Proofs.Ytfcgegglipmdlaa
