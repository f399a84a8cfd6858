import Derived.Test.YtfcgegglipmdlaaScanI
namespace Go.Proofs.Ytfcgegglipmdlaa
open Go.RowKit
theorem skip_take (b : Bool) (m : List UInt8) (j : Nat) (h : skipN b m ≤ j) : skipN b (m.take j) = skipN b m := by
  induction m generalizing b j with
  | nil => simp
  | cons c l ih =>
    cases j with
    | zero =>
      have : skipN b (c :: l) = 0 := by omega
      rw [this]; simp [skipN]
    | succ j =>
      rw [List.take_succ_cons]
      have h1 := ih true j; have h2 := ih false j
      cases b
      · by_cases a : c.toNat = 32 ∨ c.toNat = 9 ∨ c.toNat = 10
        · simp only [skipN, if_pos a] at h ⊢; rw [h2 (by omega)]
        · by_cases a2 : c.toNat = 35
          · simp only [skipN, if_neg a, if_pos a2] at h ⊢; rw [h1 (by omega)]
          · simp only [skipN, if_neg a, if_neg a2]
      · by_cases a : c.toNat = 10
        · simp only [skipN, if_pos a] at h ⊢; rw [h2 (by omega)]
        · simp only [skipN, if_neg a] at h ⊢; rw [h1 (by omega)]
theorem runN_take_eq (p : Int → Bool) (m : List UInt8) (j : Nat) : runN p (m.take j) = min (runN p m) j := by
  induction m generalizing j with
  | nil => simp [runN]
  | cons c l ih =>
    cases j with
    | zero => simp [runN]
    | succ j =>
      rw [List.take_succ_cons]; simp only [runN]
      split
      · rw [ih]; omega
      · omega
theorem tokN_take (m : List UInt8) (j : Nat) (hm : 0 < m.length) (h0 : (tokN m).1 ≠ 0) (hj : (tokN m).2 ≤ j) : tokN (m.take j) = tokN m := by
  have hl := tokN_len m hm h0
  have hj1 : 0 < j := by omega
  have hh := head_take m j hj1
  have tk : ∀ n, n ≤ j → (m.take j).take n = m.take n := by intro n hn; rw [List.take_take, Nat.min_eq_left hn]
  revert h0 hj
  unfold tokN
  rw [hh, runN_take_eq, runN_take_eq]
  by_cases a1 : letterB (m.headD 0).toNat = true
  · rw [if_pos a1, if_pos a1]
    by_cases a2 : runN insideB m ≤ 16
    · rw [if_pos a2]; intro _ hj; simp only at hj; rw [Nat.min_eq_left hj, if_pos a2]
    · rw [if_neg a2]; intro h0; exact absurd rfl h0
  · rw [if_neg a1, if_neg a1]
    by_cases a2 : digitB (m.headD 0).toNat = true
    · rw [if_pos a2, if_pos a2]
      by_cases a3 : goodB (m.take (runN digitB m)) = true
      · rw [if_pos a3]; intro _ hj; simp only at hj; rw [Nat.min_eq_left hj, tk _ hj, if_pos a3]
      · rw [if_neg a3]; intro h0; exact absurd rfl h0
    · rw [if_neg a2, if_neg a2]
      by_cases a3 : 1 < m.length ∧ pairsB (m.take 2) = true
      · rw [if_pos a3]; intro _ hj; simp only at hj
        rw [if_pos ⟨by simp; omega, by rw [tk 2 hj]; exact a3.2⟩]
      · rw [if_neg a3]
        have a4 : ¬ (1 < (m.take j).length ∧ pairsB ((m.take j).take 2) = true) := by
          rintro ⟨b1, b2⟩
          rw [List.length_take] at b1
          rw [tk 2 (by omega)] at b2
          exact a3 ⟨by omega, b2⟩
        rw [if_neg a4]
        intro _ _; rfl
theorem toksF_pos (f : Nat) (l : List UInt8) (k : Nat) (ts : List Tk) (h : toksF f l k = .ok ts) : ∀ t ∈ ts, ∃ p : Nat, t.pos = p ∧ k ≤ p := by
  induction f generalizing l k ts with
  | zero => simp [toksF] at h
  | succ f ih =>
    simp only [toksF] at h
    by_cases h1 : l.drop (skipN false l) = []
    · rw [if_pos h1] at h; cases h
      intro t ht; simp at ht; subst ht; exact ⟨k + skipN false l, rfl, by omega⟩
    · rw [if_neg h1] at h
      by_cases h2 : (tokN (l.drop (skipN false l))).1 = 0
      · rw [if_pos h2] at h; cases h
      · rw [if_neg h2] at h
        cases hr : toksF f ((l.drop (skipN false l)).drop (tokN (l.drop (skipN false l))).2) (k + skipN false l + (tokN (l.drop (skipN false l))).2) with
        | error e => rw [hr] at h; cases h
        | ok us =>
          rw [hr] at h; cases h
          intro t ht
          rcases List.mem_cons.1 ht with rfl | ht
          · exact ⟨k + skipN false l, rfl, by omega⟩
          · obtain ⟨p, hp, hk⟩ := ih _ _ _ hr t ht; exact ⟨p, hp, by omega⟩
theorem toks_cut (f : Nat) (l : List UInt8) (k : Nat) (ts : List Tk) (i p : Nat) (h : toksF f l k = .ok ts) (hi : i < ts.length) (hp : ts[i].pos = (p : Int)) :
    toksF f (l.take (p - k)) k = .ok (ts.take i ++ [⟨4, [], p⟩]) := by
  induction f generalizing l k ts i with
  | zero => simp [toksF] at h
  | succ f ih =>
    have hs := skipN_le false l
    have first : ∀ (hp0 : p = k + skipN false l), toksF (f + 1) (l.take (p - k)) k = .ok [⟨4, [], p⟩] := by
      intro hp0
      have e := skip_take false l (p - k) (by omega)
      simp only [toksF]
      rw [e, if_pos (by rw [List.drop_eq_nil_iff]; simp; omega), hp0]
    simp only [toksF] at h
    by_cases h1 : l.drop (skipN false l) = []
    · rw [if_pos h1] at h; cases h
      have : i = 0 := by simp at hi; omega
      subst this
      exact first (by simp at hp; omega)
    · rw [if_neg h1] at h
      by_cases h2 : (tokN (l.drop (skipN false l))).1 = 0
      · rw [if_pos h2] at h; cases h
      · rw [if_neg h2] at h
        have hlp := List.length_pos_iff.2 h1
        have hl := tokN_len _ hlp h2
        cases hr : toksF f ((l.drop (skipN false l)).drop (tokN (l.drop (skipN false l))).2) (k + skipN false l + (tokN (l.drop (skipN false l))).2) with
        | error e => rw [hr] at h; cases h
        | ok us =>
          rw [hr] at h; cases h
          cases i with
          | zero => exact first (by simp at hp; omega)
          | succ i =>
            have hi' : i < us.length := by simpa using hi
            have hp' : us[i].pos = (p : Int) := by simpa using hp
            obtain ⟨p', e1, e2⟩ := toksF_pos _ _ _ _ hr us[i] (List.getElem_mem hi')
            have e3 : p' = p := by rw [hp'] at e1; omega
            subst e3
            have hrec := ih _ _ _ i hr hi' hp'
            have es := skip_take false l (p' - k) (by omega)
            have ed : (l.take (p' - k)).drop (skipN false l) = (l.drop (skipN false l)).take (p' - k - skipN false l) := by rw [List.drop_take]
            have et := tokN_take (l.drop (skipN false l)) (p' - k - skipN false l) hlp h2 (by omega)
            have en : (l.drop (skipN false l)).take (p' - k - skipN false l) ≠ [] := by
              intro h0; have := congrArg List.length h0; simp at this hl; omega
            simp only [toksF]
            rw [es, ed, if_neg en, et, if_neg h2, List.drop_take, show p' - k - skipN false l - (tokN (l.drop (skipN false l))).2 = p' - (k + skipN false l + (tokN (l.drop (skipN false l))).2) from by omega, hrec]
            rw [List.take_take, Nat.min_eq_left (by omega)]
            rfl
theorem toksT_cut (S : List UInt8) (ts : List Tk) (i p : Nat) (h : toksT S = .ok ts) (hi : i < ts.length) (hp : ts[i].pos = (p : Int)) : toksT (S.take p) = .ok (ts.take i ++ [⟨4, [], p⟩]) := by
  unfold toksT at h ⊢
  split at h
  · cases h
  · rename_i hl
    cases hr : toksR S 0 with
    | error e => rw [hr] at h; cases h
    | ok us =>
      rw [hr] at h; cases h
      have := toks_cut _ S 0 ts i p hr hi hp
      rw [Nat.sub_zero] at this
      rw [if_neg (by simp; omega)]
      unfold toksR
      rw [toksF_fuel _ (S.length + 1) _ _ (by omega) (by simp; omega), this]; rfl
theorem tks_lt (S : List UInt8) (ts : List Tk) (h : toksT S = .ok ts) : 0 < ts.length := by
  unfold toksT at h
  split at h
  · cases h
  · cases hr : toksR S 0 with
    | error e => rw [hr] at h; cases h
    | ok us =>
      rw [hr] at h; cases h
      unfold toksR at hr; simp only [toksF] at hr
      split at hr
      · cases hr; simp
      · split at hr
        · cases hr
        · cases hq : toksF S.length ((S.drop (skipN false S)).drop (tokN (S.drop (skipN false S))).2) (0 + skipN false S + (tokN (S.drop (skipN false S))).2) with
          | error e => rw [hq] at hr; cases hr
          | ok vs => rw [hq] at hr; cases hr; simp
end Go.Proofs.Ytfcgegglipmdlaa
