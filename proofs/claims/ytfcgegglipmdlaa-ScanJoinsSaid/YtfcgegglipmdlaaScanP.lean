import Derived.Test.YtfcgegglipmdlaaScanL
namespace Go.Proofs.Ytfcgegglipmdlaa
open Go.RowKit
def isB (b : List UInt8) : Prop := b = [32] ∨ b = [9] ∨ b = [32, 35, 120, 10]
theorem skip_blank (b r : List UInt8) (h : isB b) : skipN false (b ++ r) = b.length + skipN false r := by
  rcases h with rfl | rfl | rfl <;> simp [skipN] <;> omega
theorem isB_head (b r : List UInt8) (h : isB b) : ∃ c l, b ++ r = c :: l ∧ (c = 32 ∨ c = 9) := by
  rcases h with rfl | rfl | rfl
  · exact ⟨32, r, rfl, .inl rfl⟩
  · exact ⟨9, r, rfl, .inr rfl⟩
  · exact ⟨32, 35 :: 120 :: 10 :: r, rfl, .inl rfl⟩
theorem runN_take_eq' (p : Int → Bool) (m : List UInt8) : runN p (m.take (runN p m)) = runN p m := by
  induction m with
  | nil => rfl
  | cons c l ih =>
    by_cases h : p c.toNat = true
    · have e : runN p (c :: l) = runN p l + 1 := by simp [runN, h]
      rw [e, List.take_succ_cons]; simp only [runN, h, if_true]; rw [ih]
    · have e : runN p (c :: l) = 0 := by simp [runN, h]
      rw [e]; simp [runN]
theorem runN_app (p : Int → Bool) (a : List UInt8) (c : UInt8) (r : List UInt8) (hc : p c.toNat = false) (ha : runN p a = a.length) : runN p (a ++ c :: r) = a.length := by
  induction a with
  | nil => simp [runN, hc]
  | cons x a ih =>
    simp only [runN] at ha
    split at ha
    · rename_i hx
      simp only [List.cons_append, runN, hx, if_true, List.length_cons]
      rw [ih (by simpa using ha)]
    · simp at ha
theorem tokN_blank (c : UInt8) (l : List UInt8) (h : c.toNat = 32 ∨ c.toNat = 9 ∨ c.toNat = 10 ∨ c.toNat = 35) : (tokN (c :: l)).1 = 0 := by
  have a1 : letterB c.toNat = false := by unfold letterB; simp; omega
  have a2 : digitB c.toNat = false := by unfold digitB; simp; omega
  have a3 : pairsB ((c :: l).take 2) = false := by
    cases hp : pairsB ((c :: l).take 2) with
    | false => rfl
    | true =>
      exfalso
      unfold pairsB at hp
      cases l with
      | nil => simp at hp
      | cons d l =>
        simp only [List.take_succ_cons, List.take_zero, Bool.or_eq_true, beq_iff_eq] at hp
        have hc : ∀ n : Nat, n < 256 → c = UInt8.ofNat n → c.toNat = n := by intro n hn e; rw [e]; simp; omega
        rcases hp with hp | hp; rcases hp with hp | hp; rcases hp with hp | hp; rcases hp with hp | hp; rcases hp with hp | hp; rcases hp with hp | hp; rcases hp with hp | hp; rcases hp with hp | hp; rcases hp with hp | hp
        all_goals (simp only [List.cons.injEq] at hp; rw [hp.1] at h; revert h; decide)
  have a4 : ¬ Lib.indexByte singlesL c ≥ 0 := by
    have h1 : ∀ n : Fin 256, (n.val = 32 ∨ n.val = 9 ∨ n.val = 10 ∨ n.val = 35) → ¬ Lib.indexByte singlesL (UInt8.ofNat n.val) ≥ 0 := by decide +kernel
    have := h1 ⟨c.toNat, c.toNat_lt⟩ h
    simpa using this
  unfold singlesL at a4
  have e : tokN (c :: l) = (0, 0) := by
    unfold tokN
    rw [if_neg (by rw [List.headD_cons, a1]; decide), if_neg (by rw [List.headD_cons, a2]; decide), if_neg (by rintro ⟨_, h⟩; rw [a3] at h; cases h), if_neg (by exact a4)]
  rw [e]
theorem skip_head (l : List UInt8) (h : (tokN l).1 ≠ 0) : skipN false l = 0 := by
  cases l with
  | nil => rfl
  | cons c l =>
    have : ¬ (c.toNat = 32 ∨ c.toNat = 9 ∨ c.toNat = 10 ∨ c.toNat = 35) := fun hc => h (tokN_blank c l hc)
    simp only [skipN]; rw [if_neg (by omega), if_neg (by omega)]
theorem tokN_app (m : List UInt8) (hm : 0 < m.length) (h0 : (tokN m).1 ≠ 0) (c : UInt8) (r : List UInt8) (hc : c = 32 ∨ c = 9) :
    tokN (m.take (tokN m).2 ++ c :: r) = ((tokN m).1, (m.take (tokN m).2).length) := by
  have hl := tokN_len m hm h0
  have htl := take_len m (tokN m).2 hl.2
  have hh : (m.take (tokN m).2 ++ c :: r).headD 0 = m.headD 0 := by
    cases m with
    | nil => simp at hm
    | cons x m => obtain ⟨n, hn⟩ : ∃ n, (tokN (x :: m)).2 = n + 1 := ⟨_, (Nat.sub_add_cancel hl.1).symm⟩; rw [hn]; rfl
  have hci : insideB c.toNat = false := by rcases hc with rfl | rfl <;> decide
  have hcd : digitB c.toNat = false := by rcases hc with rfl | rfl <;> decide
  rw [htl]
  revert h0 hl hh htl
  unfold tokN
  by_cases a1 : letterB (m.headD 0).toNat = true
  · simp only [if_pos a1]
    by_cases a2 : runN insideB m ≤ 16
    · simp only [if_pos a2]
      intro _ _ htl hh
      rw [hh, if_pos a1]
      have e := runN_app insideB (m.take (runN insideB m)) c r hci (by rw [runN_take_eq', htl])
      rw [e, htl, if_pos a2]
    · simp only [if_neg a2]; intro h0; exact absurd rfl h0
  · simp only [if_neg a1]
    by_cases a2 : digitB (m.headD 0).toNat = true
    · simp only [if_pos a2]
      by_cases a3 : goodB (m.take (runN digitB m)) = true
      · simp only [if_pos a3]
        intro _ _ htl hh
        rw [hh, if_neg a1, if_pos a2]
        have e := runN_app digitB (m.take (runN digitB m)) c r hcd (by rw [runN_take_eq', htl])
        rw [e, htl, List.take_left' htl, if_pos a3]
      · simp only [if_neg a3]; intro h0; exact absurd rfl h0
    · simp only [if_neg a2]
      by_cases a3 : 1 < m.length ∧ pairsB (m.take 2) = true
      · simp only [if_pos a3]
        intro _ _ htl hh
        rw [hh, if_neg a1, if_neg a2, List.take_left' htl, if_pos ⟨by simp; omega, a3.2⟩]
      · simp only [if_neg a3]
        by_cases a4 : Lib.indexByte [40, 41, 123, 125, 91, 93, 44, 59, 43, 45, 42, 47, 37, 33, 60, 62, 61] (m.headD 0) ≥ 0
        · simp only [if_pos a4]
          intro _ _ htl hh
          rw [hh, if_neg a1, if_neg a2, if_neg ?_, if_pos a4]
          rintro ⟨_, hp⟩
          cases m with
          | nil => simp at hm
          | cons x m =>
            simp only [List.take_succ_cons, List.take_zero, List.cons_append, List.nil_append] at hp
            unfold pairsB at hp
            simp only [Bool.or_eq_true, beq_iff_eq, List.cons.injEq, and_true] at hp
            rcases hc with rfl | rfl
            all_goals (rcases hp with hp | hp; rcases hp with hp | hp; rcases hp with hp | hp; rcases hp with hp | hp; rcases hp with hp | hp; rcases hp with hp | hp; rcases hp with hp | hp; rcases hp with hp | hp; rcases hp with hp | hp)
            all_goals exact absurd hp.2 (by decide)
        · simp only [if_neg a4]; intro h0; exact absurd rfl h0
def Gt (t : Tk) : Prop := t.kind ≠ 0 ∧ t.text ≠ [] ∧ ∀ c r, (c = 32 ∨ c = 9) → tokN (t.text ++ c :: r) = (t.kind, t.text.length)
def GL : List Tk → Prop
  | [] => False
  | t :: ts => (ts = [] ∧ t.kind = 4 ∧ t.text = []) ∨ (ts ≠ [] ∧ Gt t ∧ GL ts)
theorem gl_toks (f : Nat) (l : List UInt8) (k : Nat) (ts : List Tk) (h : toksF f l k = .ok ts) : GL ts := by
  induction f generalizing l k ts with
  | zero => simp [toksF] at h
  | succ f ih =>
    simp only [toksF] at h
    by_cases h1 : l.drop (skipN false l) = []
    · rw [if_pos h1] at h; cases h; exact .inl ⟨rfl, rfl, rfl⟩
    · rw [if_neg h1] at h
      by_cases h2 : (tokN (l.drop (skipN false l))).1 = 0
      · rw [if_pos h2] at h; cases h
      · rw [if_neg h2] at h
        have hlp := List.length_pos_iff.2 h1
        have hl := tokN_len _ hlp h2
        have happ := tokN_app _ hlp h2
        cases hr : toksF f ((l.drop (skipN false l)).drop (tokN (l.drop (skipN false l))).2) (k + skipN false l + (tokN (l.drop (skipN false l))).2) with
        | error e => rw [hr] at h; cases h
        | ok us =>
          rw [hr] at h; cases h
          have := ih _ _ _ hr
          refine .inr ⟨by rintro rfl; exact this, ⟨h2, ?_, fun c r hc => happ c r hc⟩, this⟩
          intro h0
          have h3 : ((l.drop (skipN false l)).take (tokN (l.drop (skipN false l))).2).length = 0 := congrArg List.length h0
          rw [take_len _ _ hl.2] at h3; omega
theorem gl_all (S : List UInt8) (ts : List Tk) (h : toksT S = .ok ts) : GL ts := by
  unfold toksT at h
  split at h
  · cases h
  · cases hr : toksR S 0 with
    | error e => rw [hr] at h; cases h
    | ok us => rw [hr] at h; cases h; exact gl_toks _ _ _ _ hr
def joinL (bf : Nat → List UInt8) : Nat → List Tk → List UInt8
  | _, [] => []
  | i, t :: ts => t.text ++ bf i ++ joinL bf (i + 1) ts
theorem join_toks (bf : Nat → List UInt8) (hb : ∀ i, isB (bf i)) (ts : List Tk) (h : GL ts) : ∀ (i k : Nat) (pend : List UInt8), (pend = [] ∨ isB pend) →
    ∃ us, toksR (pend ++ joinL bf i ts) k = .ok us ∧ us.map (fun t => (t.kind, t.text)) = ts.map (fun t => (t.kind, t.text)) := by
  induction ts with
  | nil => exact h.elim
  | cons t ts ih =>
    intro i k pend hp
    have hpend : ∀ r, skipN false (pend ++ r) = pend.length + skipN false r := by
      intro r; rcases hp with rfl | hp
      · simp
      · exact skip_blank _ _ hp
    rcases h with ⟨rfl, h1, h2⟩ | ⟨h0, ⟨g1, g2, g3⟩, h3⟩
    · refine ⟨_, toksR_end _ k ?_, by simp [h1, h2]⟩
      simp only [joinL, h2, List.nil_append]
      rw [hpend, skip_blank _ _ (hb i)]
      simp [skipN]
    · obtain ⟨c, r, hcr, hc⟩ := isB_head (bf i) (joinL bf (i + 1) ts) (hb i)
      have e : pend ++ joinL bf i (t :: ts) = pend ++ (t.text ++ (c :: r)) := by simp only [joinL, List.append_assoc, hcr]
      have htok := g3 c r hc
      have hs : skipN false (pend ++ (t.text ++ (c :: r))) = pend.length := by
        rw [hpend, skip_head _ (by rw [htok]; exact g1)]; rfl
      have hdrop : (pend ++ (t.text ++ (c :: r))).drop pend.length = t.text ++ (c :: r) := List.drop_left
      obtain ⟨us, hu1, hu2⟩ := ih h3 (i + 1) (k + pend.length + t.text.length) (bf i) (.inr (hb i))
      have hr := toksR_tok (pend ++ (t.text ++ (c :: r))) k (by rw [hs, hdrop]; simp) (by rw [hs, hdrop, htok]; exact g1)
      rw [hs, hdrop, htok] at hr
      simp only [List.drop_left, List.take_left] at hr
      rw [← hcr, hu1] at hr
      rw [e, ← hcr]
      exact ⟨_, hr, by simp [hu2]⟩
theorem join_all (S : List UInt8) (bf : Nat → List UInt8) (hb : ∀ i, isB (bf i)) (ts : List Tk) (h : toksT S = .ok ts) (hl : (joinL bf 0 ts).length ≤ 480) :
    ∃ us, toksT (joinL bf 0 ts) = .ok us ∧ us.map (fun t => (t.kind, t.text)) = ts.map (fun t => (t.kind, t.text)) := by
  obtain ⟨us, h1, h2⟩ := join_toks bf hb ts (gl_all S ts h) 0 0 [] (.inl rfl)
  refine ⟨us, ?_, h2⟩
  unfold toksT; rw [if_neg (by omega)]
  rw [List.nil_append] at h1; rw [h1]; rfl
end Go.Proofs.Ytfcgegglipmdlaa
