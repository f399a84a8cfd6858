import Derived.Test.YtbaphjnglkocpaaJournT
/-
  The journal is opened: the records of its stream.
-/
namespace Go.Proofs.Ytbaphjnglkocpaa
open Go.RowKit
/-- the records of bytes; what is behind the last whole one is dropped -/
def recsOf : Nat → List UInt8 → List (List UInt8)
  | 0, _ => []
  | f + 1, a :: b :: l => if a.toNat * 256 + b.toNat = 0 ∨ l.length < a.toNat * 256 + b.toNat then [] else l.take (a.toNat * 256 + b.toNat) :: recsOf f (l.drop (a.toNat * 256 + b.toNat))
  | _ + 1, _ => []
theorem recB_of (a b : UInt8) (l : List UInt8) (h : l.length = a.toNat * 256 + b.toNat) : recB l = a :: b :: l := by
  unfold recB
  have ha := a.toNat_lt
  have hb := b.toNat_lt
  rw [h]
  congr 1
  · rw [show (a.toNat * 256 + b.toNat) / 256 = a.toNat from by omega]; exact UInt8.ofNat_toNat
  · congr 1
    apply UInt8.toNat_inj.1
    rw [UInt8.toNat_ofNat']
    omega
/-- one record more -/
theorem recsOf_step (f : Nat) (a b : UInt8) (l : List UInt8) (h0 : a.toNat * 256 + b.toNat ≠ 0) (h1 : a.toNat * 256 + b.toNat ≤ l.length) : recsOf (f + 1) (a :: b :: l) = l.take (a.toNat * 256 + b.toNat) :: recsOf f (l.drop (a.toNat * 256 + b.toNat)) := by
  rw [recsOf, if_neg (by omega)]
theorem recsOf_stop (f : Nat) (a b : UInt8) (l : List UInt8) (h : a.toNat * 256 + b.toNat = 0 ∨ l.length < a.toNat * 256 + b.toNat) : recsOf f (a :: b :: l) = [] := by
  cases f with
  | zero => rfl
  | succ f => rw [recsOf, if_pos h]
theorem recsOf_short (f : Nat) (l : List UInt8) (h : l.length < 2) : recsOf f l = [] := by
  cases f with
  | zero => rfl
  | succ f =>
    match l, h with
    | [], _ => rfl
    | [_], _ => rfl
theorem recsOf_fuel : ∀ (f g : Nat) (l : List UInt8), l.length ≤ f → l.length ≤ g → recsOf f l = recsOf g l
  | 0, g, l, hf, _ => by
    have : l = [] := List.eq_nil_of_length_eq_zero (by omega)
    subst this; rw [recsOf_short g [] (by simp)]; rfl
  | f + 1, 0, l, _, hg => by
    have : l = [] := List.eq_nil_of_length_eq_zero (by omega)
    subst this; rfl
  | f + 1, g + 1, l, hf, hg => by
    match l with
    | [] => rfl
    | [_] => rfl
    | a :: b :: l =>
      rw [recsOf, recsOf]
      split
      · rfl
      · rw [recsOf_fuel f g _ (by simp at hf ⊢; omega) (by simp at hg ⊢; omega)]
/-- all records of a stream from a place on -/
def recsAll (l : List UInt8) : List (List UInt8) := recsOf l.length l
theorem recsAll_step (a b : UInt8) (l : List UInt8) (h0 : a.toNat * 256 + b.toNat ≠ 0) (h1 : a.toNat * 256 + b.toNat ≤ l.length) : recsAll (a :: b :: l) = l.take (a.toNat * 256 + b.toNat) :: recsAll (l.drop (a.toNat * 256 + b.toNat)) := by
  unfold recsAll
  rw [List.length_cons, List.length_cons, recsOf_step _ _ _ _ h0 h1]
  congr 1
  exact recsOf_fuel _ _ _ (by rw [List.length_drop]; omega) (Nat.le_refl _)
theorem recsAll_stop (a b : UInt8) (l : List UInt8) (h : a.toNat * 256 + b.toNat = 0 ∨ l.length < a.toNat * 256 + b.toNat) : recsAll (a :: b :: l) = [] := recsOf_stop _ _ _ _ h
theorem recsAll_short (l : List UInt8) (h : l.length < 2) : recsAll l = [] := recsOf_short _ _ h
/-- what the records say they are -/
theorem recsAll_pre : ∀ (n : Nat) (l : List UInt8), l.length ≤ n → ∃ r, l = recsB (recsAll l) ++ r
  | 0, l, h => by
    have : l = [] := List.eq_nil_of_length_eq_zero (by omega)
    subst this; exact ⟨[], rfl⟩
  | n + 1, l, h => by
    match l with
    | [] => exact ⟨[], rfl⟩
    | [x] => exact ⟨[x], rfl⟩
    | a :: b :: l =>
      by_cases hs : a.toNat * 256 + b.toNat = 0 ∨ l.length < a.toNat * 256 + b.toNat
      · rw [recsAll_stop _ _ _ hs]; exact ⟨a :: b :: l, rfl⟩
      · rw [recsAll_step _ _ _ (by omega) (by omega)]
        obtain ⟨r, hr⟩ := recsAll_pre n (l.drop (a.toNat * 256 + b.toNat)) (by simp at h ⊢; omega)
        refine ⟨r, ?_⟩
        rw [show recsB (l.take (a.toNat * 256 + b.toNat) :: recsAll (l.drop (a.toNat * 256 + b.toNat))) = recB (l.take (a.toNat * 256 + b.toNat)) ++ recsB (recsAll (l.drop (a.toNat * 256 + b.toNat))) from rfl]
        rw [List.append_assoc, ← hr, recB_of a b _ (by rw [List.length_take]; omega)]
        simp
theorem clip_any (w : World) (q : Option Addr) (n c : Nat) (h : n ≤ c) : Calls Try.prog 117 #[.slice q n c] w fun e w' => e = .returned (.slice q n n) ∧ w = w' := by
  have h1 : (n : Int) ≤ (c : Int) := by omega
  go_enter Try.func117, Try.ntmps117
  go_wp2
  go_ret
  exact ⟨rfl, rfl⟩
end Go.Proofs.Ytbaphjnglkocpaa
