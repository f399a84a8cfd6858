import Derived.Test.YtnficiohnhodiaaLockY
/-
  Plain laws of the table of locks: there is never a circle of waits; the errors that Take answers.
-/
namespace Go.Proofs.Ytnficiohnhodiaa
open Go.RowKit
def NoCirc (t : LT) : Prop := ∀ x y, y ∈ t.wait x → ¬ Reach t y x
theorem noCirc_empty : NoCirc LT.empty := fun x y h => by simp [LT.wait, LT.empty, aget] at h
/-- fewer edges -/
theorem Reach.sub {t t' : LT} (h : ∀ x y, y ∈ t'.wait x → y ∈ t.wait x) {a b : Int} (r : Reach t' a b) : Reach t a b := by
  induction r with
  | refl x => exact .refl x
  | step e _ ih => exact .step (h _ _ e) ih
theorem NoCirc.sub {t t' : LT} (h : ∀ x y, y ∈ t'.wait x → y ∈ t.wait x) (n : NoCirc t) : NoCirc t' := fun x y e r => n x y (h x y e) (r.sub h)
theorem mem_oth {o txn md : Int} {l : List (Int × Int)} : o ∈ oth txn md l ↔ ∃ m, (o, m) ∈ l ∧ o ≠ txn ∧ alongB m md = false := by
  unfold oth
  rw [List.mem_map]
  constructor
  · rintro ⟨q, hq, rfl⟩
    rw [List.mem_filter] at hq
    exact ⟨q.2, hq.1, by have := hq.2; simp at this; exact this.1, by have := hq.2; simp at this; exact this.2⟩
  · rintro ⟨m, hm, h1, h2⟩
    exact ⟨(o, m), List.mem_filter.2 ⟨hm, by simp [h1, h2]⟩, rfl⟩
theorem mem_wait {t : LT} {x y : Int} : y ∈ t.wait x ↔ ∃ w, aget t.waits x = some w ∧ ∃ m, (y, m) ∈ t.holders w.page ∧ y ≠ x ∧ alongB m w.mode = false := by
  unfold LT.wait
  cases h : aget t.waits x with
  | none => simp
  | some w => simp only [Option.some.injEq, exists_eq_left']; exact mem_oth
theorem wait_unwait (t : LT) (txn x : Int) : (t.unwait txn).wait x = if x = txn then [] else t.wait x := by
  unfold LT.wait LT.unwait
  simp only [aget_adel]
  by_cases h : x = txn
  · simp [h]
  · simp only [if_neg h]
    cases aget t.waits x with
    | none => rfl
    | some w => rfl
theorem NoCirc.unwait {t : LT} (h : NoCirc t) (txn : Int) : NoCirc (t.unwait txn) := h.sub fun x y e => by
  rw [wait_unwait] at e; split at e
  · cases e
  · exact e
theorem NoCirc.release {t : LT} {n : Nat} (g : t.Good n) (h : NoCirc t) (txn : Int) : NoCirc (t.release txn) := h.sub fun x y e => by
  obtain ⟨w, hw, m, hm, h1, h2⟩ := mem_wait.1 e
  rw [holders_release g] at hm
  have : aget (t.release txn).waits x = aget (adel t.waits txn) x := rfl
  rw [this, aget_adel] at hw
  split at hw
  · cases hw
  · exact mem_wait.2 ⟨w, hw, m, (List.mem_filter.1 hm).1, h1, h2⟩
/-- a lock is set by one who waits for nobody -/
theorem NoCirc.set {t : LT} (h : NoCirc t) {txn : Int} (page md : Int) (m : Nat) (h0 : t.wait txn = []) : NoCirc (t.set txn page md m) := by
  have hsub : ∀ x y, y ∈ (t.set txn page md m).wait x → y ≠ txn → y ∈ t.wait x := by
    intro x y e hy
    obtain ⟨w, hw, k, hk, h1, h2⟩ := mem_wait.1 e
    rw [holders_set] at hk
    refine mem_wait.2 ⟨w, hw, k, ?_, h1, h2⟩
    split at hk
    · rcases mem_aput hk with e | ⟨hk, _⟩
      · cases e; exact absurd rfl hy
      · rw [show w.page = page from ‹_›]; exact hk
    · exact hk
  have hout : ∀ y, y ∉ (t.set txn page md m).wait txn := by
    intro y e
    obtain ⟨w, hw, _⟩ := mem_wait.1 e
    have hw' : aget t.waits txn = some w := hw
    obtain ⟨w2, hw2, k, hk, h1, h2⟩ := mem_wait.1 e
    by_cases hy : y = txn
    · exact h1 hy
    · have := hsub txn y e hy; rw [h0] at this; cases this
  have hR : ∀ {a b}, Reach (t.set txn page md m) a b → b ≠ txn → Reach t a b := by
    intro a b r
    induction r with
    | refl x => exact fun _ => .refl x
    | @step x y z e r ih =>
      intro hb
      have hy : y ≠ txn := by
        rintro rfl
        cases r with
        | refl => exact hb rfl
        | step e' _ => exact hout _ e'
      exact .step (hsub _ _ e hy) (ih hb)
  intro x y e r
  have hx : x ≠ txn := by rintro rfl; exact hout _ e
  have hy : y ≠ txn := by
    rintro rfl
    cases r with
    | refl => exact hx rfl
    | step e' _ => exact hout _ e'
  exact h x y (hsub x y e hy) (hR r hx)
theorem wait_aput {t : LT} (txn : Int) (w : Want) (x : Int) : ({ t with waits := aput t.waits txn w } : LT).wait x = if x = txn then t.others txn w else t.wait x := by
  unfold LT.wait
  simp only [aget_aput]
  by_cases h : x = txn
  · subst h; simp only [if_true]; rfl
  · simp only [if_neg h]
    cases aget t.waits x with
    | none => rfl
    | some w => rfl
theorem NoCirc.wait {t : LT} (h : NoCirc t) {txn : Int} {w : Want} (hd : ¬ ∃ o ∈ t.others txn w, Reach t o txn) : NoCirc ({ t with waits := aput t.waits txn w } : LT) := by
  have hw := fun x => wait_aput (t := t) txn w x
  generalize ({ t with waits := aput t.waits txn w } : LT) = t' at hw ⊢
  have hto : ∀ {a b}, Reach t' a b → b = txn → Reach t a txn := by
    intro a b r
    induction r with
    | refl x => rintro rfl; exact .refl _
    | @step x y z e r ih =>
      intro hb
      rw [hw] at e
      split at e
      · rename_i hx; subst hx; exact .refl _
      · exact .step e (ih hb)
  have hR : ∀ {a b}, Reach t' a b → Reach t a b ∨ (Reach t a txn ∧ ∃ o ∈ t.others txn w, Reach t' o b) := by
    intro a b r
    induction r with
    | refl x => exact .inl (.refl x)
    | @step x y z e r ih =>
      rw [hw] at e
      split at e
      · rename_i hx; subst hx; exact .inr ⟨.refl _, y, e, r⟩
      · rcases ih with h1 | ⟨h1, h2⟩
        · exact .inl (.step e h1)
        · exact .inr ⟨.step e h1, h2⟩
  intro x y e r
  have e' := e
  rw [hw] at e'
  split at e'
  · rename_i hx; exact hd ⟨y, e', hto r hx⟩
  · rcases hR r with h1 | ⟨h1, o, ho, h2⟩
    · exact h x y e' h1
    · rcases hR h2 with k | ⟨k, _⟩
      · exact hd ⟨o, ho, k.trans (.step e' h1)⟩
      · exact hd ⟨o, ho, k⟩
theorem NoCirc.take {t : LT} (h : NoCirc t) (txn page mode : Int) (m : Nat) : NoCirc (t.take txn page mode m).2 := by
  have hu := h.unwait txn
  have h0 : (t.unwait txn).wait txn = [] := by rw [wait_unwait, if_pos rfl]
  unfold LT.take
  split
  · exact h
  · simp only []
    split
    · exact hu
    · split
      · split
        · exact hu
        · exact hu.wait ‹_›
      · split
        · exact hu
        · exact hu.set _ _ _ h0
theorem take_err {t : LT} (txn page mode : Int) (m : Nat) : ((t.take txn page mode m).1 = 18 → (t.take txn page mode m).2.wait txn = []) ∧ ((t.take txn page mode m).1 = 17 → (t.take txn page mode m).2.wait txn ≠ []) := by
  have h0 : (t.unwait txn).wait txn = [] := by rw [wait_unwait, if_pos rfl]
  unfold LT.take
  split
  · simp
  · simp only []
    split
    · simp
    · split
      · split
        · simp [h0]
        · simp only [wait_aput, if_true]; simp; assumption
      · split
        · simp
        · simp
end Go.Proofs.Ytnficiohnhodiaa
