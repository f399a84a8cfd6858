import Derived.Test.YtnficiohnhodiaaSlotF
import Derived.Test.YtnficiohnhodiaaDevL
/-
  Slots, the plain law: what a save leaves, whole or cut, and what an opening finds.
-/
namespace Go.Proofs.Ytnficiohnhodiaa
open Go.RowKit
/-- the device holds the row with its number; all is synced -/
structure Clean (d : Dev) (at_ number : Int) (row : List UInt8) : Prop where
  live : Live d
  a0 : 0 ≤ at_
  a1 : at_ < d.size - 1
  num : 1 ≤ number
  here : slotRead (d.now (at_ + number % 2)) (number % 2) = (number, row)
  other : (slotRead (d.now (at_ + (number + 1) % 2)) ((number + 1) % 2)).1 < number
  same : ∀ j, d.now j = d.synced j
theorem fits_true {d : Dev} {at_ : Int} (h0 : 0 ≤ at_) (h1 : at_ < d.size - 1) : fitsB d at_ = true := by unfold fitsB; simp; omega
/-- what an opening finds, out of the two sectors alone -/
theorem best_of {d : Dev} {at_ number : Int} {row : List UInt8} (hn : 1 ≤ number) (here : slotRead (d.now (at_ + number % 2)) (number % 2) = (number, row)) (other : (slotRead (d.now (at_ + (number + 1) % 2)) ((number + 1) % 2)).1 < number) : slotBest d at_ 2 = (number, row) := by
  have hp : number % 2 = 0 ∨ number % 2 = 1 := by omega
  unfold slotBest
  rcases hp with e | e
  · have e2 : (number + 1) % 2 = 1 := by omega
    rw [e] at here
    rw [e2] at other
    unfold slotBest slotBest
    simp only [Int.natCast_zero, Int.natCast_one]
    have h1 : (if (0 : Int) < (number, row).1 then (number, row) else (0, [])) = (number, row) := if_pos (by show (0 : Int) < number; omega)
    rw [here, h1, if_neg (by show ¬ number < (slotRead (d.now (at_ + 1)) 1).1; omega)]
  · have e2 : (number + 1) % 2 = 0 := by omega
    rw [e] at here
    rw [e2] at other
    unfold slotBest slotBest
    simp only [Int.natCast_one]
    rw [here]
    have h0 : (if (0 : Int) < (slotRead (d.now (at_ + ((0 : Nat) : Int))) ((0 : Nat) : Int)).1 then slotRead (d.now (at_ + ((0 : Nat) : Int))) ((0 : Nat) : Int) else (0, [])).1 < number := by
      split
      · exact other
      · show (0 : Int) < number; omega
    rw [if_pos h0]
theorem Clean.opens {d : Dev} {at_ number : Int} {row : List UInt8} (h : Clean d at_ number row) : d.slotOpen at_ = (0, number, row) := by
  unfold Dev.slotOpen
  have hb := best_of h.num h.here h.other
  rw [if_neg (by simp [fits_true h.a0 h.a1]), if_neg (by simp [h.live.down]), hb, if_neg (by show ¬ number = 0; have := h.num; omega)]
section
variable {d : Dev} {n : Nat} {at_ number : Int} {row new : List UInt8}
theorem put_clean (h : Clean d at_ number row) (hm : number < most62) (hl : new.length ≤ 480) {d' : Dev} (hlive : Live d') (hsz : d'.size = d.size) (hnow : ∀ j, d'.now j = if j = at_ + (number + 1) % 2 then secOf (number + 1) new else d.now j) (hsame : ∀ j, d'.now j = d'.synced j) :
    Clean d' at_ (number + 1) new := by
  have hn := h.num
  have hm' : number + 1 ≤ most62 := by omega
  refine ⟨hlive, h.a0, by rw [hsz]; exact h.a1, by omega, ?_, ?_, hsame⟩
  · rw [hnow, if_pos rfl]
    exact slotRead_sec (by omega) hm' hl
  · rw [hnow, if_neg (by omega), show (number + 1 + 1) % 2 = number % 2 from by omega, h.here]
    show number < number + 1; omega
/-- a Save while the power is there -/
theorem save_clean (ho : d.Ok n) (h : Clean d at_ number row) (hm : number < most62) (hl : new.length ≤ 480) :
    ∃ d', slotSave d at_ number row false new = ⟨0, d', number + 1, new, false⟩ ∧ Clean d' at_ (number + 1) new := by
  have h0 := h.a0
  have h1 := h.a1
  have hs := h.live.step
  have hw := dwrite_ok (d := d) (k := at_ + (number + 1) % 2) (v := secOf (number + 1) new) (by omega) (by omega) (secOf_len hl) hs.1
  have how := ho.write (at_ + (number + 1) % 2) (secOf (number + 1) new)
  rw [hw] at how
  have hlive : Live (d.step.2.put (at_ + (number + 1) % 2) (secOf (number + 1) new)) := ⟨hs.2.1.down, hs.2.1.armed⟩
  have hs2 := hlive.step
  obtain ⟨y1, y2, y3, y4, y5, _, _⟩ := dsync_ok hs2.1
  have y6 := dsync_synced how hs2.1
  refine ⟨_, ?_, put_clean (d' := (d.step.2.put (at_ + (number + 1) % 2) (secOf (number + 1) new)).sync.2) h hm hl ⟨y4, by rw [y5]; exact hlive.armed⟩ (by rw [y3]; exact step_size d) (fun j => by rw [y2]; exact dput_now j) (fun j => by rw [y2]; exact (y6 j).symm)⟩
  unfold slotSave
  rw [if_neg (by omega), if_neg (by omega), if_neg (by decide), hw, if_neg (by simp), if_neg (by simp [y1])]
/-- slots are laid -/
theorem format_clean (ho : d.Ok n) (hlv : Live d) (h0 : 0 ≤ at_) (h1 : at_ < d.size - 1) (hl : row.length ≤ 480) : ∃ d', d.slotFormat at_ row = (0, d') ∧ Clean d' at_ 1 row ∧ d'.size = d.size ∧ (∀ j, j ≠ at_ → j ≠ at_ + 1 → d'.now j = d.now j) ∧ ∀ j, d'.chg j = false := by
  have hs := hlv.step
  have hw1 := dwrite_ok (d := d) (k := at_) (v := blank) (by omega) (by omega) List.length_replicate hs.1
  have ho1 := ho.write at_ blank
  rw [hw1] at ho1
  have hl1 : Live (d.step.2.put at_ blank) := ⟨hs.2.1.down, hs.2.1.armed⟩
  have hz1 : (d.step.2.put at_ blank).size = d.size := step_size d
  have hs1 := hl1.step
  have hw2 := dwrite_ok (d := d.step.2.put at_ blank) (k := at_ + 1) (v := secOf 1 row) (by omega) (by omega) (secOf_len hl) hs1.1
  have ho2 := ho1.write (at_ + 1) (secOf 1 row)
  rw [hw2] at ho2
  have hl2 : Live ((d.step.2.put at_ blank).step.2.put (at_ + 1) (secOf 1 row)) := ⟨hs1.2.1.down, hs1.2.1.armed⟩
  have hs2 := hl2.step
  obtain ⟨y1, y2, y3, y4, y5, _, y7⟩ := dsync_ok hs2.1
  have y6 := dsync_synced ho2 hs2.1
  have hnow : ∀ j, ((d.step.2.put at_ blank).step.2.put (at_ + 1) (secOf 1 row)).sync.2.now j = if j = at_ + 1 then secOf 1 row else if j = at_ then blank else d.now j := fun j => by
    rw [y2, dput_now, dput_now]
  refine ⟨_, ?_, ⟨⟨y4, by rw [y5]; exact hl2.armed⟩, h0, by rw [y3]; show _ < (d.step.2.put at_ blank).step.2.size - 1; rw [step_size, hz1]; exact h1, by omega, ?_, ?_, fun j => by rw [y2]; exact (y6 j).symm⟩, ?_, ?_, y7⟩
  rotate_left 1
  · rw [hnow, show (1 : Int) % 2 = 1 from rfl, if_pos rfl]
    exact slotRead_sec (by omega) (by decide) hl
  · rw [hnow, show ((1 : Int) + 1) % 2 = 0 from rfl, if_neg (by omega), if_pos (by omega), slotRead_blank]
    show (0 : Int) < 1; omega
  · rw [y3]; show (d.step.2.put at_ blank).step.2.size = d.size; rw [step_size, hz1]
  · intro j hj1 hj2; rw [hnow, if_neg hj2, if_neg hj1]
  · unfold Dev.slotFormat
    rw [if_neg (by simp [fits_true h0 h1]), if_neg (by omega), hw1, if_neg (by simp), hw2, if_neg (by simp), ← y1]
theorem same_clean {d' : Dev} (h : Clean d at_ number row) (hlive : Live d') (hsz : d'.size = d.size) (hnow : ∀ j, d'.now j = d.now j) (hsame : ∀ j, d'.now j = d'.synced j) : Clean d' at_ number row :=
  ⟨hlive, h.a0, by rw [hsz]; exact h.a1, h.num, by rw [hnow]; exact h.here, by rw [hnow]; exact h.other, hsame⟩
/-- a crash of what is all synced -/
theorem crash_clean (ho : d.Ok n) (h : Clean d at_ number row) (keep : List Int) : Clean (d.crash keep) at_ number row := by
  have hnow : ∀ j, (d.crash keep).now j = d.now j := fun j => by
    rw [dcrash_now ho]; split
    · rfl
    · exact (h.same j).symm
  exact ⟨(dcrash_live keep).1, h.a0, by rw [(dcrash_live keep).2]; exact h.a1, h.num, by rw [hnow]; exact h.here, by rw [hnow]; exact h.other, fun j => (dcrash_synced ho keep j).symm⟩
def Dev.arm (d : Dev) (k : Int) : Dev := { d with armed := true, left := k }
/-- a Save where the power goes behind k steps, and a crash -/
theorem save_cut (ho : d.Ok n) (h : Clean d at_ number row) (hm : number < most62) (hl : new.length ≤ 480) (k : Int) (hk : 0 ≤ k) (hk2 : k < 9223372036854775808) (keep : List Int) :
    ∃ e d' num' row' dead', slotSave (d.arm k) at_ number row false new = ⟨e, d', num', row', dead'⟩ ∧ d'.Ok (n + 2) ∧
      ((e = 0 ∧ num' = number + 1 ∧ row' = new ∧ dead' = false ∧ 2 ≤ k ∧ Clean (d'.crash keep) at_ (number + 1) new) ∨
       (e = 3 ∧ num' = number ∧ row' = row ∧ dead' = true ∧ k < 2 ∧ (Clean (d'.crash keep) at_ number row ∨ Clean (d'.crash keep) at_ (number + 1) new))) := by
  have h0 := h.a0
  have h1 := h.a1
  have hoa : (d.arm k).Ok n := { ho with l0 := hk, l1 := hk2 }
  have hda : (d.arm k).down = false := h.live.down
  have hsl : (secOf (number + 1) new).length = 512 := secOf_len hl
  have hx : slotSave (d.arm k) at_ number row false new = if ((d.arm k).write (at_ + (number + 1) % 2) (secOf (number + 1) new)).1 ≠ 0 then ⟨((d.arm k).write (at_ + (number + 1) % 2) (secOf (number + 1) new)).1, ((d.arm k).write (at_ + (number + 1) % 2) (secOf (number + 1) new)).2, number, row, true⟩
    else if ((d.arm k).write (at_ + (number + 1) % 2) (secOf (number + 1) new)).2.sync.1 ≠ 0 then ⟨((d.arm k).write (at_ + (number + 1) % 2) (secOf (number + 1) new)).2.sync.1, ((d.arm k).write (at_ + (number + 1) % 2) (secOf (number + 1) new)).2.sync.2, number, row, true⟩
    else ⟨0, ((d.arm k).write (at_ + (number + 1) % 2) (secOf (number + 1) new)).2.sync.2, number + 1, new, false⟩ := by unfold slotSave; rw [if_neg (by omega), if_neg (by omega), if_neg (by decide)]
  have hk0 : 0 ≤ at_ + (number + 1) % 2 := by omega
  have hk1 : at_ + (number + 1) % 2 < (d.arm k).size := by show _ < d.size; omega
  by_cases hz : k = 0
  · have hs : (d.arm k).step.1 ≠ 0 := by
      intro e
      exact (step_ok e).2.2.2.2 rfl hz
    obtain ⟨b1, b2, _, b4⟩ := step_bad hs
    rw [dwrite_no hk0 hk1 hsl hs, if_pos hs] at hx
    have hos := hoa.step
    refine ⟨_, _, _, _, _, hx, ⟨hos.s0, by have := hos.s1; omega, hos.y0, hos.y1, hos.l0, hos.l1, hos.z1, hos.z2, hos.lens, hos.rng, hos.same⟩, .inr ⟨b1, rfl, rfl, rfl, by omega, .inl ?_⟩⟩
    refine same_clean h (dcrash_live keep).1 (by rw [(dcrash_live keep).2]; exact step_size (d.arm k)) (fun j => ?_) (fun j => (dcrash_synced hos keep j).symm)
    rw [dcrash_now hos, (step_maps (d.arm k)).1, (step_maps (d.arm k)).2.1]
    show (if j ∈ keep then d.now j else d.synced j) = d.now j
    split
    · rfl
    · exact (h.same j).symm
  · have hs : (d.arm k).step.1 = 0 := by
      unfold Dev.step
      rw [if_neg (fun h => h.elim (fun e => by rw [hda] at e; cases e) (fun e => hz e.2))]
    obtain ⟨_, a2, a3, a4, _⟩ := step_ok hs
    have hw := dwrite_ok hk0 hk1 hsl hs
    have how := hoa.write (at_ + (number + 1) % 2) (secOf (number + 1) new)
    rw [hw] at hx how
    rw [if_neg (by simp)] at hx
    generalize hd1 : (d.arm k).step.2.put (at_ + (number + 1) % 2) (secOf (number + 1) new) = d1 at hx how
    have how : d1.Ok (n + 1) := how
    have e1 : d1.down = false := by rw [← hd1]; exact a2
    have e2 : d1.armed = true := by rw [← hd1]; exact a3
    have e3 : d1.left = k - 1 := by rw [← hd1]; exact a4
    have e4 : d1.size = d.size := by rw [← hd1]; exact step_size (d.arm k)
    have e5 : ∀ j, d1.now j = if j = at_ + (number + 1) % 2 then secOf (number + 1) new else d.now j := fun j => by rw [← hd1, dput_now]; rfl
    have e6 : ∀ j, d1.synced j = d.synced j := fun j => by rw [← hd1, dput_synced]; rfl
    clear hd1 hw
    by_cases hz1 : k = 1
    · have hs1 : d1.step.1 ≠ 0 := by
        intro e
        exact (step_ok e).2.2.2.2 e2 (by omega)
      obtain ⟨b1, b2, _, b4⟩ := step_bad hs1
      simp only [] at hx
      rw [dsync_no hs1, if_pos hs1] at hx
      have hos := how.step
      refine ⟨_, _, _, _, _, hx, ⟨hos.s0, by have := hos.s1; omega, hos.y0, hos.y1, hos.l0, hos.l1, hos.z1, hos.z2, hos.lens, hos.rng, hos.same⟩, .inr ⟨b1, rfl, rfl, rfl, by omega, ?_⟩⟩
      have hcn : ∀ j, (d1.step.2.crash keep).now j = if j ∈ keep then (if j = at_ + (number + 1) % 2 then secOf (number + 1) new else d.now j) else d.now j := fun j => by
        rw [dcrash_now hos, (step_maps d1).1, (step_maps d1).2.1, e5, e6, ← h.same j]
      by_cases hkp : at_ + (number + 1) % 2 ∈ keep
      · right
        refine put_clean h hm hl (dcrash_live keep).1 (by rw [(dcrash_live keep).2, step_size]; exact e4) (fun j => ?_) (fun j => (dcrash_synced hos keep j).symm)
        rw [hcn]
        by_cases hj : j = at_ + (number + 1) % 2
        · rw [if_pos (by rw [hj]; exact hkp), if_pos hj]
        · rw [if_neg hj]; split <;> rfl
      · left
        refine same_clean h (dcrash_live keep).1 (by rw [(dcrash_live keep).2, step_size]; exact e4) (fun j => ?_) (fun j => (dcrash_synced hos keep j).symm)
        rw [hcn]
        by_cases hj : j = at_ + (number + 1) % 2
        · rw [if_neg (by rw [hj]; exact hkp)]
        · rw [if_neg hj]; split <;> rfl
    · have hs1 : d1.step.1 = 0 := by
        unfold Dev.step
        rw [if_neg (fun h => h.elim (fun e => by rw [e1] at e; cases e) (fun e => by have := e.2; omega))]
      obtain ⟨y1, y2, y3, y4, y5, _, _⟩ := dsync_ok hs1
      have y6 := dsync_synced how hs1
      simp only [] at hx
      rw [if_neg (by simp [y1])] at hx
      have hos := how.sync
      refine ⟨_, _, _, _, _, hx, hos, .inl ⟨rfl, rfl, rfl, rfl, by omega, ?_⟩⟩
      refine put_clean h hm hl (dcrash_live keep).1 (by rw [(dcrash_live keep).2, y3]; exact e4) (fun j => ?_) (fun j => (dcrash_synced hos keep j).symm)
      rw [dcrash_now hos, y2, y6, e5]; split <;> rfl
end
end Go.Proofs.Ytnficiohnhodiaa
