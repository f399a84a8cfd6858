import Derived.Test.YtnficiohnhodiaaDev
/-
  The device, the plain law: what a write, a sync, a crash leave.
-/
namespace Go.Proofs.Ytnficiohnhodiaa
open Go.RowKit
structure Live (d : Dev) : Prop where
  down : d.down = false
  armed : d.armed = false
theorem Live.step {d : Dev} (h : Live d) : d.step.1 = 0 ∧ Live d.step.2 ∧ d.step.2.left = d.left := by
  unfold Dev.step
  rw [if_neg (by simp [h.down, h.armed]), if_neg (by simp [h.armed])]
  exact ⟨rfl, ⟨h.down, h.armed⟩, rfl⟩
/-- what a step that is made leaves alone -/
theorem step_ok {d : Dev} (h : d.step.1 = 0) : d.down = false ∧ d.step.2.down = false ∧ d.step.2.armed = d.armed ∧ d.step.2.left = (if d.armed then d.left - 1 else d.left) ∧ (d.armed = true → d.left ≠ 0) := by
  unfold Dev.step at h ⊢
  split
  · rename_i e; rw [if_pos e] at h; cases h
  · rename_i e
    have hd : d.down = false := by
      cases hd : d.down
      · rfl
      · exact absurd (.inl hd) e
    exact ⟨hd, hd, rfl, rfl, fun ha h0 => e (.inr ⟨ha, h0⟩)⟩
theorem step_bad {d : Dev} (h : d.step.1 ≠ 0) : d.step.1 = 3 ∧ d.step.2.down = true ∧ (d.down = true ∨ d.armed = true ∧ d.left = 0) ∧ d.step.2.armed = d.armed := by
  unfold Dev.step at h ⊢
  split
  · rename_i e; exact ⟨rfl, rfl, e, rfl⟩
  · rename_i e; rw [if_neg e] at h; exact absurd rfl h
section
variable {d : Dev} {k : Int} {v : List UInt8}
theorem dwrite_ok (h0 : 0 ≤ k) (h1 : k < d.size) (hv : v.length = 512) (hs : d.step.1 = 0) : d.write k v = (0, d.step.2.put k v) := by
  unfold Dev.write
  rw [if_neg (by omega), if_neg (by omega), if_pos hs]
theorem dwrite_no (h0 : 0 ≤ k) (h1 : k < d.size) (hv : v.length = 512) (hs : d.step.1 ≠ 0) : d.write k v = d.step := by
  unfold Dev.write
  rw [if_neg (by omega), if_neg (by omega), if_neg hs]
theorem dput_now (j : Int) : (d.step.2.put k v).now j = if j = k then v else d.now j := by
  show (if j = k then v else d.step.2.now j) = _; rw [(step_maps d).1]
theorem dput_synced (j : Int) : (d.step.2.put k v).synced j = d.synced j := by show d.step.2.synced j = _; rw [(step_maps d).2.1]
theorem dsync_ok (hs : d.step.1 = 0) : d.sync.1 = 0 ∧ d.sync.2.now = d.now ∧ d.sync.2.size = d.size ∧ d.sync.2.down = false ∧ d.sync.2.armed = d.armed ∧ d.sync.2.left = d.step.2.left ∧ (∀ j, d.sync.2.chg j = false) := by
  unfold Dev.sync
  rw [if_pos hs]
  exact ⟨rfl, (step_maps d).1, step_size d, (step_ok hs).2.1, (step_ok hs).2.2.1, rfl, fun _ => rfl⟩
theorem dsync_synced {n : Nat} (ho : d.Ok n) (hs : d.step.1 = 0) (j : Int) : d.sync.2.synced j = d.now j := by
  unfold Dev.sync
  rw [if_pos hs]
  show (if d.step.2.chg j then d.step.2.now j else d.step.2.synced j) = _
  rw [(step_maps d).1, (step_maps d).2.1, (step_maps d).2.2]
  split
  · rfl
  · rename_i h; exact (ho.same j (by simpa using h)).symm
theorem dsync_no (hs : d.step.1 ≠ 0) : d.sync = d.step := by unfold Dev.sync; rw [if_neg hs]
theorem dcrash_now {n : Nat} (ho : d.Ok n) (keep : List Int) (j : Int) : (d.crash keep).now j = if j ∈ keep then d.now j else d.synced j := by
  show (if j ∈ d.unsynced ∧ j ∉ keep then d.synced j else d.now j) = _
  by_cases hk : j ∈ keep
  · rw [if_neg (fun e => e.2 hk), if_pos hk]
  · rw [if_neg hk]
    by_cases hu : j ∈ d.unsynced
    · rw [if_pos ⟨hu, hk⟩]
    · rw [if_neg (fun e => hu e.1)]
      refine ho.same j ?_
      cases e : d.chg j
      · rfl
      · exact absurd ((mem_unsynced ho).2 e) hu
theorem dcrash_synced {n : Nat} (ho : d.Ok n) (keep : List Int) (j : Int) : (d.crash keep).synced j = (d.crash keep).now j :=
  ((ho.crash keep).same j rfl).symm
theorem dcrash_live (keep : List Int) : Live (d.crash keep) ∧ (d.crash keep).size = d.size := ⟨⟨rfl, rfl⟩, rfl⟩
end
end Go.Proofs.Ytnficiohnhodiaa
