import Derived.Test.YtmcooaoblpcoeaaDiskQ
/-
  DiskSynced, the plain law: sectors that are full of a byte each, what is there now and what was synced.
-/
namespace Go.Proofs.Ytmcooaoblpcoeaa
open Go.RowKit
theorem byteOf_256 (a b : Int) (h : a % 256 = b % 256) : byteOf a = byteOf b := by unfold byteOf; rw [h]
theorem fullB_256 (a b : Int) (h : a % 256 = b % 256) : fullB a = fullB b := by unfold fullB; rw [byteOf_256 a b h]
theorem blank_full : blank = fullB 0 := rfl
def upd (f : Nat → Int) (m : Nat) (x : Int) : Nat → Int := fun j => if j = m then x else f j
structure Syn (d : Dev) (f g : Nat → Int) : Prop where
  down : d.down = false
  armed : d.armed = false
  size : d.size = 16
  now : ∀ j : Nat, j < 16 → d.now j = fullB (f j)
  synced : ∀ j : Nat, j < 16 → d.synced j = fullB (g j)
theorem Syn.new : Syn (Dev.new 16) (fun _ => 0) (fun _ => 0) := ⟨rfl, rfl, rfl, fun _ _ => blank_full, fun _ _ => blank_full⟩
theorem Syn.step {d : Dev} {f g : Nat → Int} (h : Syn d f g) : d.step.1 = 0 ∧ Syn d.step.2 f g := by
  unfold Dev.step
  rw [if_neg (by simp [h.down, h.armed])]
  exact ⟨rfl, h.down, h.armed, h.size, h.now, h.synced⟩
theorem Syn.write {d : Dev} {f g : Nat → Int} (h : Syn d f g) (m : Nat) (hm : m < 16) (n x : Int) (hx : x % 256 = n % 256) : (d.write m (fullB n)).1 = 0 ∧ Syn (d.write m (fullB n)).2 (upd f m x) g := by
  obtain ⟨h1, h2⟩ := h.step
  have hs := h.size
  unfold Dev.write
  rw [if_neg (by omega), if_neg (by rw [fullB_len]; simp), if_pos h1]
  refine ⟨rfl, h2.down, h2.armed, h2.size, fun j hj => ?_, h2.synced⟩
  show (if (j : Int) = m then fullB n else d.step.2.now j) = fullB (if j = m then x else f j)
  by_cases e : j = m
  · subst e; rw [if_pos rfl, if_pos rfl]; exact (fullB_256 _ _ hx).symm
  · rw [if_neg (by omega), if_neg e]; exact h2.now j hj
theorem Syn.sync {d : Dev} {f g : Nat → Int} {n : Nat} (h : Syn d f g) (ho : d.Ok n) : d.sync.1 = 0 ∧ Syn d.sync.2 f f := by
  obtain ⟨h1, h2⟩ := h.step
  obtain ⟨e1, e2, e3⟩ := step_maps d
  unfold Dev.sync
  rw [if_pos h1]
  refine ⟨rfl, h2.down, h2.armed, h2.size, h2.now, fun j hj => ?_⟩
  show (if d.step.2.chg j then d.step.2.now j else d.step.2.synced j) = fullB (f j)
  split
  · exact h2.now j hj
  · rename_i hc
    rw [e3] at hc
    rw [e2, ← ho.same j (by simpa using hc)]; exact h.now j hj
def ends (f g : Nat → Int) (keep : List Int) (j : Nat) : Int := if (j : Int) ∈ keep then f j else g j
theorem Syn.crash {d : Dev} {f g : Nat → Int} {n : Nat} (h : Syn d f g) (ho : d.Ok n) (keep : List Int) : (d.crash keep).down = false ∧ (d.crash keep).size = 16 ∧ (∀ j : Nat, j < 16 → (d.crash keep).now j = fullB (ends f g keep j)) ∧ (d.crash keep).unsynced = [] := by
  refine ⟨rfl, h.size, fun j hj => ?_, ?_⟩
  · show (if (j : Int) ∈ d.unsynced ∧ (j : Int) ∉ keep then d.synced j else d.now j) = fullB (ends f g keep j)
    unfold ends
    by_cases hk : (j : Int) ∈ keep
    · rw [if_neg (fun e => e.2 hk), if_pos hk]; exact h.now j hj
    · rw [if_neg hk]
      by_cases hu : (j : Int) ∈ d.unsynced
      · rw [if_pos ⟨hu, hk⟩]; exact h.synced j hj
      · rw [if_neg (fun e => hu e.1)]
        have hc : d.chg j = false := by
          cases e : d.chg j
          · rfl
          · exact absurd ((mem_unsynced ho).2 e) hu
        rw [ho.same j hc]; exact h.synced j hj
  · refine List.eq_nil_iff_forall_not_mem.2 fun k hk => ?_
    have := (mem_unsynced (ho.crash keep)).1 hk
    cases this
/-- what the inner loop over keep has found behind k of its numbers -/
theorem ends_take (f g : Nat → Int) (keep : List Int) (j k : Nat) (x : Int) (hx : keep[k]? = some x) : ends f g (keep.take (k + 1)) j = if x = (j : Int) then f j else ends f g (keep.take k) j := by
  unfold ends
  rw [List.take_add_one, hx]
  simp only [Option.toList_some, List.mem_append, List.mem_singleton]
  by_cases e : x = (j : Int)
  · subst e; simp
  · rw [if_neg e]
    have e2 : ¬ (j : Int) = x := fun h => e h.symm
    simp only [e2, or_false]
/-- the array of sixteen -/
def arr16 (f : Nat → Int) : List Value := (List.range 16).map fun j => .int .i64 (f j)
theorem arr16_len (f : Nat → Int) : (arr16 f).length = 16 := by simp [arr16]
theorem arr16_zero : arr16 (fun _ => 0) = List.replicate 16 (.int .i64 0) := rfl
theorem arr16_at (f : Nat → Int) (j : Nat) (h : j < 16) : (arr16 f)[j]? = some (.int .i64 (f j)) := by
  unfold arr16; rw [List.getElem?_map, List.getElem?_range h]; rfl
theorem arr16_set (f : Nat → Int) (m : Nat) (x : Int) : (arr16 f).set m (.int .i64 x) = arr16 (upd f m x) := by
  apply List.ext_getElem?
  intro i
  by_cases hi : i < 16
  · rw [List.getElem?_set, arr16_at _ _ hi, arr16_at _ _ hi, arr16_len]
    by_cases e : m = i
    · subst e; rw [if_pos rfl, if_pos hi]; simp [upd]
    · rw [if_neg e]; simp only [upd]; rw [if_neg (fun h => e h.symm)]
  · rw [List.getElem?_eq_none (by simp [arr16_len]; omega), List.getElem?_eq_none (by simp [arr16_len]; omega)]
end Go.Proofs.Ytmcooaoblpcoeaa
