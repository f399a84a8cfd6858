import Derived.Test.YtnficiohnhodiaaLockX
/-
  Plain laws of the table of locks: Take and Release keep what holds of it; there is never a circle of waits.
-/
namespace Go.Proofs.Ytnficiohnhodiaa
open Go.RowKit
theorem joinI_range {a b : Int} (h1 : 1 ≤ b) (h3 : b ≤ 3) : 1 ≤ joinI a b ∧ joinI a b ≤ 3 := by unfold joinI; split <;> omega
theorem LT.Good.take {t : LT} {n : Nat} (h : t.Good n) (nd : (t.waits.map (·.1)).Nodup) {txn : Int} (page mode : Int) (m : Nat) (hw : wfI txn) : (t.take txn page mode m).2.Good (n + 1) := by
  have hu := h.unwait txn
  have ndu : ((t.unwait txn).waits.map (·.1)).Nodup := adel_nodup _ _ nd
  unfold LT.take
  split
  · exact h.more (by omega)
  · have hj := joinI_range (a := (t.unwait txn).holds txn page) (b := mode) (by omega) (by omega)
    simp only []
    split
    · exact hu.more (by omega)
    · split
      · split
        · exact hu.more (by omega)
        · exact hu.wait ndu _ _
      · split
        · exact hu.more (by omega)
        · rename_i h1 h2 h3 h4
          exact (hu.set m hj.1 hj.2 hw (by simpa using h3) (fun e => by omega)).more (by omega)
theorem aget_adel {α : Type} (l : List (Int × α)) (k j : Int) : aget (adel l k) j = if j = k then none else aget l j := by
  unfold aget adel
  induction l with
  | nil => simp
  | cons p l ih =>
    by_cases hp : p.1 = k
    · rw [List.filter_cons_of_neg (by simpa using hp), ih]
      by_cases hj : j = k
      · rw [if_pos hj, if_pos hj]
      · rw [if_neg hj, if_neg hj, List.find?_cons_of_neg (by simp; omega)]
    · rw [List.filter_cons_of_pos (by simpa using hp)]
      by_cases hj : p.1 = j
      · rw [List.find?_cons_of_pos (by simpa using hj), if_neg (by omega), List.find?_cons_of_pos (by simpa using hj)]
      · rw [List.find?_cons_of_neg (by simpa using hj), List.find?_cons_of_neg (by simpa using hj)]; exact ih
theorem adel_absent {α : Type} {l : List (Int × α)} {k : Int} (h : aget l k = none) : adel l k = l := by
  have hk := not_mem_of_aget h
  unfold adel
  exact List.filter_eq_self.2 fun p hp => by
    have : p.1 ≠ k := fun e => hk (List.mem_map.2 ⟨p, hp, e⟩)
    simpa using this
theorem aget_filterMap {α : Type} (f : Int × α → Option (Int × α)) (hf : ∀ x y, f x = some y → y.1 = x.1) (l : List (Int × α)) (nd : (l.map (·.1)).Nodup) (k : Int) :
    aget (l.filterMap f) k = (aget l k).bind fun v => (f (k, v)).map (·.2) := by
  induction l with
  | nil => rfl
  | cons p l ih =>
    rw [List.map_cons, List.nodup_cons] at nd
    have ih := ih nd.2
    by_cases hp : p.1 = k
    · have e0 : aget (p :: l) k = some p.2 := by unfold aget; rw [List.find?_cons_of_pos (by simpa using hp)]; rfl
      have hl : k ∉ l.map (·.1) := hp ▸ nd.1
      have e1 : aget l k = none := aget_none hl
      rw [e0, Option.bind_some, show (k, p.2) = p from by rw [← hp]]
      rw [List.filterMap_cons]
      cases hfp : f p with
      | none => simp only; rw [ih, e1]; rfl
      | some y =>
        simp only
        have := hf p y hfp
        unfold aget; rw [List.find?_cons_of_pos (by simp; omega)]
    · have e0 : aget (p :: l) k = aget l k := by unfold aget; rw [List.find?_cons_of_neg (by simpa using hp)]
      rw [e0, ← ih, List.filterMap_cons]
      cases hfp : f p with
      | none => rfl
      | some y =>
        simp only
        have := hf p y hfp
        unfold aget; rw [List.find?_cons_of_neg (by simp; omega)]
theorem modeIn_zero {hs : List (Int × Int)} (hm : ∀ q ∈ hs, 1 ≤ q.2) (txn : Int) : modeIn hs txn = 0 ↔ aget hs txn = none := by
  unfold modeIn
  cases h : aget hs txn with
  | none => simp
  | some v => have := hm _ (aget_mem h); simp at this ⊢; omega
theorem holders_release {t : LT} {n : Nat} (h : t.Good n) (txn page : Int) : (t.release txn).holders page = adel (t.holders page) txn := by
  have hm := fun q hq => (h.modes page q hq).1
  unfold LT.holders LT.release at *
  simp only [aget_filterMap (proc txn) (fun x y e => (proc_key e).1) t.pages h.nd page]
  cases hx : aget t.pages page with
  | none => rfl
  | some x =>
    rw [hx] at hm
    simp only [Option.map_some, Option.getD_some, Option.bind_some] at hm ⊢
    unfold proc
    simp only
    split
    · rw [adel_absent ((modeIn_zero hm txn).1 ‹_›)]; rfl
    · split
      · rename_i e; rw [e]; rfl
      · rfl
theorem len_adel {hs : List (Int × Int)} {txn : Int} {v : Int} (nd : (hs.map (·.1)).Nodup) (h : aget hs txn = some v) : hs.length = (adel hs txn).length + 1 := by
  have := (perm_adel hs (txn, v) nd (aget_mem h)).length_eq; simpa using this
theorem sum_proc (txn : Int) (l : List Pg) (h : ∀ x ∈ l, (x.2.2.map (·.1)).Nodup ∧ ∀ q ∈ x.2.2, 1 ≤ q.2) :
    ((l.filterMap (proc txn)).map (fun x => x.2.2.length)).sum + (l.filter fun x => !(modeIn x.2.2 txn == 0)).length = (l.map (fun x => x.2.2.length)).sum := by
  induction l with
  | nil => rfl
  | cons x l ih =>
    have ih := ih fun y hy => h y (by simp [hy])
    obtain ⟨h1, h2⟩ := h x (by simp)
    rw [List.map_cons, List.sum_cons, List.filterMap_cons, List.filter_cons]
    by_cases hz : modeIn x.2.2 txn = 0
    · rw [if_neg (by simp [hz])]
      unfold proc; rw [if_pos hz]; simp only [List.map_cons, List.sum_cons]
      unfold proc at ih; omega
    · rw [if_pos (by simpa using hz)]
      cases hg : aget x.2.2 txn with
      | none => exact absurd ((modeIn_zero h2 txn).2 hg) hz
      | some v =>
        have hl := len_adel h1 hg
        have hp : proc txn x = if adel x.2.2 txn = [] then none else some (x.1, (x.2.1, adel x.2.2 txn)) := by unfold proc; rw [if_neg hz]
        rw [hp]
        split
        · rename_i e
          split at e
          · rename_i e'; rw [e'] at hl; simp only [List.length_cons, List.length_nil] at hl ⊢; omega
          · cases e
        · rename_i e
          split at e
          · cases e
          · cases e; simp only [List.map_cons, List.sum_cons, List.length_cons]; omega
theorem LT.Good.parts {t : LT} {n : Nat} (h : t.Good n) : ∀ x ∈ t.pages, (x.2.2.map (·.1)).Nodup ∧ ∀ q ∈ x.2.2, 1 ≤ q.2 := fun x hx => by
  have e := holders_mem h.nd hx
  exact ⟨e ▸ h.ndi x.1, fun q hq => (h.modes x.1 q (e ▸ hq)).1⟩
theorem sum_release {t : LT} {n : Nat} (h : t.Good n) (txn : Int) : (t.release txn).sum + t.locksOf txn = t.sum := sum_proc txn t.pages h.parts
theorem LT.Good.release {t : LT} {n : Nat} (h : t.Good n) (txn : Int) : (t.release txn).Good n := by
  have hs := sum_release h txn
  refine ⟨?_, fun x hx => ?_, fun p => ?_, fun p q hq => ?_, ?_, ?_, Nat.le_trans (List.length_filter_le _ _) h.wts, fun p q hq r hr hne => ?_⟩
  · have e : t.release txn = { pages := t.pages.filterMap (proc txn), waits := adel t.waits txn, count := t.count - t.locksOf txn } := rfl
    rw [e]
    have hk := curP_keys txn (t.pages.map (·.1)) t.pages h.nd
    have : curP txn (t.pages.map (·.1)) t.pages = t.pages.filterMap (proc txn) := fm_congr fun x hx => by rw [if_pos (List.mem_map.2 ⟨x, hx, rfl⟩)]
    rw [this] at hk; exact hk
  · obtain ⟨y, hy, e⟩ := List.mem_filterMap.1 hx
    unfold proc at e
    split at e
    · cases e; exact h.ne _ hy
    · split at e
      · cases e
      · cases e; assumption
  · rw [holders_release h]; exact adel_nodup _ _ (h.ndi p)
  · rw [holders_release h] at hq; exact h.modes p q (List.mem_filter.1 hq).1
  · show t.count - _ = _
    rw [h.cnt]; omega
  · show t.count - _ ≤ _
    have := h.le; omega
  · rw [holders_release h] at hq hr; exact h.ok p q (List.mem_filter.1 hq).1 r (List.mem_filter.1 hr).1 hne
theorem locks_pos {t : LT} {n : Nat} (h : t.Good n) {txn page : Int} (hx : txn ∈ (t.holders page).map (·.1)) : 1 ≤ t.locksOf txn := by
  have hs := sum_release h txn
  unfold LT.locksOf
  obtain ⟨v, hv⟩ := aget_isSome hx
  have hp : ∃ x, aget t.pages page = some x := by
    cases hq : aget t.pages page with
    | none => unfold LT.holders at hx; rw [hq] at hx; simp at hx
    | some x => exact ⟨x, rfl⟩
  obtain ⟨x, hq⟩ := hp
  have hh : t.holders page = x.2 := by unfold LT.holders; rw [hq]; rfl
  have hmem := aget_mem hq
  have : (page, x) ∈ t.pages.filter fun x => !(modeIn x.2.2 txn == 0) := by
    rw [List.mem_filter]; refine ⟨hmem, ?_⟩
    have := (modeIn_zero (h.parts _ hmem).2 txn)
    rw [hh] at hv
    simp only [Bool.not_eq_true', beq_eq_false_iff_ne, ne_eq]
    rw [this, hv]; simp
  exact List.length_pos_iff.2 (List.ne_nil_of_mem this)
theorem locks_le {t : LT} {n : Nat} (h : t.Good n) (txn : Int) : (t.locksOf txn : Int) ≤ t.count := by
  have hs := sum_release h txn; rw [h.cnt]; omega
theorem holds_release {t : LT} {n : Nat} (h : t.Good n) (txn page : Int) : (t.release txn).holds txn page = 0 := by
  unfold LT.holds; rw [holders_release h, aget_adel, if_pos rfl]; rfl
theorem wait_release (t : LT) (txn : Int) : (t.release txn).wait txn = [] := by
  unfold LT.wait LT.release; simp only [aget_adel, if_true]
end Go.Proofs.Ytnficiohnhodiaa
