import Derived.Test.YtnficiohnhodiaaRlkE
/-
  Both tables of locks say the same (plain).
-/
namespace Go.Proofs.Ytnficiohnhodiaa
open Go.RowKit
def SL (l : List Int) : Prop := l.Pairwise (· < ·)
theorem sl_ext {l r : List Int} (h1 : SL l) (h2 : SL r) (h : ∀ x, x ∈ l ↔ x ∈ r) : l = r := by
  induction l generalizing r with
  | nil =>
    cases r with
    | nil => rfl
    | cons y r => exact absurd ((h y).2 (by simp)) (by simp)
  | cons x l ih =>
    cases r with
    | nil => exact absurd ((h x).1 (by simp)) (by simp)
    | cons y r =>
      obtain ⟨a1, a2⟩ := List.pairwise_cons.1 h1
      obtain ⟨b1, b2⟩ := List.pairwise_cons.1 h2
      have hxy : x = y := by
        rcases List.mem_cons.1 ((h x).1 (by simp)) with e | e
        · exact e
        · rcases List.mem_cons.1 ((h y).2 (by simp)) with e2 | e2
          · exact e2.symm
          · have := b1 x e; have := a1 y e2; omega
      subst hxy
      refine congrArg (x :: ·) (ih a2 b2 (fun z => ?_))
      have hz := h z
      simp only [List.mem_cons] at hz
      constructor
      · intro hl
        rcases hz.1 (.inr hl) with e | e
        · subst e; exact absurd (a1 z hl) (Int.lt_irrefl _)
        · exact e
      · intro hr
        rcases hz.2 (.inr hr) with e | e
        · subst e; exact absurd (b1 z hr) (Int.lt_irrefl _)
        · exact e
theorem tw_mem {n x : Int} {l : List Int} (h : x ∈ l.takeWhile (fun x => !decide (n < x))) : x ≤ n := by
  induction l with
  | nil => simp at h
  | cons y l ih =>
    rw [List.takeWhile_cons] at h
    by_cases hy : n < y
    · simp [hy] at h
    · simp only [hy, decide_false, Bool.not_false, if_true, List.mem_cons] at h
      rcases h with rfl | h
      · omega
      · exact ih h
theorem dw_head {n : Int} {l : List Int} (hs : SL l) : ∀ x ∈ l.dropWhile (fun x => !decide (n < x)), n < x := by
  induction l with
  | nil => intro x hx; simp at hx
  | cons y l ih =>
    obtain ⟨a1, a2⟩ := List.pairwise_cons.1 hs
    intro x hx
    rw [List.dropWhile_cons] at hx
    by_cases hy : n < y
    · simp [hy] at hx
      rcases hx with rfl | hx
      · exact hy
      · have := a1 x hx; omega
    · simp [hy] at hx
      exact ih a2 x (by simpa using hx)
theorem sl_insertR {l : List Int} {n : Int} (h : SL l) : SL (insertR l n) := by
  unfold insertR
  split
  · exact h
  · rename_i hn
    have h2 := h
    unfold SL at h2
    rw [← tw_dw (fun x => !decide (n < x)) l, List.pairwise_append] at h2
    unfold insAt SL
    rw [List.pairwise_append]
    refine ⟨h2.1, List.pairwise_cons.2 ⟨dw_head h, h2.2.1⟩, fun a ha b hb => ?_⟩
    have h3 := tw_mem ha
    have h4 : a ≠ n := fun e => hn (by rw [← tw_dw (fun x => !decide (n < x)) l]; exact List.mem_append.2 (.inl (e ▸ ha)))
    rcases List.mem_cons.1 hb with rfl | hb
    · omega
    · exact h2.2.2 a ha b hb
theorem sl_foldR (p : Lk → Bool) (ls : List Lk) : SL (foldR p ls) :=
  foldR_ind p (fun _ o => SL o) ls List.Pairwise.nil (fun l y o h => by split; exact sl_insertR h; exact h)
theorem mem_sortI {l : List Int} {x : Int} : x ∈ sortI l ↔ x ∈ l := List.mem_mergeSort
theorem sl_sortI {l : List Int} (h : l.Nodup) : SL (sortI l) := by
  have h1 : (sortI l).Pairwise (fun x y => x ≤ y) := by
    have := List.pairwise_mergeSort (le := fun x y : Int => decide (x ≤ y)) (fun a b c h1 h2 => by simp at *; omega) (fun a b => by simp; omega) l
    exact this.imp (fun h => by simpa using h)
  have h2 : (sortI l).Nodup := (List.mergeSort_perm l _).nodup_iff.2 h
  exact (h1.and h2).imp (fun ⟨a, b⟩ => by omega)
/-- two tables that say the same -/
structure Sim (t : LT) (ls ws : List Lk) : Prop where
  at_ : ∀ page txn, aget (t.holders page) txn = (ls.find? fun x => x.txn == txn && x.page == page).map (·.mode)
  nd : ls.Pairwise (fun x y => ¬ (x.txn = y.txn ∧ x.page = y.page))
  cnt : t.count = ls.length
  wts : ∀ txn, aget t.waits txn = (ws.find? fun x => x.txn == txn).map fun x => (⟨x.page, x.mode⟩ : Want)
theorem Sim.empty : Sim LT.empty [] [] := ⟨fun _ _ => rfl, List.Pairwise.nil, rfl, fun _ => rfl⟩
theorem find_key {ls : List Lk} (nd : ls.Pairwise (fun x y => ¬ (x.txn = y.txn ∧ x.page = y.page))) {x : Lk} (hx : x ∈ ls) : (ls.find? fun y => y.txn == x.txn && y.page == x.page) = some x := by
  induction ls with
  | nil => simp at hx
  | cons y l ih =>
    obtain ⟨a1, a2⟩ := List.pairwise_cons.1 nd
    rcases List.mem_cons.1 hx with rfl | hx
    · rw [List.find?_cons_of_pos (by simp)]
    · have := a1 x hx
      rw [List.find?_cons_of_neg (by simpa using this)]
      exact ih a2 hx
theorem Sim.holds {t : LT} {ls ws : List Lk} (h : Sim t ls ws) (txn page : Int) : t.holds txn page = holdsR ls txn page := by unfold LT.holds holdsR; rw [h.at_]
theorem Sim.mem {t : LT} {ls ws : List Lk} {n : Nat} (h : Sim t ls ws) (g : t.Good n) (page txn m : Int) : (txn, m) ∈ t.holders page ↔ ∃ x ∈ ls, x.txn = txn ∧ x.page = page ∧ x.mode = m := by
  have hag : (txn, m) ∈ t.holders page ↔ aget (t.holders page) txn = some m := by
    constructor
    · exact fun e => aget_of_mem (g.ndi page) e
    · exact fun e => aget_mem e
  rw [hag, h.at_]
  constructor
  · intro e
    obtain ⟨x, hx, rfl⟩ := Option.map_eq_some_iff.1 e
    have := List.find?_some hx
    simp at this
    exact ⟨x, List.mem_of_find?_eq_some hx, this.1, this.2, rfl⟩
  · rintro ⟨x, hx, rfl, rfl, rfl⟩
    rw [find_key h.nd hx]; rfl
theorem along_same {a b : Int} (h1 : 1 ≤ a ∧ a ≤ 3) (h2 : 1 ≤ b ∧ b ≤ 3) : alongR a b = alongB a b := by
  rw [Bool.eq_iff_iff]
  unfold alongR alongB
  simp
  omega
theorem nodup_oth {txn md : Int} {l : List (Int × Int)} (h : (l.map (·.1)).Nodup) : (oth txn md l).Nodup := by
  unfold oth
  exact h.sublist (List.filter_sublist.map _)
theorem Sim.against {t : LT} {ls ws : List Lk} {n : Nat} (h : Sim t ls ws) (g : t.Good n) (txn page md : Int) (h1 : 1 ≤ md ∧ md ≤ 3) : againstR ls ⟨txn, page, md⟩ = sortI (t.others txn ⟨page, md⟩) := by
  refine sl_ext (sl_foldR _ _) (sl_sortI (nodup_oth (g.ndi page))) (fun x => ?_)
  unfold againstR
  rw [mem_foldR, mem_sortI]
  unfold LT.others
  rw [mem_oth]
  constructor
  · rintro ⟨y, hy, hp, rfl⟩
    unfold againstP at hp
    simp only [Bool.and_eq_true, beq_iff_eq, bne_iff_ne, Bool.not_eq_true'] at hp
    obtain ⟨hp1, hp2, hp3⟩ := hp
    have hm := (h.mem g page y.txn y.mode).2 ⟨y, hy, rfl, hp1, rfl⟩
    have hr := g.modes page _ hm
    exact ⟨y.mode, hm, hp2, by rw [← along_same ⟨hr.1, hr.2.1⟩ h1]; exact hp3⟩
  · rintro ⟨m, hm, hne, ha⟩
    obtain ⟨y, hy, rfl, hp, rfl⟩ := (h.mem g page x m).1 hm
    have hr := g.modes page _ hm
    refine ⟨y, hy, ?_, rfl⟩
    unfold againstP
    simp only [Bool.and_eq_true, beq_iff_eq, bne_iff_ne, Bool.not_eq_true']
    exact ⟨hp, hne, by rw [along_same ⟨hr.1, hr.2.1⟩ h1]; exact ha⟩
/-- a wait's mode is a mode -/
def WaitsOk (ws : List Lk) : Prop := ∀ x ∈ ws, 1 ≤ x.mode ∧ x.mode ≤ 3
theorem Sim.for' {t : LT} {ls ws : List Lk} {n : Nat} (h : Sim t ls ws) (g : t.Good n) (hw : WaitsOk ws) (txn : Int) : forR ls ws txn = sortI (t.wait txn) := by
  unfold forR LT.wait
  rw [h.wts]
  cases hf : ws.find? (fun x => x.txn == txn) with
  | none => show [] = sortI []; unfold sortI; simp
  | some x =>
    have ht := List.find?_some hf
    simp at ht
    obtain ⟨x1, x2, x3⟩ := x
    simp only at ht
    subst ht
    exact h.against g _ _ _ (hw _ (List.mem_of_find?_eq_some hf))
theorem Sim.reach {t : LT} {ls ws : List Lk} {n : Nat} (h : Sim t ls ws) (g : t.Good n) (hw : WaitsOk ws) (x y : Int) : RReach (forR ls ws) x y ↔ Reach t x y := by
  constructor
  · intro r
    induction r with
    | refl => exact .refl _
    | step a _ ih => rw [h.for' g hw, mem_sortI] at a; exact .step a ih
  · intro r
    induction r with
    | refl => exact .refl _
    | step a _ ih => exact .step (by rw [h.for' g hw, mem_sortI]; exact a) ih
theorem Sim.holders {t : LT} {ls ws : List Lk} {n : Nat} (h : Sim t ls ws) (g : t.Good n) (page : Int) : holdersR ls page = sortI ((t.holders page).map (·.1)) := by
  refine sl_ext (sl_foldR _ _) (sl_sortI (g.ndi page)) (fun x => ?_)
  unfold holdersR
  rw [mem_foldR, mem_sortI]
  constructor
  · rintro ⟨y, hy, hp, rfl⟩
    exact List.mem_map.2 ⟨_, (h.mem g page y.txn y.mode).2 ⟨y, hy, rfl, by simpa using hp, rfl⟩, rfl⟩
  · intro hx
    obtain ⟨⟨a, m⟩, hm, rfl⟩ := List.mem_map.1 hx
    obtain ⟨y, hy, rfl, hp, _⟩ := (h.mem g page a m).1 hm
    exact ⟨y, hy, by simpa using hp, rfl⟩
theorem find_forget (ws : List Lk) (txn j : Int) : (forgetR ws txn).find? (fun x => x.txn == j) = if j = txn then none else ws.find? (fun x => x.txn == j) := by
  unfold forgetR
  induction ws with
  | nil => simp
  | cons y l ih =>
    by_cases hy : y.txn = txn
    · rw [List.filter_cons_of_neg (by unfold keepP; simp [hy]), ih]
      split
      · rfl
      · rename_i hj
        rw [List.find?_cons_of_neg (by simp [hy]; exact fun e => hj e.symm)]
    · rw [List.filter_cons_of_pos (by unfold keepP; simp [hy])]
      by_cases hj : y.txn = j
      · rw [List.find?_cons_of_pos (by simp [hj]), if_neg (by omega), List.find?_cons_of_pos (by simp [hj])]
      · rw [List.find?_cons_of_neg (by simp [hj]), ih]
        split
        · rfl
        · rw [List.find?_cons_of_neg (by simp [hj])]
theorem Sim.unwait {t : LT} {ls ws : List Lk} (h : Sim t ls ws) (txn : Int) : Sim (t.unwait txn) ls (forgetR ws txn) :=
  ⟨h.at_, h.nd, h.cnt, fun j => by
    show aget (adel t.waits txn) j = _
    rw [aget_adel, find_forget, h.wts]
    split <;> rfl⟩
theorem find_setR (ls : List Lk) (t p m j q : Int) (hex : hasR ls t p = true) : ((setR ls t p m).find? fun x => x.txn == j && x.page == q).map (·.mode) = if j = t ∧ q = p then some m else (ls.find? fun x => x.txn == j && x.page == q).map (·.mode) := by
  induction ls with
  | nil => simp [hasR] at hex
  | cons y l ih =>
    unfold setR
    by_cases hy : y.txn = t ∧ y.page = p
    · rw [if_pos hy]
      by_cases hj : j = t ∧ q = p
      · rw [if_pos hj, List.find?_cons_of_pos (by simp [hy.1, hy.2, hj.1, hj.2])]; rfl
      · rw [if_neg hj]
        have : ¬ (y.txn = j ∧ y.page = q) := fun e => hj ⟨by omega, by omega⟩
        rw [List.find?_cons_of_neg (by simpa using this), List.find?_cons_of_neg (by simpa using this)]
    · rw [if_neg hy]
      have hex' : hasR l t p = true := by
        unfold hasR at hex ⊢
        rw [List.any_cons] at hex
        have : (y.txn == t && y.page == p) = false := by simpa using hy
        rw [this] at hex; simpa using hex
      by_cases hj : y.txn = j ∧ y.page = q
      · rw [List.find?_cons_of_pos (by simp [hj.1, hj.2]), List.find?_cons_of_pos (by simp [hj.1, hj.2]), if_neg (fun e => hy ⟨by omega, by omega⟩)]
      · rw [List.find?_cons_of_neg (by simpa using hj), List.find?_cons_of_neg (by simpa using hj)]
        exact ih hex'
theorem setR_len (ls : List Lk) (t p m : Int) : (setR ls t p m).length = ls.length := by
  induction ls with
  | nil => rfl
  | cons y l ih => unfold setR; split <;> simp [ih]
theorem mem_setR {ls : List Lk} {t p m : Int} {x : Lk} (h : x ∈ setR ls t p m) : ∃ y ∈ ls, y.txn = x.txn ∧ y.page = x.page := by
  induction ls with
  | nil => simp [setR] at h
  | cons y l ih =>
    unfold setR at h
    split at h
    · rcases List.mem_cons.1 h with rfl | h
      · exact ⟨y, by simp, rfl, rfl⟩
      · exact ⟨x, by simp [h], rfl, rfl⟩
    · rcases List.mem_cons.1 h with rfl | h
      · exact ⟨x, by simp, rfl, rfl⟩
      · obtain ⟨z, hz, h2⟩ := ih h; exact ⟨z, by simp [hz], h2⟩
theorem nd_setR {ls : List Lk} (t p m : Int) (h : ls.Pairwise (fun x y => ¬ (x.txn = y.txn ∧ x.page = y.page))) : (setR ls t p m).Pairwise (fun x y => ¬ (x.txn = y.txn ∧ x.page = y.page)) := by
  induction ls with
  | nil => exact List.Pairwise.nil
  | cons y l ih =>
    obtain ⟨a1, a2⟩ := List.pairwise_cons.1 h
    unfold setR
    split
    · exact List.pairwise_cons.2 ⟨fun z hz => a1 z hz, a2⟩
    · refine List.pairwise_cons.2 ⟨fun z hz e => ?_, ih a2⟩
      obtain ⟨u, hu, e1, e2⟩ := mem_setR hz
      exact a1 u hu ⟨by omega, by omega⟩
/-- a mode is set -/
theorem Sim.set {t : LT} {ls ws : List Lk} {n : Nat} (h : Sim t ls ws) (g : t.Good n) (txn page md : Int) (m : Nat) : Sim (t.set txn page md m) (if hasR ls txn page then setR ls txn page md else ls ++ [⟨txn, page, md⟩]) ws := by
  have hz := holds_zero g txn page
  have hat := h.at_ page txn
  cases hh : hasR ls txn page
  · have hnone : (ls.find? fun x => x.txn == txn && x.page == page) = none := by
      cases hf : ls.find? fun x => x.txn == txn && x.page == page with
      | none => rfl
      | some x =>
        have h1 := List.find?_some hf
        have : hasR ls txn page = true := List.any_eq_true.2 ⟨x, List.mem_of_find?_eq_some hf, h1⟩
        rw [hh] at this; cases this
    have h0 : t.holds txn page = 0 := hz.2 (by rw [hat, hnone]; rfl)
    refine ⟨fun q j => ?_, ?_, ?_, h.wts⟩
    · rw [holders_set]
      simp only [Bool.false_eq_true, if_false, List.find?_append]
      by_cases hq : q = page
      · subst hq
        rw [if_pos rfl, aget_aput]
        by_cases hj : j = txn
        · subst hj; rw [if_pos rfl, hnone]; simp
        · rw [if_neg hj, h.at_]
          have : ([(⟨txn, q, md⟩ : Lk)].find? fun x => x.txn == j && x.page == q) = none := by simp; exact fun e => absurd e.symm hj
          rw [this, Option.or_none]
      · rw [if_neg hq, h.at_]
        have : ([(⟨txn, page, md⟩ : Lk)].find? fun x => x.txn == j && x.page == q) = none := by simp; exact fun _ e => hq e.symm
        rw [this, Option.or_none]
    · simp only [Bool.false_eq_true, if_false]
      rw [List.pairwise_append]
      refine ⟨h.nd, List.pairwise_singleton _ _, fun x hx y hy e => ?_⟩
      obtain rfl := List.mem_singleton.1 hy
      have : hasR ls txn page = true := List.any_eq_true.2 ⟨x, hx, by simp [e.1, e.2]⟩
      rw [hh] at this; cases this
    · show t.count + _ = _
      rw [if_pos h0, h.cnt]; simp
  · have hne : t.holds txn page ≠ 0 := fun e => by
      have := hz.1 e
      rw [hat] at this
      have h2 : (ls.find? fun x => x.txn == txn && x.page == page) = none := by simpa using this
      obtain ⟨x, hx, hp⟩ := List.any_eq_true.1 hh
      exact absurd hp (by simpa using List.find?_eq_none.1 h2 x hx)
    refine ⟨fun q j => ?_, ?_, ?_, h.wts⟩
    · rw [holders_set]
      simp only [if_true]
      rw [find_setR _ _ _ _ _ _ hh]
      by_cases hq : q = page
      · subst hq
        rw [if_pos rfl, aget_aput]
        by_cases hj : j = txn
        · rw [if_pos hj, if_pos ⟨hj, rfl⟩]
        · rw [if_neg hj, if_neg (fun e => hj e.1), h.at_]
      · rw [if_neg hq, if_neg (fun e => hq e.2), h.at_]
    · simp only [if_true]; exact nd_setR _ _ _ h.nd
    · show t.count + _ = _
      rw [if_neg hne, h.cnt]; simp [setR_len]
theorem Sim.wait {t : LT} {ls ws : List Lk} (h : Sim t ls ws) (txn page md : Int) (hn : ws.find? (fun x => x.txn == txn) = none) : Sim { t with waits := aput t.waits txn ⟨page, md⟩ } ls (ws ++ [⟨txn, page, md⟩]) :=
  ⟨h.at_, h.nd, h.cnt, fun j => by
    show aget (aput t.waits txn ⟨page, md⟩) j = _
    rw [aget_aput, List.find?_append]
    by_cases hj : j = txn
    · subst hj; rw [if_pos rfl, hn]; simp
    · rw [if_neg hj, h.wts]
      have : ([(⟨txn, page, md⟩ : Lk)].find? fun x => x.txn == j) = none := by simp; exact fun e => hj e.symm
      rw [this, Option.or_none]⟩
end Go.Proofs.Ytnficiohnhodiaa
