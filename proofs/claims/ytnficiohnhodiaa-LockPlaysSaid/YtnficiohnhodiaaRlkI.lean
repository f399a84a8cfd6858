import Derived.Test.YtnficiohnhodiaaRlkH
/-
  Both tables of locks say the same behind Take and Release (plain).
-/
namespace Go.Proofs.Ytnficiohnhodiaa
open Go.RowKit
theorem forget_none (ws : List Lk) (txn : Int) : (forgetR ws txn).find? (fun x => x.txn == txn) = none := by rw [find_forget, if_pos rfl]
theorem WaitsOk.forget {ws : List Lk} (h : WaitsOk ws) (txn : Int) : WaitsOk (forgetR ws txn) := fun x hx => h x (List.mem_filter.1 hx).1
theorem join_md (has mode : Int) (h : 1 ≤ mode) : joinI has mode = if has ≠ 0 ∧ has ≠ mode then 3 else mode := by
  unfold joinI
  by_cases h1 : has = 0
  · rw [if_pos (.inl h1), if_neg (fun e => e.1 h1)]
  · by_cases h2 : has = mode
    · rw [if_pos (.inr h2), if_neg (fun e => e.2 h2)]
    · rw [if_neg (fun e => e.elim h1 h2), if_pos ⟨h1, h2⟩]
theorem sortI_nil {l : List Int} : sortI l = [] ↔ l = [] := by
  constructor
  · intro h
    have := sortI_length l
    rw [h] at this
    exact List.eq_nil_of_length_eq_zero this.symm
  · rintro rfl; unfold sortI; simp
theorem Sim.take {t : LT} {ls ws : List Lk} {n : Nat} (h : Sim t ls ws) (g : t.Good n) (hw : WaitsOk ws) (txn page mode : Int) (m : Nat) (cb : Bool)
    (hcb : ¬ (mode < 1 ∨ 3 < mode) → againstR ls ⟨txn, page, if holdsR ls txn page ≠ 0 ∧ holdsR ls txn page ≠ mode then 3 else mode⟩ ≠ [] → (cb = true ↔ ∃ o ∈ againstR ls ⟨txn, page, if holdsR ls txn page ≠ 0 ∧ holdsR ls txn page ≠ mode then 3 else mode⟩, RReach (forR ls (forgetR ws txn)) o txn)) :
    (t.take txn page mode m).1 = (takeR ls ws txn page mode cb).1 ∧ Sim (t.take txn page mode m).2 (takeR ls ws txn page mode cb).2.1 (takeR ls ws txn page mode cb).2.2 ∧ WaitsOk (takeR ls ws txn page mode cb).2.2 := by
  unfold LT.take takeR
  by_cases hm : mode < 1 ∨ 3 < mode
  · rw [if_pos hm, if_pos hm]; exact ⟨rfl, h, hw⟩
  · rw [if_neg hm, if_neg hm]
    have hcb := hcb hm
    have hu := h.unwait txn
    have gu := g.unwait txn
    have hwu := hw.forget txn
    have hh := hu.holds txn page
    simp only
    rw [hh, join_md _ _ (by omega)]
    generalize hmd : (if holdsR ls txn page ≠ 0 ∧ holdsR ls txn page ≠ mode then 3 else mode) = md at hcb ⊢
    have hmr : 1 ≤ md ∧ md ≤ 3 := by rw [← hmd]; split <;> omega
    by_cases he : md = holdsR ls txn page
    · rw [if_pos he, if_pos (show holdsR ls txn page = md from he.symm)]; exact ⟨rfl, hu, hwu⟩
    · rw [if_neg he, if_neg (show ¬ holdsR ls txn page = md from fun e => he e.symm)]
      have ha := hu.against gu txn page md hmr
      by_cases ho : (t.unwait txn).others txn ⟨page, md⟩ ≠ []
      · have ho2 : againstR ls ⟨txn, page, md⟩ ≠ [] := by rw [ha]; exact fun e => ho (sortI_nil.1 e)
        rw [if_pos ho, if_pos ho2]
        have hcb := hcb ho2
        have hex : (∃ o ∈ (t.unwait txn).others txn ⟨page, md⟩, Reach (t.unwait txn) o txn) ↔ cb = true := by
          rw [hcb, ha]
          constructor
          · rintro ⟨o, h1, h2⟩; exact ⟨o, mem_sortI.2 h1, (hu.reach gu hwu _ _).2 h2⟩
          · rintro ⟨o, h1, h2⟩; exact ⟨o, mem_sortI.1 h1, (hu.reach gu hwu _ _).1 h2⟩
        cases cb
        · rw [if_neg (fun e => by have := hex.1 e; cases this), if_neg (by simp)]
          refine ⟨rfl, hu.wait txn page md (forget_none ws txn), fun x hx => ?_⟩
          rcases List.mem_append.1 hx with hx | hx
          · exact hwu x hx
          · obtain rfl := List.mem_singleton.1 hx; exact hmr
        · rw [if_pos (hex.2 rfl), if_pos rfl]; exact ⟨rfl, hu, hwu⟩
      · have ho2 : ¬ againstR ls ⟨txn, page, md⟩ ≠ [] := fun e => e (by rw [ha]; exact sortI_nil.2 (Classical.not_not.1 ho))
        rw [if_neg ho, if_neg ho2]
        have hs := hu.set gu txn page md m
        have hz := holds_zero gu txn page
        have hcnt := hu.cnt
        rw [hh] at hz
        rw [hu.at_] at hz
        cases hr : hasR ls txn page
        · have hnone : (ls.find? fun x => x.txn == txn && x.page == page) = none := by
            cases hf : ls.find? fun x => x.txn == txn && x.page == page with
            | none => rfl
            | some x =>
              have : hasR ls txn page = true := by
                have h1 := List.find?_some hf
                exact List.any_eq_true.2 ⟨x, List.mem_of_find?_eq_some hf, h1⟩
              rw [hr] at this; cases this
          have h0 : holdsR ls txn page = 0 := hz.2 (by rw [hnone]; rfl)
          rw [hr, if_neg (by simp)] at hs
          by_cases hc : 256 ≤ ls.length
          · rw [if_pos (show holdsR ls txn page = 0 ∧ 256 ≤ (t.unwait txn).count from ⟨h0, by omega⟩), if_neg (show ¬ (false = true) from by simp), if_pos hc]; exact ⟨rfl, hu, hwu⟩
          · rw [if_neg (show ¬ (holdsR ls txn page = 0 ∧ 256 ≤ (t.unwait txn).count) from fun e => by have := e.2; omega), if_neg (show ¬ (false = true) from by simp), if_neg hc]; exact ⟨rfl, hs, hwu⟩
        · have hne : holdsR ls txn page ≠ 0 := fun e => by
            have h2 := hz.1 e
            have h3 : (ls.find? fun x => x.txn == txn && x.page == page) = none := by simpa using h2
            obtain ⟨x, hx, hp⟩ := List.any_eq_true.1 hr
            exact absurd hp (by simpa using List.find?_eq_none.1 h3 x hx)
          rw [hr, if_pos rfl] at hs
          rw [if_neg (show ¬ (holdsR ls txn page = 0 ∧ 256 ≤ (t.unwait txn).count) from fun e => hne e.1), if_pos (show true = true from rfl)]
          exact ⟨rfl, hs, hwu⟩
theorem filter_split (p : Lk → Bool) (ls : List Lk) : ls.length = (ls.filter p).length + (ls.filter fun x => !p x).length := by
  induction ls with
  | nil => rfl
  | cons x l ih => cases h : p x <;> simp [h] <;> omega
theorem Sim.count {t : LT} {ls ws : List Lk} {n : Nat} (h : Sim t ls ws) (g : t.Good n) (txn : Int) : t.locksOf txn = (ls.filter fun x => x.txn == txn).length := by
  have hm : ∀ page, page ∈ ((t.pages.filter fun x => !(modeIn x.2.2 txn == 0)).map (·.1)) ↔ page ∈ ((ls.filter fun x => x.txn == txn).map (·.page)) := by
    intro page
    constructor
    · intro hp
      obtain ⟨x, hx, rfl⟩ := List.mem_map.1 hp
      obtain ⟨hx1, hx2⟩ := List.mem_filter.1 hx
      have hho := holders_mem g.nd hx1
      have hmz := modeIn_zero (hs := x.2.2) (fun q hq => (g.modes x.1 q (by rw [hho]; exact hq)).1) txn
      have hne : aget x.2.2 txn ≠ none := fun e => by have := hmz.2 e; simp [this] at hx2
      obtain ⟨v, hv⟩ : ∃ v, aget x.2.2 txn = some v := by
        cases e : aget x.2.2 txn with
        | none => exact absurd e hne
        | some v => exact ⟨v, rfl⟩
      obtain ⟨y, hy, e1, e2, _⟩ := (h.mem g x.1 txn v).1 (by rw [hho]; exact aget_mem hv)
      exact List.mem_map.2 ⟨y, List.mem_filter.2 ⟨hy, by simp [e1]⟩, e2⟩
    · intro hp
      obtain ⟨y, hy, rfl⟩ := List.mem_map.1 hp
      obtain ⟨hy1, hy2⟩ := List.mem_filter.1 hy
      have hy2 : y.txn = txn := by simpa using hy2
      have hmem := (h.mem g y.page txn y.mode).2 ⟨y, hy1, hy2, rfl, rfl⟩
      have hpg : ∃ x, aget t.pages y.page = some x := by
        cases e : aget t.pages y.page with
        | none => unfold LT.holders at hmem; rw [e] at hmem; simp at hmem
        | some x => exact ⟨x, rfl⟩
      obtain ⟨x, hx⟩ := hpg
      have hxm := aget_mem hx
      have hho := holders_mem g.nd hxm
      simp only at hho
      refine List.mem_map.2 ⟨_, List.mem_filter.2 ⟨hxm, ?_⟩, rfl⟩
      have hmz := modeIn_zero (hs := x.2) (fun q hq => (g.modes y.page q (by rw [hho]; exact hq)).1) txn
      rw [hho] at hmem
      have hne : modeIn x.2 txn ≠ 0 := fun e => by
        have h2 := hmz.1 e
        exact not_mem_of_aget h2 (List.mem_map.2 ⟨_, hmem, rfl⟩)
      simpa using hne
  have n1 : ((t.pages.filter fun x => !(modeIn x.2.2 txn == 0)).map (·.1)).Nodup := g.nd.sublist (List.filter_sublist.map _)
  have n2 : ((ls.filter fun x => x.txn == txn).map (·.page)).Nodup := by
    have hnd : (ls.filter fun x => x.txn == txn).Pairwise (fun x y => ¬ (x.txn = y.txn ∧ x.page = y.page)) := h.nd.sublist List.filter_sublist
    unfold List.Nodup
    rw [List.pairwise_map]
    refine hnd.imp_of_mem (fun {x y} hx hy hxy e => hxy ⟨?_, e⟩)
    have h1 := (List.mem_filter.1 hx).2
    have h2 := (List.mem_filter.1 hy).2
    simp at h1 h2; omega
  have a := nodup_sub n1 (fun x hx => (hm x).1 hx)
  have b := nodup_sub n2 (fun x hx => (hm x).2 hx)
  rw [List.length_map, List.length_map] at a b
  unfold LT.locksOf
  omega
theorem Sim.release {t : LT} {ls ws : List Lk} {n : Nat} (h : Sim t ls ws) (g : t.Good n) (txn : Int) : Sim (t.release txn) (forgetR ls txn) (forgetR ws txn) ∧ (t.locksOf txn : Int) = (ls.length : Int) - ((forgetR ls txn).length : Int) := by
  have hc := h.count g txn
  have hsp := filter_split (fun x => x.txn == txn) ls
  have hlen : (t.locksOf txn : Int) = (ls.length : Int) - ((forgetR ls txn).length : Int) := by
    have : forgetR ls txn = ls.filter fun x => !(x.txn == txn) := rfl
    rw [this]; omega
  refine ⟨⟨fun page j => ?_, h.nd.sublist List.filter_sublist, ?_, fun j => ?_⟩, hlen⟩
  · rw [holders_release g, aget_adel, h.at_]
    by_cases hj : j = txn
    · subst hj
      rw [if_pos rfl]
      have : (forgetR ls j).find? (fun x => x.txn == j && x.page == page) = none := by
        rw [List.find?_eq_none]
        intro x hx
        have := (List.mem_filter.1 hx).2
        unfold keepP at this
        simp at this ⊢
        exact fun e => absurd e this
      rw [this]; rfl
    · rw [if_neg hj]
      congr 1
      unfold forgetR
      rw [List.find?_filter]
      congr 1
      funext x
      rw [Bool.eq_iff_iff]
      unfold keepP
      simp
      exact fun e _ => by omega
  · show t.count - _ = _
    rw [h.cnt]; omega
  · show aget (adel t.waits txn) j = _
    rw [aget_adel, find_forget, h.wts]
    split <;> rfl
end Go.Proofs.Ytnficiohnhodiaa
