import Derived.Test.YtnficiohnhodiaaLockH
namespace Go.Proofs.Ytnficiohnhodiaa
open Go.RowKit
open Go.ChangeMaps (setBlock)
theorem aput_new {α : Type} {l : List (Int × α)} {k : Int} (v : α) (h : k ∉ l.map (·.1)) : aput l k v = l ++ [(k, v)] := by
  unfold aput
  rw [if_neg]
  rw [Bool.not_eq_true, List.any_eq_false]
  intro q hq e; exact h (List.mem_map.2 ⟨q, hq, by simpa using e⟩)
theorem aput_old {α : Type} {l : List (Int × α)} {k : Int} (v : α) (h : k ∈ l.map (·.1)) : aput l k v = l.map (fun p => if p.1 = k then (k, v) else p) := by
  unfold aput
  rw [if_pos]
  rw [List.any_eq_true]
  obtain ⟨q, hq, e⟩ := List.mem_map.1 h; exact ⟨q, hq, by simpa using e⟩
theorem aget_of_mem {α : Type} {l : List (Int × α)} {k : Int} {v : α} (hn : (l.map (·.1)).Nodup) (h : (k, v) ∈ l) : aget l k = some v := by
  unfold aget
  induction l with
  | nil => cases h
  | cons q l ih =>
    rw [List.map_cons, List.nodup_cons] at hn
    rcases List.mem_cons.1 h with rfl | h
    · rw [List.find?_cons_of_pos (by simp)]; rfl
    · have : q.1 ≠ k := fun e => hn.1 (e ▸ List.mem_map.2 ⟨(k, v), h, rfl⟩)
      rw [List.find?_cons_of_neg (by simpa using this)]; exact ih hn.2 h
theorem aget_isSome {α : Type} {l : List (Int × α)} {k : Int} (h : k ∈ l.map (·.1)) : ∃ v, aget l k = some v := by
  obtain ⟨q, hq, e⟩ := List.mem_map.1 h
  cases hx : aget l k with
  | some v => exact ⟨v, rfl⟩
  | none =>
    unfold aget at hx
    rw [Option.map_eq_none_iff, List.find?_eq_none] at hx
    exact absurd (by simpa using e) (hx q hq)
theorem mem_of_aget {α : Type} {l : List (Int × α)} {k : Int} {v : α} (h : aget l k = some v) : k ∈ l.map (·.1) := List.mem_map.2 ⟨_, aget_mem h, rfl⟩
theorem not_mem_of_aget {α : Type} {l : List (Int × α)} {k : Int} (h : aget l k = none) : k ∉ l.map (·.1) := fun hm => by obtain ⟨v, hv⟩ := aget_isSome hm; rw [h] at hv; cases hv
theorem aget_aput {α : Type} (l : List (Int × α)) (k j : Int) (v : α) : aget (aput l k v) j = if j = k then some v else aget l j := by
  by_cases hk : k ∈ l.map (·.1)
  · rw [aput_old v hk]
    induction l with
    | nil => simp at hk
    | cons q l ih =>
      unfold aget at ih ⊢
      rw [List.map_cons]
      by_cases hq : q.1 = k
      · rw [if_pos hq]
        by_cases hj : j = k
        · subst hj; rw [List.find?_cons_of_pos (by simp), if_pos rfl]; rfl
        · rw [List.find?_cons_of_neg (by simp; exact fun e => hj e.symm), List.find?_cons_of_neg (by rw [hq]; simp; exact fun e => hj e.symm), if_neg hj]
          by_cases hk2 : k ∈ l.map (·.1)
          · rw [ih hk2, if_neg hj]
          · congr 1
            have : l.map (fun p => if p.1 = k then (k, v) else p) = l := by
              conv => rhs; rw [← List.map_id l]
              apply List.map_congr_left
              intro p hp
              have : p.1 ≠ k := fun e => hk2 (List.mem_map.2 ⟨p, hp, e⟩)
              simp [this]
            rw [this]
      · rw [if_neg hq]
        have hk2 : k ∈ l.map (·.1) := by rw [List.map_cons, List.mem_cons] at hk; exact hk.resolve_left (fun e => hq e.symm)
        by_cases hj : q.1 = j
        · have : j ≠ k := fun e => hq (hj.trans e)
          rw [List.find?_cons_of_pos (by simpa using hj), List.find?_cons_of_pos (by simpa using hj), if_neg this]
        · rw [List.find?_cons_of_neg (by simpa using hj), List.find?_cons_of_neg (by simpa using hj)]; exact ih hk2
  · rw [aput_new v hk]
    unfold aget
    rw [List.find?_append]
    by_cases hj : j = k
    · subst hj
      have := aget_none hk
      unfold aget at this
      rw [Option.map_eq_none_iff] at this
      rw [this, if_pos rfl]; simp
    · rw [if_neg hj]
      have : List.find? (fun p : Int × α => p.1 == j) [(k, v)] = none := by rw [List.find?_cons_of_neg (by simp; exact fun e => hj e.symm)]; rfl
      rw [this]; simp
theorem aput_aput {α : Type} (l : List (Int × α)) (k : Int) (u v : α) : aput (aput l k u) k v = aput l k v := by
  have hm : k ∈ (aput l k u).map (·.1) := by have := aget_aput l k k u; rw [if_pos rfl] at this; exact mem_of_aget this
  rw [aput_old v hm]
  by_cases hk : k ∈ l.map (·.1)
  · rw [aput_old u hk, aput_old v hk, List.map_map]
    apply List.map_congr_left; intro p _
    by_cases h : p.1 = k <;> simp [h]
  · rw [aput_new u hk, aput_new v hk, List.map_append]
    congr 1
    · conv => rhs; rw [← List.map_id l]
      apply List.map_congr_left; intro p hp
      have : p.1 ≠ k := fun e => hk (List.mem_map.2 ⟨p, hp, e⟩)
      simp [this]
    · simp
theorem mem_aput {α : Type} {l : List (Int × α)} {k : Int} {v : α} {x : Int × α} (h : x ∈ aput l k v) : x = (k, v) ∨ (x ∈ l ∧ x.1 ≠ k) := by
  by_cases hk : k ∈ l.map (·.1)
  · rw [aput_old v hk] at h
    obtain ⟨q, hq, e⟩ := List.mem_map.1 h
    by_cases hqk : q.1 = k
    · rw [if_pos hqk] at e; exact .inl e.symm
    · rw [if_neg hqk] at e; subst e; exact .inr ⟨hq, hqk⟩
  · rw [aput_new v hk] at h
    rcases List.mem_append.1 h with h | h
    · exact .inr ⟨h, fun e => hk (List.mem_map.2 ⟨x, h, e⟩)⟩
    · simp at h; exact .inl h
theorem LTAt.ne {w : World} {p mp mw : Nat} {t : LT} (h : LTAt w p mp mw t) : p ≠ mp ∧ p ≠ mw ∧ mp ≠ mw ∧ (∀ x ∈ t.pages, x.2.1 ≠ p ∧ x.2.1 ≠ mp ∧ x.2.1 ≠ mw) ∧ t.fp.Nodup := by
  have ha := h.apart
  simp only [List.nodup_cons, List.mem_cons, not_or] at ha
  refine ⟨ha.1.1, ha.1.2.1, ha.2.1.1, fun x hx => ⟨?_, ?_, ?_⟩, ha.2.2.2⟩
  · exact fun e => ha.1.2.2 (e ▸ List.mem_map.2 ⟨x, hx, rfl⟩)
  · exact fun e => ha.2.1.2 (e ▸ List.mem_map.2 ⟨x, hx, rfl⟩)
  · exact fun e => ha.2.2.1 (e ▸ List.mem_map.2 ⟨x, hx, rfl⟩)
theorem LTAt.setCount {w : World} {p mp mw : Nat} {t : LT} (h : LTAt w p mp mw t) (c : Int) : LTAt (w.setCell ⟨p, 2, none⟩ (.int .i64 c)) p mp mw { t with count := c } := by
  obtain ⟨n1, n2, n3, n4, n5⟩ := h.ne
  have hk : Keeps (· = p) w (w.setCell ⟨p, 2, none⟩ (.int .i64 c)) := (Keeps.refl (· = p) w).setCell (p := ⟨p, 2, none⟩) (.inl rfl) _
  refine ⟨?_, h.pages.keeps hk (Ne.symm n1), h.waits.keeps hk (Ne.symm n2), fun x hx => (h.inner x hx).keeps hk (n4 x hx).1, h.apart⟩
  have := heap_setCell w p 2 (.int .i64 c) _ _ _ h.self
  simpa using this
theorem LTAt.newPage {w w' : World} {p mp mw : Nat} {t : LT} (h : LTAt w p mp mw t) {page : Int} (hp : aget t.pages page = none) (hm : IMap w' mp ((enc (fun x : Nat × List (Int × Int) => .map (some x.1)) t.pages).put page (.map (some w.heap.size)))) (hk : Keeps (· = mp) (w.alloc (.map #[] 0)) w') :
    LTAt w' p mp mw { t with pages := aput t.pages page (w.heap.size, []) } := by
  obtain ⟨n1, n2, n3, n4, n5⟩ := h.ne
  have hA : LTAt (w.alloc (.map #[] 0)) p mp mw t := h.keeps ((Keeps.refl (fun _ => False) w).alloc _) (fun _ _ hf => hf)
  have hlt := h.lt
  have e := enc_put (fun x : Nat × List (Int × Int) => .map (some x.1)) t.pages page (w.heap.size, [])
  simp only at e
  rw [e] at hm
  refine ⟨hk.at hA.self n1, hm, hA.waits.keeps hk (Ne.symm n3), ?_, ?_⟩
  · intro x hx
    rcases mem_aput hx with rfl | ⟨hx, _⟩
    · have : (w.alloc (.map #[] 0)).heap[w.heap.size]? = some (.map #[] 0) := heap_alloc_new _ _
      exact imap_nil (clock := 0) (hk.at this (fun (e : w.heap.size = mp) => by have := hlt mp (by simp [LTFoot]); omega))
    · exact (hA.inner x hx).keeps hk (n4 x hx).2.1
  · have hfp : LT.fp { t with pages := aput t.pages page (w.heap.size, []) } = t.fp ++ [w.heap.size] := by
      unfold LT.fp; simp only; rw [aput_new _ (not_mem_of_aget hp), List.map_append]; rfl
    have hnew : w.heap.size ∉ p :: mp :: mw :: t.fp := fun hm => by have := hlt _ hm; omega
    rw [hfp, show p :: mp :: mw :: (t.fp ++ [w.heap.size]) = (p :: mp :: mw :: t.fp) ++ [w.heap.size] from rfl, List.nodup_append]
    refine ⟨h.apart, by simp, ?_⟩
    intro a ha b hb e
    simp at hb; subst hb; subst e; exact hnew ha
theorem LTAt.setHolder {w w' : World} {p mp mw : Nat} {t : LT} (h : LTAt w p mp mw t) {page : Int} {m : Nat} {hs hs' : List (Int × Int)} (hp : aget t.pages page = some (m, hs)) (hm : IMap w' m (enc (fun m => .int .i64 m) hs')) (hk : Keeps (· = m) w w') :
    LTAt w' p mp mw { t with pages := aput t.pages page (m, hs') } := by
  obtain ⟨n1, n2, n3, n4, n5⟩ := h.ne
  have hmem := aget_mem hp
  obtain ⟨m1, m2, m3⟩ := n4 _ hmem
  have hpk := h.pkeys
  have hin : page ∈ t.pages.map (·.1) := mem_of_aget hp
  have hold : ∀ x ∈ t.pages, x.1 = page → x = (page, (m, hs)) := fun x hx e => nodup_inj hpk hx hmem e
  have hfp : (aput t.pages page (m, hs')).map (fun x => x.2.1) = t.pages.map (fun x => x.2.1) := by
    rw [aput_old _ hin, List.map_map]
    apply List.map_congr_left; intro x hx
    by_cases e : x.1 = page
    · rw [hold x hx e]; simp
    · simp [e]
  have henc : enc (fun x : Nat × List (Int × Int) => Value.map (some x.1)) (aput t.pages page (m, hs')) = enc (fun x => .map (some x.1)) t.pages := by
    unfold enc
    rw [aput_old _ hin, List.map_map]
    apply List.map_congr_left; intro x hx
    by_cases e : x.1 = page
    · rw [hold x hx e]; simp
    · simp [e]
  refine ⟨hk.at h.self (Ne.symm m1), ?_, h.waits.keeps hk (Ne.symm m3), ?_, ?_⟩
  · simp only; rw [henc]; exact h.pages.keeps hk (Ne.symm m2)
  · intro x hx
    rcases mem_aput hx with rfl | ⟨hx, hne⟩
    · exact hm
    · refine (h.inner x hx).keeps hk ?_
      intro e
      have : x = (page, (m, hs)) := nodup_inj (f := fun x : Int × (Nat × List (Int × Int)) => x.2.1) n5 hx hmem e
      exact hne (by rw [this])
  · unfold LT.fp; simp only; rw [hfp]; exact h.apart
theorem foot_aput {p mp mw : Nat} {t t' : LT} {page : Int} {m : Nat} {l : List (Int × Int)} (h : t'.pages = aput t.pages page (m, l)) (k : Nat) (hk : LTFoot p mp mw t' k) : LTFoot p mp mw t k ∨ k = m := by
  unfold LTFoot LT.fp at hk ⊢
  rw [h] at hk
  simp only [List.mem_cons, List.mem_map] at hk ⊢
  rcases hk with rfl | rfl | rfl | ⟨x, hx, rfl⟩
  · simp
  · simp
  · simp
  · rcases mem_aput hx with rfl | ⟨hx, _⟩
    · exact .inr rfl
    · exact .inl (.inr (.inr (.inr ⟨x, hx, rfl⟩)))
end Go.Proofs.Ytnficiohnhodiaa
