import Derived.Test.YtnficiohnhodiaaLockM
namespace Go.Proofs.Ytnficiohnhodiaa
open Go.RowKit
open Go.ChangeMaps (setBlock)
theorem eraseIdx_filter {α β : Type} [DecidableEq β] (f : α → β) (L : List α) (j : Nat) (x : α) (hn : (L.map f).Nodup) (hj : L[j]? = some x) : L.eraseIdx j = L.filter (fun y => !(decide (f y = f x))) := by
  induction L generalizing j with
  | nil => cases hj
  | cons a L ih =>
    rw [List.map_cons, List.nodup_cons] at hn
    cases j with
    | zero =>
      simp at hj; subst hj
      rw [List.eraseIdx_cons_zero, List.filter_cons_of_neg (by simp), eq_comm, List.filter_eq_self]
      intro y hy
      have : f y ≠ f a := fun e => hn.1 (e ▸ List.mem_map.2 ⟨y, hy, rfl⟩)
      simpa using this
    | succ j =>
      simp at hj
      have hx : x ∈ L := List.mem_of_getElem? hj
      have : f a ≠ f x := fun e => hn.1 (e ▸ List.mem_map.2 ⟨x, hx, rfl⟩)
      rw [List.eraseIdx_cons_succ, List.filter_cons_of_pos (by simpa using this), ih j hn.2 hj]
section
variable {P : Program} {T K E : TypeId}
theorem run_delete_rng (hT : P.underlying T = some (.map K E)) (hK : P.underlying K = some (.int .i64)) {w : World} {it r : Nat} {l todo : IM} (h : Rng w it r l todo) (k : Int) (ty : TypeId) (x : TypeId) :
    ∃ w', (Builtin.delete_ #[T, x] ty #[.map (some r), .int .i64 k]).run P w = .ok (.tuple #[]) w' ∧ Rng w' it r (l.del k) (todo.del k) ∧ Keeps (· = r) w w' ∧ w'.heap.size = w.heap.size := by
  obtain ⟨es, c, s, se, c0, ha, h1, h2, hb, hs, hsc, hl⟩ := h
  have hir : it ≠ r := by intro e; rw [e, h1] at ha; cases ha
  have hf := run_findKey hK w es c l k h2
  have hlen : es.size = l.length := by have := congrArg List.length h2.same; simpa using this
  have hkn : (es.toList.map (·.key)).Nodup := by
    have h1 : es.toList.map (·.key) = l.map (fun p => Value.int .i64 p.1) := by
      have := congrArg (List.map Prod.fst) h2.same; simpa [List.map_map, Function.comp_def] using this
    rw [h1, show l.map (fun p => Value.int .i64 p.1) = (l.map (·.1)).map (Value.int .i64) from by simp [List.map_map]]
    exact nodup_map_inj _ (fun a b h => by cases h; rfl) h2.keys
  have hset : ∀ es', Ents es' c (l.del k) → (∀ x ∈ es'.toList, x.born < s) → (leftOf es' se).toList.map (fun e => (e.key, e.val)) = (todo.del k).map (fun p => (Value.int .i64 p.1, p.2)) →
      ∃ w', (do setObj r (.map es' c); pure (Value.tuple #[]) : Sem Value).run P w = .ok (.tuple #[]) w' ∧ Rng w' it r (l.del k) (todo.del k) ∧ Keeps (· = r) w w' ∧ w'.heap.size = w.heap.size := fun es' he hb' hl' =>
    ⟨ChangeMaps.setBlock w r (.map es' c), by simp [setObj, Sem.run, h1, ChangeMaps.setBlock], ⟨es', c, s, se, c0, (heap_setBlock_ne w r _ it hir).trans ha, heap_setBlock w r _ _ h1, he, hb', hs, hsc, hl'⟩, (Keeps.refl (· = r) w).setBlock (r := r) (.inl rfl) _, by simp [ChangeMaps.setBlock]⟩
  have hrun : (Builtin.delete_ #[T, x] ty #[.map (some r), .int .i64 k]).run P w = (match findIx l k 0 with
      | some (i, _) => (do setObj r (.map (es.eraseIdxIfInBounds i) c); pure (Value.tuple #[]) : Sem Value)
      | none => do setObj r (.map es c); pure (Value.tuple #[])).run P w := by
    unfold Builtin.delete_
    simp only [List.getElem?_toArray, List.getElem?_cons_zero, List.getElem?_cons_succ, run_underlying hT, Sem.run_bind, Result.andThen, getObj, Sem.run, h1, run_checkKey hK]
    rw [hf]
    cases findIx l k 0 with
    | none => simp
    | some p => cases p; simp
  rw [hrun]
  cases hx : findIx l k 0 with
  | none =>
    have hno := findIx_none l k 0 hx
    have htn : todo.del k = todo := by
      apply del_none
      intro q hq e
      have : (Value.int .i64 q.1, q.2) ∈ (leftOf es se).toList.map (fun e => (e.key, e.val)) := by rw [hl]; exact List.mem_map.2 ⟨q, hq, rfl⟩
      obtain ⟨y, hy, he⟩ := List.mem_map.1 this
      have hy2 : y ∈ es.toList := by unfold leftOf at hy; simp at hy ⊢; exact hy.1
      have : (y.key, y.val) ∈ l.map (fun p => (Value.int .i64 p.1, p.2)) := by rw [← h2.same]; exact List.mem_map.2 ⟨y, hy2, rfl⟩
      obtain ⟨z, hz, hze⟩ := List.mem_map.1 this
      have e1 : z.1 = q.1 := by have := (Prod.mk.inj (hze.trans he)).1; simpa using this
      exact hno z hz (e1.trans e)
    exact hset es (by rw [del_none l k hno]; exact h2) hb (by rw [htn]; exact hl)
  | some y =>
    obtain ⟨j, v0⟩ := y
    obtain ⟨_, hj2, hj3⟩ := findIx_lt l k 0 j v0 hx
    rw [Nat.sub_zero] at hj3
    have hes : (es.eraseIdxIfInBounds j).toList = es.toList.eraseIdx j := by simp
    have hej : ∃ e, es.toList[j]? = some e ∧ e.key = .int .i64 k := by
      have hj4 : (es.toList.map (fun e => (e.key, e.val)))[j]? = some (.int .i64 k, v0) := by rw [h2.same, List.getElem?_map, hj3]; rfl
      rw [List.getElem?_map] at hj4
      obtain ⟨e, he, hee⟩ := Option.map_eq_some_iff.1 hj4
      exact ⟨e, he, (Prod.mk.inj hee).1⟩
    obtain ⟨e, he1, he2⟩ := hej
    have hemem : e ∈ es.toList := List.mem_of_getElem? he1
    have hbn : (es.toList.map (·.born)).Nodup := h2.born.imp (fun h => Nat.ne_of_lt h)
    have hfil : es.toList.eraseIdx j = es.toList.filter (fun y => !(decide (y.born = e.born))) := eraseIdx_filter (fun y : MapEntry => y.born) es.toList j e hbn he1
    refine hset _ ⟨?_, ?_, ?_, ?_⟩ ?_ ?_
    · rw [hes, ChangeMaps.map_eraseIdx, h2.same, del_eraseIdx l k j v0 h2.keys hj3, ChangeMaps.map_eraseIdx]
    · rw [del_eraseIdx l k j v0 h2.keys hj3]; exact h2.keys.sublist ((List.eraseIdx_sublist l j).map _)
    · rw [hes]; exact h2.born.sublist ((List.eraseIdx_sublist es.toList j).map _)
    · intro e he; rw [hes] at he; exact h2.late e (List.mem_of_mem_eraseIdx he)
    · intro e he; rw [hes] at he; exact hb e (List.mem_of_mem_eraseIdx he)
    · have h3 : (leftOf (es.eraseIdxIfInBounds j) se).toList = (leftOf es se).toList.filter (fun y => !(decide (y.born = e.born))) := by
        unfold leftOf
        simp only [Array.toList_filter]
        rw [hes, hfil, List.filter_filter, List.filter_filter]
        apply List.filter_congr; intro y _; rw [Bool.and_comm]
      rw [h3]
      unfold IM.del
      rw [filter_map_pairs (leftOf es se).toList todo (fun y => !(decide (y.born = e.born))) (fun q => !(q.1 == k)) hl]
      intro y hy q hq
      have hy2 : y ∈ es.toList := by unfold leftOf at hy; simp at hy ⊢; exact hy.1
      have e1 : y.key = .int .i64 q.1 := (Prod.mk.inj hq).1
      have e2 : y.born = e.born ↔ q.1 = k := ⟨fun h => by have := nodup_inj hbn hy2 hemem h; subst this; rw [he2] at e1; cases e1; rfl, fun h => by rw [nodup_inj hkn hy2 hemem (by rw [e1, he2, h])]⟩
      rw [Bool.eq_iff_iff]; simp [e2]
end
end Go.Proofs.Ytnficiohnhodiaa
