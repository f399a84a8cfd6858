import Derived.Test.YtbaphjnglkocpaaJournH
/-
  A map's entry is deleted while the map is ranged over; a row of ints is cloned; the journal's Note and Get.
-/
namespace Go.Proofs.Ytbaphjnglkocpaa
open Go.RowKit
open Go.ChangeMaps (setBlock)
theorem filter_eraseIdx {α : Type} (L : List α) (P : α → Bool) (j : Nat) (x : α) (hx : L[j]? = some x) (hp : P x = false) : (L.eraseIdx j).filter P = L.filter P := by
  induction L generalizing j with
  | nil => cases hx
  | cons y L ih =>
    cases j with
    | zero => simp at hx; subst hx; rw [List.eraseIdx_cons_zero, List.filter_cons_of_neg (by simp [hp])]
    | succ j =>
      rw [List.eraseIdx_cons_succ]
      have := ih j (by simpa using hx)
      by_cases hy : P y = true
      · rw [List.filter_cons_of_pos hy, List.filter_cons_of_pos hy, this]
      · rw [List.filter_cons_of_neg hy, List.filter_cons_of_neg hy, this]
theorem run_delete_rng {P : Program} {T K E : TypeId} (hT : P.underlying T = some (.map K E)) (hK : P.underlying K = some (.int .i64)) {w : World} {it m : Nat} {l todo : IM} (h : Rng w it m l todo) (k : Int) (v : Value) (hk : (k, v) ∈ l) (hkt : ∀ p ∈ todo, p.1 ≠ k) (ty x : TypeId) :
    ∃ w', (Builtin.delete_ #[T, x] ty #[.map (some m), .int .i64 k]).run P w = .ok (.tuple #[]) w' ∧ Rng w' it m (l.del k) todo ∧ Keeps (· = m) w w' ∧ w'.heap.size = w.heap.size := by
  obtain ⟨es, c, s, se, c0, a, b, he, hb, hs, hsc, hl⟩ := h
  have hf := run_findKey hK w es c l k he
  cases hx : findIx l k 0 with
  | none => exact absurd rfl (findIx_none l k 0 hx _ hk)
  | some y =>
    obtain ⟨j, v0⟩ := y
    obtain ⟨_, hj2, hj3⟩ := findIx_lt l k 0 j v0 hx
    rw [Nat.sub_zero] at hj3
    have hlen : es.size = l.length := by have := congrArg List.length he.same; simpa using this
    have hjs : j < es.toList.length := by rw [Array.length_toList]; omega
    have hes : (es.eraseIdxIfInBounds j).toList = es.toList.eraseIdx j := by simp
    have hkey : (es.toList[j]'hjs).key = .int .i64 k := by
      have h1 := congrArg (fun L : List (Value × Value) => L[j]?) he.same
      simp only [List.getElem?_map, hj3, List.getElem?_eq_getElem hjs, Option.map_some, Option.some.injEq, Prod.mk.injEq] at h1
      exact h1.1
    have hE : Ents (es.eraseIdxIfInBounds j) c (l.del k) := by
      rw [del_eraseIdx l k j v0 he.keys hj3]
      refine ⟨?_, ?_, ?_, ?_⟩
      · rw [hes, ChangeMaps.map_eraseIdx, he.same, ChangeMaps.map_eraseIdx]
      · exact he.keys.sublist ((List.eraseIdx_sublist l j).map _)
      · rw [hes]; exact he.born.sublist ((List.eraseIdx_sublist es.toList j).map _)
      · intro e hm; rw [hes] at hm; exact he.late e (List.mem_of_mem_eraseIdx hm)
    have hrun : (Builtin.delete_ #[T, x] ty #[.map (some m), .int .i64 k]).run P w = .ok (.tuple #[]) (setBlock w m (.map (es.eraseIdxIfInBounds j) c)) := by
      unfold Builtin.delete_
      simp only [List.getElem?_toArray, List.getElem?_cons_zero, List.getElem?_cons_succ, run_underlying hT, Sem.run_bind, Result.andThen, getObj, Sem.run, b, run_checkKey hK]
      rw [hf, hx]
      simp [setObj, Sem.run, b, ChangeMaps.setBlock]
    have hit : it ≠ m := by intro e; rw [e, b] at a; cases a
    refine ⟨_, hrun, ⟨_, c, s, se, c0, (heap_setBlock_ne w m _ it hit).trans a, heap_setBlock w m _ _ b, hE, fun e hm => hb e (by rw [hes] at hm; exact List.mem_of_mem_eraseIdx hm), hs, hsc, ?_⟩, (Keeps.refl (· = m) w).setBlock (r := m) (.inl rfl) _, by simp [ChangeMaps.setBlock]⟩
    rw [← hl]
    congr 1
    unfold leftOf
    rw [Array.toList_filter, Array.toList_filter, hes]
    refine filter_eraseIdx _ _ j _ (List.getElem?_eq_getElem hjs) ?_
    cases hP : (!(se.contains (es.toList[j]'hjs).born)) with
    | false => rfl
    | true =>
      exfalso
      have hmem : (es.toList[j]'hjs) ∈ (leftOf es se).toList := by
        unfold leftOf; rw [Array.toList_filter, List.mem_filter]; exact ⟨List.getElem_mem hjs, hP⟩
      have h2 : ((es.toList[j]'hjs).key, (es.toList[j]'hjs).val) ∈ todo.map (fun p => (Value.int .i64 p.1, p.2)) := by rw [← hl]; exact List.mem_map.2 ⟨_, hmem, rfl⟩
      obtain ⟨p, hp, hpe⟩ := List.mem_map.1 h2
      have h3 := (Prod.mk.inj hpe).1
      rw [hkey] at h3
      exact hkt p hp (by cases h3; rfl)
theorem iclone_nil (w : World) (cap : Nat) : Calls Try.prog 56 #[.slice none 0 cap] w fun e w' => e = .returned (.slice none 0 0) ∧ w = w' := by
  have hq : (binOp .eql 32 (.slice none 0 cap) (.slice none 0 0)).run Try.prog w = .ok (.bool true) w := by kernel_rfl
  go_enter Try.func56, Try.ntmps56
  go_wp2
  go_ret
  exact ⟨rfl, rfl⟩
/-- a row of ints, wherever it begins, is cloned -/
theorem iclone_any {w : World} {a : Addr} {xs : List Int} {cap : Nat} (hc : ∀ j x, xs[j]? = some x → w.cell? (a.add j) = some (.int .i64 x)) (hl : xs.length ≤ 1000000000) :
    Calls Try.prog 56 #[.slice (some a) xs.length cap] w fun e w' => ∃ q c, e = .returned (.slice q xs.length c) ∧ SubRow w' w.heap.size (.slice q xs.length c) (intsV xs) ∧ Below w.heap.size w w' := by
  obtain ⟨i0, hi, hz0, hz1, hz2⟩ := info_parts infoI
  have hr0 : SubRow (w.alloc (.cells #[] 3)) w.heap.size (.slice (some ⟨w.heap.size, 0, none⟩) 0 0) [] := .inr ⟨w.heap.size, 0, 0, rfl, Nat.le_refl _, by simp, by simp, by simp, fun j hj => by omega, fun j u hu => by simp at hu⟩
  have hB : Below w.heap.size w (w.alloc (.cells #[] 3)) := (Below.refl _ w).alloc (Nat.le_refl _) _
  have hsrc : Src Try.prog 1 32 (.slice (some a) xs.length cap) (intsV xs).length (intsV xs) (w.alloc (.cells #[] 3)) := by
    rw [intsV_len]
    refine Src.ofSlice _ Try.underlying32 a xs.length cap _ (by rw [intsV_len]; omega) (fun j u hu => ?_) (fun u hu => by obtain ⟨x, _, rfl⟩ := List.mem_map.1 hu; rfl)
    unfold intsV at hu
    rw [List.getElem?_map] at hu
    obtain ⟨b, hb, rfl⟩ := Option.map_eq_some_iff.1 hu
    have := hc j b hb
    exact (hB.cell (p := a.add j) (World.block_lt_of_cell? w _ this)).trans this
  clear hc
  have hq : (binOp .eql 32 (.slice (some a) xs.length cap) (.slice none 0 0)).run Try.prog w = .ok (.bool false) w := by kernel_rfl
  have hlb := Lib.hid (intsV_len xs)
  go_enter Try.func56, Try.ntmps56
  go_wp2_with (at_builtin; refine wpList_append_sub _ rfl _ _ 32 rfl 3 i0 (.int .i64 0) 8 Try.underlying32 hi hz0 hz1 hz2 rfl w.heap.size _ [] rfl hr0 _ rfl _ hsrc (by rw [hlb.out]; simp; unfold maxLen; omega) (by rw [hlb.out]; simp; omega) (by simp) ?_; intro v' w7 h7 hk7 hn7)
  go_ret
  rw [List.nil_append] at h7
  obtain ⟨q, c, rfl, _⟩ := h7.form
  rw [intsV_len] at h7 ⊢
  refine ⟨q, c, rfl, h7, hB.trans (hk7.below (by simp) (fun k hk e => ?_))⟩
  have e' : some w.heap.size = some k := e
  cases e'; omega
section
variable {w0 w w' : World} {A : JAd} {m : JM} {d d' : Dev} {c c' : Nat}
theorem jnote_any (h : JB w0 w A d m c) : Calls Try.prog 43 #[.pointer (some ⟨A.j, 0, none⟩)] w fun e w' => ∃ q k, e = .returned (.slice q m.note.length k) ∧ SubRow w' w.heap.size (.slice q m.note.length k) (bytesV m.note) ∧ Below w.heap.size w w' := by
  have c12 := h.at_.cells.c12
  have hn := h.at_.note
  have hl := h.ok.nt
  obtain ⟨q, cap, e, h1, h2, _⟩ := id hn
  rw [e] at c12 hn
  have hcl := clone_len hn (by omega)
  clear h hn e
  go_enter Try.func43, Try.ntmps43
  go_wp2_with (go_at_call 55; (with_reducible refine hcl.mono ?_); rintro _ w1 ⟨q1, k1, rfl, s1, b1⟩)
  go_ret
  exact ⟨q1, k1, rfl, s1, b1⟩
/-- where a record stands -/
def JM.at0 (m : JM) (k : Nat) : Nat := m.pre.length + (recsB (m.recs.take k)).length
theorem JM.starts_at (m : JM) (k : Nat) (hk : k ≤ m.recs.length) : m.starts[k]? = some (m.base * 470 + m.at0 k) := by
  rw [JM.starts, startsOf_at _ _ _ hk]
  unfold JM.start JM.at0
  congr 1; omega
theorem JM.at0_succ (m : JM) (k : Nat) (r : List UInt8) (h : m.recs[k]? = some r) : m.at0 (k + 1) = m.at0 k + 2 + r.length := by
  unfold JM.at0
  rw [List.take_add_one, h, recsB_app]
  simp [recsB_one, recB_len]
  omega
theorem JM.stream_split (m : JM) (k : Nat) : m.stream = (m.pre ++ recsB (m.recs.take k)) ++ recsB (m.recs.drop k) := by
  unfold JM.stream
  rw [List.append_assoc, ← recsB_app, List.take_append_drop]
theorem JM.at0_le (m : JM) (k : Nat) : m.at0 k ≤ m.stream.length := by
  rw [m.stream_split k, List.length_append, List.length_append]
  unfold JM.at0; omega
theorem JM.rec_at (m : JM) (k : Nat) (r : List UInt8) (h : m.recs[k]? = some r) : (m.stream.drop (m.at0 k + 2)).take r.length = r := by
  have hk := (List.getElem?_eq_some_iff.1 h).1
  rw [m.stream_split k]
  have hl : (m.pre ++ recsB (m.recs.take k)).length = m.at0 k := by rw [List.length_append]; rfl
  rw [← hl, List.drop_append, List.drop_eq_nil_of_le (by omega), List.nil_append]
  rw [List.drop_eq_getElem_cons hk, (List.getElem?_eq_some_iff.1 h).2]
  rw [show (m.pre ++ recsB (m.recs.take k)).length + 2 - (m.pre ++ recsB (m.recs.take k)).length = 2 from by omega]
  show (((recB r) ++ recsB (m.recs.drop (k + 1))).drop 2).take r.length = r
  unfold recB
  simp
end
end Go.Proofs.Ytbaphjnglkocpaa
