import Derived.Test.YtbaphjnglkocpaaDiskC
/-
  The device: its maps; settle.
-/
namespace Go.Proofs.Ytbaphjnglkocpaa
open Go.RowKit
open Go.ChangeMaps (setBlock)
def aput {α : Type} (l : List (Int × α)) (k : Int) (v : α) : List (Int × α) := if l.any (fun p => p.1 == k) then l.map (fun p => if p.1 = k then (k, v) else p) else l ++ [(k, v)]
def adel {α : Type} (l : List (Int × α)) (k : Int) : List (Int × α) := l.filter (fun p => !(p.1 == k))
theorem enc_get {α : Type} (f : α → Value) (l : List (Int × α)) (k : Int) : (enc f l).get k = (aget l k).map f := by
  unfold enc IM.get aget
  induction l with
  | nil => rfl
  | cons p l ih =>
    by_cases h : p.1 = k
    · rw [List.map_cons, List.find?_cons_of_pos (by simpa using h), List.find?_cons_of_pos (by simpa using h)]; rfl
    · rw [List.map_cons, List.find?_cons_of_neg (by simpa using h), List.find?_cons_of_neg (by simpa using h)]; exact ih
theorem enc_any {α : Type} (f : α → Value) (l : List (Int × α)) (k : Int) : (enc f l).any (fun p => p.1 == k) = l.any (fun p => p.1 == k) := by
  unfold enc; rw [List.any_map]; rfl
theorem enc_put {α : Type} (f : α → Value) (l : List (Int × α)) (k : Int) (v : α) : (enc f l).put k (f v) = enc f (aput l k v) := by
  unfold IM.put aput
  rw [enc_any]
  split
  · unfold enc; rw [List.map_map, List.map_map]; apply List.map_congr_left; intro p _
    by_cases h : p.1 = k <;> simp [h]
  · unfold enc; simp
theorem enc_del {α : Type} (f : α → Value) (l : List (Int × α)) (k : Int) : (enc f l).del k = enc f (adel l k) := by
  unfold IM.del adel enc
  rw [List.filter_map]; rfl
theorem aget_none {α : Type} {l : List (Int × α)} {k : Int} (h : k ∉ l.map (·.1)) : aget l k = none := by
  unfold aget
  rw [Option.map_eq_none_iff, List.find?_eq_none]
  intro q hq e
  exact h (List.mem_map.2 ⟨q, hq, by simpa using e⟩)
theorem aput_new {α : Type} {l : List (Int × α)} {k : Int} (v : α) (h : k ∉ l.map (·.1)) : aput l k v = l ++ [(k, v)] := by
  unfold aput
  rw [if_neg]
  rw [Bool.not_eq_true, List.any_eq_false]
  intro q hq e; exact h (List.mem_map.2 ⟨q, hq, by simpa using e⟩)
theorem aput_old {α : Type} {l : List (Int × α)} {k : Int} (v : α) (h : k ∈ l.map (·.1)) : aput l k v = l.map (fun p => if p.1 = k then (k, v) else p) := by
  unfold aput
  rw [if_pos]
  rw [List.any_eq_true]
  obtain ⟨q, hq, e⟩ := List.mem_map.1 h; exact ⟨q, hq, by simpa using e⟩
theorem aget_of_mem {α : Type} {l : List (Int × α)} {k : Int} {v : α} (hn : (l.map (·.1)).Nodup) (h : (k, v) ∈ l) : aget l k = some v := by
  unfold aget
  induction l with
  | nil => cases h
  | cons q l ih =>
    rw [List.map_cons, List.nodup_cons] at hn
    rcases List.mem_cons.1 h with rfl | h
    · rw [List.find?_cons_of_pos (by simp)]; rfl
    · have : q.1 ≠ k := fun e => hn.1 (e ▸ List.mem_map.2 ⟨(k, v), h, rfl⟩)
      rw [List.find?_cons_of_neg (by simpa using this)]; exact ih hn.2 h
theorem aget_isSome {α : Type} {l : List (Int × α)} {k : Int} (h : k ∈ l.map (·.1)) : ∃ v, aget l k = some v := by
  obtain ⟨q, hq, e⟩ := List.mem_map.1 h
  cases hx : aget l k with
  | some v => exact ⟨v, rfl⟩
  | none =>
    unfold aget at hx
    rw [Option.map_eq_none_iff, List.find?_eq_none] at hx
    exact absurd (by simpa using e) (hx q hq)
theorem mem_of_aget {α : Type} {l : List (Int × α)} {k : Int} {v : α} (h : aget l k = some v) : k ∈ l.map (·.1) := List.mem_map.2 ⟨_, aget_mem h, rfl⟩
theorem not_mem_of_aget {α : Type} {l : List (Int × α)} {k : Int} (h : aget l k = none) : k ∉ l.map (·.1) := fun hm => by obtain ⟨v, hv⟩ := aget_isSome hm; rw [h] at hv; cases hv
theorem aget_aput {α : Type} (l : List (Int × α)) (k j : Int) (v : α) : aget (aput l k v) j = if j = k then some v else aget l j := by
  by_cases hk : k ∈ l.map (·.1)
  · rw [aput_old v hk]
    induction l with
    | nil => simp at hk
    | cons q l ih =>
      unfold aget at ih ⊢
      rw [List.map_cons]
      by_cases hq : q.1 = k
      · rw [if_pos hq]
        by_cases hj : j = k
        · subst hj; rw [List.find?_cons_of_pos (by simp), if_pos rfl]; rfl
        · rw [List.find?_cons_of_neg (by simp; exact fun e => hj e.symm), List.find?_cons_of_neg (by rw [hq]; simp; exact fun e => hj e.symm), if_neg hj]
          by_cases hk2 : k ∈ l.map (·.1)
          · rw [ih hk2, if_neg hj]
          · congr 1
            have : l.map (fun p => if p.1 = k then (k, v) else p) = l := by
              conv => rhs; rw [← List.map_id l]
              apply List.map_congr_left
              intro p hp
              have : p.1 ≠ k := fun e => hk2 (List.mem_map.2 ⟨p, hp, e⟩)
              simp [this]
            rw [this]
      · rw [if_neg hq]
        have hk2 : k ∈ l.map (·.1) := by rw [List.map_cons, List.mem_cons] at hk; exact hk.resolve_left (fun e => hq e.symm)
        by_cases hj : q.1 = j
        · have : j ≠ k := fun e => hq (hj.trans e)
          rw [List.find?_cons_of_pos (by simpa using hj), List.find?_cons_of_pos (by simpa using hj), if_neg this]
        · rw [List.find?_cons_of_neg (by simpa using hj), List.find?_cons_of_neg (by simpa using hj)]; exact ih hk2
  · rw [aput_new v hk]
    unfold aget
    rw [List.find?_append]
    by_cases hj : j = k
    · subst hj
      have := aget_none hk
      unfold aget at this
      rw [Option.map_eq_none_iff] at this
      rw [this, if_pos rfl]; simp
    · rw [if_neg hj]
      have : List.find? (fun p : Int × α => p.1 == j) [(k, v)] = none := by rw [List.find?_cons_of_neg (by simp; exact fun e => hj e.symm)]; rfl
      rw [this]; simp
theorem infoS : (Try.prog.info? 109).map (fun i => (i.zero, i.size)) = some (some (secV blank), 512) := by kernel_rfl
theorem zeroS (w : World) : (zeroValue 109).run Try.prog w = .ok (secV blank) w := (zero_of_info infoS).1 w
section
variable {w : World} {p mn ms mc : Nat} {d : Dev} (h : DevAt w p mn ms mc d)
include h
theorem get_now (k : Int) : (Instr.lookup 99 (.map (some mn)) (.int .i64 k) false).run Try.prog w = .ok (secV (d.now k)) w := by
  obtain ⟨l, hl, hc⟩ := h.now
  have := run_lookup_im (P := Try.prog) Try.underlying99 Try.underlying3 hl (secV blank) (zeroS w) k false
  rw [this, enc_get, ← hc]
  cases aget l k <;> rfl
theorem get_synced (k : Int) : (Instr.lookup 99 (.map (some ms)) (.int .i64 k) false).run Try.prog w = .ok (secV (d.synced k)) w := by
  obtain ⟨l, hl, hc⟩ := h.synced
  have := run_lookup_im (P := Try.prog) Try.underlying99 Try.underlying3 hl (secV blank) (zeroS w) k false
  rw [this, enc_get, ← hc]
  cases aget l k <;> rfl
theorem put_now (k : Int) (v : List UInt8) : ∃ w', (Instr.mapUpdate 99 (.map (some mn)) (.int .i64 k) (secV v)).run Try.prog w = .ok () w' ∧ DevAt w' p mn ms mc { d with now := fun j => if j = k then v else d.now j } ∧ Keeps (· = mn) w w' ∧ w'.heap.size = w.heap.size := by
  have ha := h.apart
  simp only [List.nodup_cons, List.mem_cons, List.not_mem_nil, or_false, not_or] at ha
  obtain ⟨⟨n1, n2, n3⟩, ⟨n4, n5⟩, n6, _⟩ := ha
  obtain ⟨l1, a1, b1⟩ := h.now
  obtain ⟨l2, a2, b2⟩ := h.synced
  obtain ⟨l3, a3, b3⟩ := h.chg
  obtain ⟨w', r1, r2, r3, r4⟩ := run_mapUpdate_im (P := Try.prog) Try.underlying99 Try.underlying3 a1 k (secV v)
  rw [enc_put] at r2
  refine ⟨w', r1, ⟨r3.at h.self n1, ⟨_, r2, fun j => ?_⟩, ⟨l2, a2.keeps r3 (fun e => n4 e.symm), b2⟩, ⟨l3, a3.keeps r3 (fun e => n5 e.symm), b3⟩, h.apart⟩, r3, r4⟩
  rw [aget_aput]
  by_cases hj : j = k
  · simp [hj]
  · simp [hj, b1]
theorem put_synced (k : Int) (v : List UInt8) : ∃ w', (Instr.mapUpdate 99 (.map (some ms)) (.int .i64 k) (secV v)).run Try.prog w = .ok () w' ∧ DevAt w' p mn ms mc { d with synced := fun j => if j = k then v else d.synced j } ∧ Keeps (· = ms) w w' ∧ w'.heap.size = w.heap.size := by
  have ha := h.apart
  simp only [List.nodup_cons, List.mem_cons, List.not_mem_nil, or_false, not_or] at ha
  obtain ⟨⟨n1, n2, n3⟩, ⟨n4, n5⟩, n6, _⟩ := ha
  obtain ⟨l1, a1, b1⟩ := h.now
  obtain ⟨l2, a2, b2⟩ := h.synced
  obtain ⟨l3, a3, b3⟩ := h.chg
  obtain ⟨w', r1, r2, r3, r4⟩ := run_mapUpdate_im (P := Try.prog) Try.underlying99 Try.underlying3 a2 k (secV v)
  rw [enc_put] at r2
  refine ⟨w', r1, ⟨r3.at h.self n2, ⟨l1, a1.keeps r3 n4, b1⟩, ⟨_, r2, fun j => ?_⟩, ⟨l3, a3.keeps r3 (fun e => n6 e.symm), b3⟩, h.apart⟩, r3, r4⟩
  rw [aget_aput]
  by_cases hj : j = k
  · simp [hj]
  · simp [hj, b2]
theorem put_chg (k : Int) : ∃ w', (Instr.mapUpdate 91 (.map (some mc)) (.int .i64 k) (.int .i64 1)).run Try.prog w = .ok () w' ∧ DevAt w' p mn ms mc { d with chg := fun j => if j = k then true else d.chg j } ∧ Keeps (· = mc) w w' ∧ w'.heap.size = w.heap.size := by
  have ha := h.apart
  simp only [List.nodup_cons, List.mem_cons, List.not_mem_nil, or_false, not_or] at ha
  obtain ⟨⟨n1, n2, n3⟩, ⟨n4, n5⟩, n6, _⟩ := ha
  obtain ⟨l1, a1, b1⟩ := h.now
  obtain ⟨l2, a2, b2⟩ := h.synced
  obtain ⟨l3, a3, b3⟩ := h.chg
  obtain ⟨w', r1, r2, r3, r4⟩ := run_mapUpdate_im (P := Try.prog) Try.underlying91 Try.underlying3 a3 k (.int .i64 1)
  rw [enc_put (fun n : Int => Value.int .i64 n)] at r2
  refine ⟨w', r1, ⟨r3.at h.self n3, ⟨l1, a1.keeps r3 n5, b1⟩, ⟨l2, a2.keeps r3 n6, b2⟩, ⟨_, r2, fun j => ?_⟩, h.apart⟩, r3, r4⟩
  rw [aget_aput]
  by_cases hj : j = k
  · simp [hj]
  · simp [hj, b3]
end
theorem Dev.ext' {a b : Dev} (h1 : a.steps = b.steps) (h2 : a.syncs = b.syncs) (h3 : a.left = b.left) (h4 : a.armed = b.armed) (h5 : a.down = b.down) (h6 : a.size = b.size) (h7 : ∀ k, a.now k = b.now k) (h8 : ∀ k, a.synced k = b.synced k) (h9 : ∀ k, a.chg k = b.chg k) : a = b := by
  cases a; cases b
  simp only [Dev.mk.injEq]
  exact ⟨h1, h2, h3, h4, h5, h6, funext h7, funext h8, funext h9⟩
def Dev.settle (d : Dev) : Dev := { d with synced := fun k => if d.chg k then d.now k else d.synced k, chg := fun _ => false }
/-- part of it is done: what is still to come is T -/
def Dev.part (d : Dev) (T : List (Int × Int)) : Dev := { d with synced := fun k => if d.chg k = true ∧ k ∉ T.map (·.1) then d.now k else d.synced k }
end Go.Proofs.Ytbaphjnglkocpaa
