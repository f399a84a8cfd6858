import Derived.Test.YtnficiohnhodiaaLockS
/-
  Plain laws of the table of locks: what holds of it after any calls: its count, its modes, who stands beside whom.
-/
namespace Go.Proofs.Ytnficiohnhodiaa
open Go.RowKit
theorem aget_key {α : Type} {l : List (Int × α)} {k : Int} (h : aget l k = none) : k ∉ l.map (·.1) := not_mem_of_aget h
theorem aget_split {α : Type} {l : List (Int × α)} {k : Int} {v : α} (h : aget l k = some v) (nd : (l.map (·.1)).Nodup) :
    ∃ A B, l = A ++ (k, v) :: B ∧ ∀ v', aput l k v' = A ++ (k, v') :: B := by
  have hm := aget_mem h
  obtain ⟨A, B, rfl⟩ := List.append_of_mem hm
  simp only [List.map_append, List.map_cons, List.nodup_append, List.nodup_cons] at nd
  have hA : ∀ p ∈ A, p.1 ≠ k := fun p hp e => nd.2.2 p.1 (List.mem_map.2 ⟨p, hp, rfl⟩) k (by simp) e
  have hB : ∀ p ∈ B, p.1 ≠ k := fun p hp e => nd.2.1.1 (List.mem_map.2 ⟨p, hp, e⟩)
  refine ⟨A, B, rfl, fun v' => ?_⟩
  unfold aput
  rw [if_pos (by simp), List.map_append, List.map_cons]
  have e1 : A.map (fun p => if p.1 = k then (k, v') else p) = A := by
    conv => rhs; rw [← List.map_id A]
    exact List.map_congr_left fun p hp => by simp [hA p hp]
  have e2 : B.map (fun p => if p.1 = k then (k, v') else p) = B := by
    conv => rhs; rw [← List.map_id B]
    exact List.map_congr_left fun p hp => by simp [hB p hp]
  rw [e1, e2]; simp
theorem aput_nodup {α : Type} {l : List (Int × α)} {k : Int} (v : α) (nd : (l.map (·.1)).Nodup) : ((aput l k v).map (·.1)).Nodup := by
  cases h : aget l k with
  | none =>
    have hk := not_mem_of_aget h
    rw [aput_new v hk, List.map_append, List.nodup_append]
    exact ⟨nd, by simp, fun a ha b hb e => by simp at hb; subst hb; subst e; exact hk ha⟩
  | some u =>
    obtain ⟨A, B, rfl, hp⟩ := aget_split h nd
    rw [hp]; simpa using nd
theorem holders_set (t : LT) (txn page md : Int) (m : Nat) (p' : Int) : (t.set txn page md m).holders p' = if p' = page then aput (t.holders page) txn md else t.holders p' := by
  unfold LT.holders LT.set
  simp only [aget_aput]
  by_cases h : p' = page
  · subst h
    simp only [if_true, Option.map_some, Option.getD_some]
    cases aget t.pages p' with
    | none => rfl
    | some x => rfl
  · rw [if_neg h, if_neg h]
def LT.sum (t : LT) : Nat := (t.pages.map (fun x => x.2.2.length)).sum
structure LT.Good (t : LT) (n : Nat) : Prop where
  nd : (t.pages.map (·.1)).Nodup
  ne : ∀ x ∈ t.pages, x.2.2 ≠ []
  ndi : ∀ page, ((t.holders page).map (·.1)).Nodup
  modes : ∀ page, ∀ q ∈ t.holders page, 1 ≤ q.2 ∧ q.2 ≤ 3 ∧ wfI q.1
  cnt : t.count = t.sum
  le : t.count ≤ 256
  wts : t.waits.length ≤ n
  ok : ∀ page, ∀ q ∈ t.holders page, ∀ r ∈ t.holders page, q.1 ≠ r.1 → q.2 = r.2 ∧ q.2 ≠ 3
theorem len_le_sum {l : List Nat} {x : Nat} (h : x ∈ l) : x ≤ l.sum := by
  induction l with
  | nil => cases h
  | cons a l ih =>
    rw [List.sum_cons]
    rcases List.mem_cons.1 h with rfl | h
    · omega
    · have := ih h; omega
theorem length_le_sum {l : List Nat} (h : ∀ x ∈ l, 1 ≤ x) : l.length ≤ l.sum := by
  induction l with
  | nil => simp
  | cons a l ih =>
    rw [List.sum_cons, List.length_cons]
    have := h a (by simp)
    have := ih (fun x hx => h x (by simp [hx])); omega
theorem holders_mem {t : LT} (nd : (t.pages.map (·.1)).Nodup) {x : Int × (Nat × List (Int × Int))} (h : x ∈ t.pages) : t.holders x.1 = x.2.2 := by
  unfold LT.holders; rw [aget_of_mem nd (show (x.1, x.2) ∈ t.pages from h)]; rfl
theorem LT.Good.fit {t : LT} {n : Nat} (h : t.Good n) (hn : n ≤ 1000000) : t.fit := by
  have hs : t.sum ≤ 256 := by have := h.le; rw [h.cnt] at this; omega
  refine ⟨fun x hx => ?_, ?_, ?_, ?_, ?_⟩
  · have := len_le_sum (List.mem_map.2 ⟨x, hx, rfl⟩ : x.2.2.length ∈ t.pages.map (fun x => x.2.2.length))
    unfold LT.sum at hs; omega
  · have := h.wts; omega
  · have := length_le_sum (l := t.pages.map (fun x => x.2.2.length)) (fun y hy => by
      obtain ⟨x, hx, rfl⟩ := List.mem_map.1 hy
      have := List.length_pos_iff.2 (h.ne x hx); omega)
    rw [List.length_map] at this; unfold LT.sum at hs; omega
  · have := h.cnt; omega
  · have := h.le; omega
theorem LT.Good.wfs {t : LT} {n : Nat} (h : t.Good n) : ∀ x ∈ t.pages, ∀ q ∈ x.2.2, wfI q.1 := fun x hx q hq => (h.modes x.1 q (by rw [holders_mem h.nd hx]; exact hq)).2.2
theorem good_empty : LT.empty.Good 0 := ⟨by simp [LT.empty], by simp [LT.empty], fun p => by simp [LT.holders, LT.empty, aget], fun p => by simp [LT.holders, LT.empty, aget], rfl, by simp [LT.empty], by simp [LT.empty], fun p => by simp [LT.holders, LT.empty, aget]⟩
theorem LT.Good.unwait {t : LT} {n : Nat} (h : t.Good n) (txn : Int) : (t.unwait txn).Good n :=
  ⟨h.nd, h.ne, h.ndi, h.modes, h.cnt, h.le, Nat.le_trans (List.length_filter_le _ _) h.wts, h.ok⟩
theorem LT.Good.more {t : LT} {n m : Nat} (h : t.Good n) (hm : n ≤ m) : t.Good m := { h with wts := Nat.le_trans h.wts hm }
theorem aput_len {α : Type} {l : List (Int × α)} {k : Int} (v : α) (nd : (l.map (·.1)).Nodup) : (aput l k v).length = l.length + (match aget l k with | none => 1 | some _ => 0) := by
  cases h : aget l k with
  | none => rw [aput_new v (not_mem_of_aget h)]; simp
  | some u => obtain ⟨A, B, rfl, hp⟩ := aget_split h nd; rw [hp]; simp
theorem LT.Good.wait {t : LT} {n : Nat} (h : t.Good n) (nd : (t.waits.map (·.1)).Nodup) (txn : Int) (x : Want) : ({ t with waits := aput t.waits txn x } : LT).Good (n + 1) :=
  ⟨h.nd, h.ne, h.ndi, h.modes, h.cnt, h.le, by
    have := h.wts
    show (aput t.waits txn x).length ≤ _
    rw [aput_len x nd]; split <;> omega, h.ok⟩
theorem holds_zero {t : LT} {n : Nat} (h : t.Good n) (txn page : Int) : t.holds txn page = 0 ↔ aget (t.holders page) txn = none := by
  unfold LT.holds
  cases hx : aget (t.holders page) txn with
  | none => simp
  | some v =>
    have := (h.modes page _ (aget_mem hx)).1
    simp; simp at this; omega
theorem sum_set {t : LT} {n : Nat} (h : t.Good n) (txn page md : Int) (m : Nat) : (t.set txn page md m).sum = t.sum + (if t.holds txn page = 0 then 1 else 0) := by
  have hz := holds_zero h txn page
  have hi := h.ndi page
  unfold LT.sum LT.set
  simp only
  cases hx : aget t.pages page with
  | none =>
    have hh : t.holders page = [] := by unfold LT.holders; rw [hx]; rfl
    rw [hh] at hz
    rw [aput_new _ (not_mem_of_aget hx), if_pos (hz.2 rfl)]
    simp
  | some x =>
    have hh : t.holders page = x.2 := by unfold LT.holders; rw [hx]; rfl
    rw [hh] at hz hi
    obtain ⟨A, B, e, hp⟩ := aget_split hx h.nd
    rw [hp, e]
    simp only [List.map_append, List.map_cons, List.sum_append, List.sum_cons]
    rw [aput_len md hi]
    cases hy : aget x.2 txn with
    | none => rw [if_pos (hz.2 hy)]; simp only; omega
    | some v => rw [if_neg (fun e => by rw [hz.1 e] at hy; cases hy)]; simp only; omega
theorem LT.Good.set {t : LT} {n : Nat} (h : t.Good n) {txn page md : Int} (m : Nat) (h1 : 1 ≤ md) (h3 : md ≤ 3) (hw : wfI txn) (hos : t.others txn ⟨page, md⟩ = []) (hc : t.holds txn page = 0 → t.count < 256) : (t.set txn page md m).Good n := by
  have hle := h.le
  refine ⟨aput_nodup _ h.nd, fun x hx => ?_, fun p => ?_, fun p q hq => ?_, ?_, ?_, h.wts, fun p q hq r hr hne => ?_⟩
  · rcases mem_aput hx with rfl | ⟨hx, _⟩
    · cases hy : aget t.pages page with
      | none => simp
      | some y =>
        simp only
        intro e
        have hh : aget (aput y.2 txn md) txn = some md := by rw [aget_aput, if_pos rfl]
        rw [e] at hh; cases hh
    · exact h.ne x hx
  · rw [holders_set]; split
    · exact aput_nodup _ (h.ndi page)
    · exact h.ndi p
  · rw [holders_set] at hq; split at hq
    · rcases mem_aput hq with rfl | ⟨hq, _⟩
      · exact ⟨h1, h3, hw⟩
      · exact h.modes page q hq
    · exact h.modes p q hq
  · rw [sum_set h]; show t.count + _ = _; rw [h.cnt]; split <;> simp
  · show t.count + _ ≤ _
    split
    · have := hc ‹_›; omega
    · omega
  · have hal : ∀ q ∈ t.holders page, q.1 ≠ txn → q.2 = md ∧ md ≠ 3 := by
      intro q hq hne
      unfold LT.others oth at hos
      rw [List.map_eq_nil_iff, List.filter_eq_nil_iff] at hos
      have := hos q hq
      simp [hne, alongB] at this
      exact ⟨this.1, this.1 ▸ this.2⟩
    rw [holders_set] at hq hr
    split at hq
    · rw [if_pos ‹_›] at hr
      rcases mem_aput hq with rfl | ⟨hq, e1⟩
      · rcases mem_aput hr with rfl | ⟨hr, e2⟩
        · exact absurd rfl hne
        · have := hal r hr e2; exact ⟨this.1.symm, this.2⟩
      · rcases mem_aput hr with rfl | ⟨hr, e2⟩
        · have := hal q hq e1; exact ⟨this.1, this.1 ▸ this.2⟩
        · exact h.ok page q hq r hr hne
    · rw [if_neg ‹_›] at hr; exact h.ok p q hq r hr hne
end Go.Proofs.Ytnficiohnhodiaa
