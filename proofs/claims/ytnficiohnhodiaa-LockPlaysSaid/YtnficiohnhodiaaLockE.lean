import Derived.Test.YtnficiohnhodiaaLockD
namespace Go.Proofs.Ytnficiohnhodiaa
open Go.RowKit
open Go.ChangeMaps (setBlock)
/-! from one who waits to whom it waits for -/
inductive Reach (t : LT) : Int → Int → Prop where
  | refl (x : Int) : Reach t x x
  | step {x y z : Int} : y ∈ t.wait x → Reach t y z → Reach t x z
theorem Reach.trans {t : LT} {x y z : Int} (h : Reach t x y) (k : Reach t y z) : Reach t x z := by
  induction h with
  | refl => exact k
  | step a _ ih => exact .step a (ih k)
theorem Reach.snoc {t : LT} {x y z : Int} (h : Reach t x y) (k : z ∈ t.wait y) : Reach t x z := h.trans (.step k (.refl z))
structure Circ (t : LT) (txn : Int) (L0 S L : List Int) : Prop where
  not : ∀ s ∈ S, s ≠ txn
  next : ∀ s ∈ S, ∀ y ∈ t.wait s, y ∈ S ∨ y ∈ L
  all : ∀ x ∈ L0, x ∈ S ∨ x ∈ L
  from' : ∀ x ∈ L, ∃ o ∈ L0, Reach t o x
theorem Circ.start (t : LT) (txn : Int) (L0 : List Int) : Circ t txn L0 [] L0 := ⟨by simp, by simp, fun x h => .inr h, fun x h => ⟨x, h, .refl x⟩⟩
theorem Circ.seen {t : LT} {txn : Int} {L0 S L L' : List Int} {o : Int} (h : Circ t txn L0 S L) (ho : o ∈ S) (hL : ∀ x, x ∈ L ↔ x ∈ L' ∨ x = o) : Circ t txn L0 S L' := by
  have key : ∀ y, y ∈ S ∨ y ∈ L → y ∈ S ∨ y ∈ L' := by
    rintro y (hy | hy)
    · exact .inl hy
    · rcases (hL y).1 hy with h1 | rfl
      · exact .inr h1
      · exact .inl ho
  exact ⟨h.not, fun s hs y hy => key y (h.next s hs y hy), fun x hx => key x (h.all x hx), fun x hx => h.from' x ((hL x).2 (.inl hx))⟩
theorem Circ.new {t : LT} {txn : Int} {L0 S L L' : List Int} {o : Int} (h : Circ t txn L0 S L) (ho : o ≠ txn) (hL : ∀ x, x ∈ L ↔ x ∈ L' ∨ x = o) : Circ t txn L0 (S ++ [o]) (L' ++ sortI (t.wait o)) := by
  have hs : ∀ y, y ∈ sortI (t.wait o) ↔ y ∈ t.wait o := fun y => List.mem_mergeSort
  have key : ∀ y, y ∈ S ∨ y ∈ L → y ∈ S ++ [o] ∨ y ∈ L' ++ sortI (t.wait o) := by
    rintro y (hy | hy)
    · exact .inl (by simp [hy])
    · rcases (hL y).1 hy with h1 | rfl
      · exact .inr (by simp [h1])
      · exact .inl (by simp)
  refine ⟨?_, ?_, fun x hx => key x (h.all x hx), ?_⟩
  · intro s hs'
    rcases List.mem_append.1 hs' with h1 | h1
    · exact h.not s h1
    · simp at h1; subst h1; exact ho
  · intro s hs' y hy
    rcases List.mem_append.1 hs' with h1 | h1
    · exact key y (h.next s h1 y hy)
    · simp at h1; subst h1; exact .inr (List.mem_append.2 (.inr ((hs y).2 hy)))
  · intro x hx
    rcases List.mem_append.1 hx with h1 | h1
    · exact h.from' x ((hL x).2 (.inl h1))
    · obtain ⟨a, ha, hr⟩ := h.from' o ((hL o).2 (.inr rfl))
      exact ⟨a, ha, hr.snoc ((hs x).1 h1)⟩
theorem Circ.yes {t : LT} {txn : Int} {L0 S L : List Int} (h : Circ t txn L0 S L) (ho : txn ∈ L) : ∃ o ∈ L0, Reach t o txn := h.from' txn ho
theorem Circ.no {t : LT} {txn : Int} {L0 S : List Int} (h : Circ t txn L0 S []) : ¬ ∃ o ∈ L0, Reach t o txn := by
  rintro ⟨o, ho, hr⟩
  have h0 : o ∈ S := by rcases h.all o ho with h1 | h1; exact h1; cases h1
  have : ∀ x y, Reach t x y → x ∈ S → y ∈ S := by
    intro x y hr
    induction hr with
    | refl => exact id
    | step a _ ih => intro hx; refine ih ?_; rcases h.next _ hx _ a with h1 | h1; exact h1; cases h1
  exact h.not _ (this _ _ hr h0) rfl
/-- how many may still come -/
def potL (F : Int → Nat) (l : List (Int × Want)) (S : List Int) : Nat := ((l.filter fun q => decide (q.1 ∉ S)).map fun q => F q.1).sum
theorem potL_new (F : Int → Nat) (l : List (Int × Want)) (S : List Int) (o : Int) (hn : (l.map (·.1)).Nodup) (ho : o ∉ S) : potL F l S = potL F l (S ++ [o]) + (if o ∈ l.map (·.1) then F o else 0) := by
  induction l with
  | nil => rfl
  | cons q l ih =>
    rw [List.map_cons, List.nodup_cons] at hn
    have ih := ih hn.2
    unfold potL at ih ⊢
    by_cases h : q.1 = o
    · rw [if_neg (by rw [← h]; exact hn.1)] at ih
      rw [List.filter_cons_of_pos (by simp [h, ho]), List.filter_cons_of_neg (by simp [h]), if_pos (by simp [h]), List.map_cons, List.sum_cons, ih, h]; omega
    · have e : (if o ∈ List.map (fun x => x.1) (q :: l) then F o else 0) = (if o ∈ List.map (fun x => x.1) l then F o else 0) := by
        have : o ∈ List.map (fun x => x.1) (q :: l) ↔ o ∈ List.map (fun x => x.1) l := by rw [List.map_cons, List.mem_cons]; exact ⟨fun g => g.resolve_left (fun g => h g.symm), .inr⟩
        by_cases g : o ∈ List.map (fun x => x.1) l
        · rw [if_pos g, if_pos (this.2 g)]
        · rw [if_neg g, if_neg (fun g' => g (this.1 g'))]
      rw [e]
      by_cases hq : q.1 ∈ S
      · rw [List.filter_cons_of_neg (by simp [hq]), List.filter_cons_of_neg (by simp [hq]), ih]
      · rw [List.filter_cons_of_pos (by simp [hq]), List.filter_cons_of_pos (by simp [hq]; exact h), List.map_cons, List.map_cons, List.sum_cons, List.sum_cons, ih]; omega
def LT.pot (t : LT) (S : List Int) : Nat := potL (fun o => (t.wait o).length) t.waits S
theorem aget_none {α : Type} {l : List (Int × α)} {k : Int} (h : k ∉ l.map (·.1)) : aget l k = none := by
  unfold aget
  rw [Option.map_eq_none_iff, List.find?_eq_none]
  intro q hq e
  exact h (List.mem_map.2 ⟨q, hq, by simpa using e⟩)
theorem LT.pot_new {t : LT} {S : List Int} {o : Int} (hn : (t.waits.map (·.1)).Nodup) (ho : o ∉ S) : t.pot S = t.pot (S ++ [o]) + (t.wait o).length := by
  unfold LT.pot
  rw [potL_new _ _ _ o hn ho]
  split
  · rfl
  · rename_i h
    have : t.wait o = [] := by unfold LT.wait; rw [aget_none h]
    rw [this]; rfl
theorem sum_le (l : List Nat) (B : Nat) (h : ∀ x ∈ l, x ≤ B) : l.sum ≤ l.length * B := by
  induction l with
  | nil => simp
  | cons x l ih =>
    rw [List.sum_cons, List.length_cons, Nat.add_mul, Nat.one_mul]
    have := h x (by simp); have := ih (fun y hy => h y (by simp [hy])); omega
theorem LT.pot_le {t : LT} (h : t.small) (hw : t.waits.length ≤ 1000000) (S : List Int) : t.pot S ≤ 1000000 * 1000000 := by
  unfold LT.pot potL
  refine Nat.le_trans (sum_le _ 1000000 ?_) (Nat.mul_le_mul_right _ ?_)
  · intro x hx; obtain ⟨q, _, rfl⟩ := List.mem_map.1 hx; exact LT.wait_le h _
  · rw [List.length_map]; exact Nat.le_trans (List.length_filter_le _ _) hw
theorem LTAt.wkeys {w : World} {p mp mw : Nat} {t : LT} (h : LTAt w p mp mw t) : (t.waits.map (·.1)).Nodup := by
  obtain ⟨es, c, _, he⟩ := h.waits
  have := he.keys; unfold enc at this; simpa [List.map_map, Function.comp_def] using this
theorem LTAt.pkeys {w : World} {p mp mw : Nat} {t : LT} (h : LTAt w p mp mw t) : (t.pages.map (·.1)).Nodup := by
  obtain ⟨es, c, _, he⟩ := h.pages
  have := he.keys; unfold enc at this; simpa [List.map_map, Function.comp_def] using this
theorem LTAt.hkeys {w : World} {p mp mw : Nat} {t : LT} (h : LTAt w p mp mw t) : ∀ x ∈ t.pages, (x.2.2.map (·.1)).Nodup := by
  intro x hx
  obtain ⟨es, c, _, he⟩ := h.inner x hx
  have := he.keys; unfold enc at this; simpa [List.map_map, Function.comp_def] using this
/-- the map of those seen -/
def seenM (S : List Int) : IM := S.map fun k => (k, .int .i64 1)
theorem seenM_get (S : List Int) (o : Int) : (seenM S).get o = if o ∈ S then some (.int .i64 1) else none := by
  unfold seenM IM.get
  induction S with
  | nil => rfl
  | cons s S ih =>
    by_cases h : s = o
    · subst h; simp
    · rw [List.map_cons, List.find?_cons_of_neg (by simpa using h), ih]
      have : (o ∈ s :: S) ↔ o ∈ S := by rw [List.mem_cons]; exact ⟨fun g => g.resolve_left (fun g => h g.symm), .inr⟩
      by_cases g : o ∈ S
      · rw [if_pos g, if_pos (this.2 g)]
      · rw [if_neg g, if_neg (fun g' => g (this.1 g'))]
theorem seenM_put (S : List Int) (o : Int) (h : o ∉ S) : (seenM S).put o (.int .i64 1) = seenM (S ++ [o]) := by
  rw [put_new]
  · unfold seenM; simp
  · intro p hp; unfold seenM at hp; obtain ⟨s, hs, rfl⟩ := List.mem_map.1 hp; exact fun e => h (e ▸ hs)
end Go.Proofs.Ytnficiohnhodiaa
