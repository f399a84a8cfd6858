import Derived.Test.YtnficiohnhodiaaLow
import Derived.Test.YtnficiohnhodiaaRows
/-
  The table of locks: what it is, as lists; how it lies in memory; its small functions.
-/
namespace Go.Proofs.Ytnficiohnhodiaa
open Go.RowKit
open Go.ChangeMaps (setBlock)
/-! pairs with int keys -/
def aget {α : Type} (l : List (Int × α)) (k : Int) : Option α := (l.find? fun p => p.1 == k).map (·.2)
def aput {α : Type} (l : List (Int × α)) (k : Int) (v : α) : List (Int × α) := if l.any (fun p => p.1 == k) then l.map (fun p => if p.1 = k then (k, v) else p) else l ++ [(k, v)]
def adel {α : Type} (l : List (Int × α)) (k : Int) : List (Int × α) := l.filter (fun p => !(p.1 == k))
def enc {α : Type} (f : α → Value) (l : List (Int × α)) : IM := l.map fun p => (p.1, f p.2)
theorem enc_get {α : Type} (f : α → Value) (l : List (Int × α)) (k : Int) : (enc f l).get k = (aget l k).map f := by
  unfold enc IM.get aget
  induction l with
  | nil => rfl
  | cons p l ih =>
    by_cases h : p.1 = k
    · rw [List.map_cons, List.find?_cons_of_pos (by simpa using h), List.find?_cons_of_pos (by simpa using h)]; rfl
    · rw [List.map_cons, List.find?_cons_of_neg (by simpa using h), List.find?_cons_of_neg (by simpa using h)]; exact ih
theorem enc_any {α : Type} (f : α → Value) (l : List (Int × α)) (k : Int) : (enc f l).any (fun p => p.1 == k) = l.any (fun p => p.1 == k) := by
  unfold enc; rw [List.any_map]; rfl
theorem enc_put {α : Type} (f : α → Value) (l : List (Int × α)) (k : Int) (v : α) : (enc f l).put k (f v) = enc f (aput l k v) := by
  unfold IM.put aput
  rw [enc_any]
  split
  · unfold enc; rw [List.map_map, List.map_map]; apply List.map_congr_left; intro p _
    by_cases h : p.1 = k <;> simp [h]
  · unfold enc; simp
theorem enc_del {α : Type} (f : α → Value) (l : List (Int × α)) (k : Int) : (enc f l).del k = enc f (adel l k) := by
  unfold IM.del adel enc
  rw [List.filter_map]; rfl
/-! the table as lists -/
structure Want where
  page : Int
  mode : Int
structure LT where
  pages : List (Int × (Nat × List (Int × Int)))
  waits : List (Int × Want)
  count : Int
def Want.v (x : Want) : Value := .agg #[.int .i64 x.page, .int .i64 x.mode]
def LT.fp (t : LT) : List Nat := t.pages.map (·.2.1)
/-- a table that lies in the blocks p (itself), mp (its pages), mw (its waits), and one for each page -/
structure LTAt (w : World) (p mp mw : Nat) (t : LT) : Prop where
  self : w.heap[p]? = some (.cells #[.map (some mp), .map (some mw), .int .i64 t.count] 78 (0, 0))
  pages : IMap w mp (enc (fun x => .map (some x.1)) t.pages)
  waits : IMap w mw (enc Want.v t.waits)
  inner : ∀ x ∈ t.pages, IMap w x.2.1 (enc (fun m => .int .i64 m) x.2.2)
  apart : (p :: mp :: mw :: t.fp).Nodup
def LTFoot (p mp mw : Nat) (t : LT) (k : Nat) : Prop := k ∈ p :: mp :: mw :: t.fp
theorem LTAt.keeps {S : Nat → Prop} {w w' : World} {p mp mw : Nat} {t : LT} (h : LTAt w p mp mw t) (hk : Keeps S w w') (hs : ∀ k, LTFoot p mp mw t k → ¬ S k) : LTAt w' p mp mw t :=
  ⟨hk.at h.self (hs _ (by simp [LTFoot])), h.pages.keeps hk (hs _ (by simp [LTFoot])), h.waits.keeps hk (hs _ (by simp [LTFoot])),
   fun x hx => (h.inner x hx).keeps hk (hs _ (by unfold LTFoot LT.fp; simp only [List.mem_cons, List.mem_map]; exact .inr (.inr (.inr ⟨x, hx, rfl⟩)))), h.apart⟩
theorem LTAt.lt {w : World} {p mp mw : Nat} {t : LT} (h : LTAt w p mp mw t) : ∀ k, LTFoot p mp mw t k → k < w.heap.size := by
  intro k hk
  unfold LTFoot LT.fp at hk
  simp only [List.mem_cons, List.mem_map] at hk
  rcases hk with rfl | rfl | rfl | ⟨x, hx, rfl⟩
  · exact lt_of h.self
  · exact h.pages.lt
  · exact h.waits.lt
  · exact (h.inner x hx).lt
def alongB (a b : Int) : Bool := decide (a = b) && decide (a ≠ 3)
def joinI (a b : Int) : Int := if a = 0 ∨ a = b then b else 3
theorem along_any (a b : Int) (w : World) : Calls Try.prog 69 #[.int .i64 a, .int .i64 b] w fun e w' => e = .returned (.bool (alongB a b)) ∧ w = w' := by
  go_enter Try.func69, Try.ntmps69
  go_wp2
  all_goals (go_ret; exact ⟨ret_bool (by unfold alongB; simp_all <;> (rw [Bool.eq_iff_iff]; simp)), rfl⟩)
theorem join_any (a b : Int) (w : World) : Calls Try.prog 37 #[.int .i64 a, .int .i64 b] w fun e w' => e = .returned (.int .i64 (joinI a b)) ∧ w = w' := by
  go_enter Try.func37, Try.ntmps37
  go_wp2
  all_goals (go_ret; exact ⟨ret_int (by unfold joinI; simp_all), rfl⟩)
def LT.empty : LT := ⟨[], [], 0⟩
theorem new_any (w : World) : Calls Try.prog 7 #[] w fun e w' => ∃ p mp mw, e = .returned (.pointer (some ⟨p, 0, none⟩)) ∧ LTAt w' p mp mw LT.empty ∧ Below w.heap.size w w' ∧ ∀ k, LTFoot p mp mw LT.empty k → w.heap.size ≤ k := by
  have hmm := @run_makeMap Try.prog
  go_enter Try.func7, Try.ntmps7
  go_wp2
  go_ret
  refine ⟨w.heap.size + 1 + 1, w.heap.size, w.heap.size + 1, rfl, ⟨alloc_at _ _ _ (by simp), ?_, ?_, ?_, ?_⟩, (((Below.refl _ _).alloc (Nat.le_refl _) _).alloc (by simp) _).alloc (by simp; omega) _, ?_⟩
  · exact imap_nil (clock := 0) (at_alloc (at_alloc (heap_alloc_new w _) _) _)
  · exact imap_nil (clock := 0) (at_alloc (alloc_at _ _ _ (by simp)) _)
  · intro x hx; cases hx
  · simp [LT.fp, LT.empty]; omega
  · intro k hk; simp [LTFoot, LT.fp, LT.empty] at hk; omega
theorem len_any (w : World) (p mp mw : Nat) (t : LT) (h : LTAt w p mp mw t) : Calls Try.prog 13 #[.pointer (some ⟨p, 0, none⟩)] w fun e w' => e = .returned (.int .i64 t.count) ∧ w = w' := by
  have c2 := cell_in (o := 2) (u := .int .i64 t.count) h.self rfl
  clear h
  go_enter Try.func13, Try.ntmps13
  go_wp2
  go_ret
  exact ⟨rfl, rfl⟩
def LT.holders (t : LT) (page : Int) : List (Int × Int) := ((aget t.pages page).map (·.2)).getD []
def LT.holds (t : LT) (txn page : Int) : Int := (aget (t.holders page) txn).getD 0
theorem zmap (w : World) : (zeroValue 79).run Try.prog w = .ok (.map none) w := by kernel_rfl
theorem zint (w : World) : (zeroValue 3).run Try.prog w = .ok (.int .i64 0) w := by kernel_rfl
/-- 't.pages[page]', and what is looked up in it -/
theorem look_page {w : World} {p mp mw : Nat} {t : LT} (h : LTAt w p mp mw t) (page : Int) :
    ∃ m : Option Nat, (Instr.lookup 75 (.map (some mp)) (.int .i64 page) false).run Try.prog w = .ok (.map m) w ∧
      (match aget t.pages page with | none => m = none | some x => m = some x.1 ∧ IMap w x.1 (enc (fun m => .int .i64 m) x.2)) := by
  have hr := run_lookup_im (P := Try.prog) Try.underlying75 Try.underlying3 h.pages (.map none) (zmap w) page false
  rw [enc_get] at hr
  cases hx : aget t.pages page with
  | none => rw [hx] at hr; exact ⟨none, by simpa using hr, rfl⟩
  | some x =>
    rw [hx] at hr
    refine ⟨some x.1, by simpa using hr, rfl, ?_⟩
    unfold aget at hx
    obtain ⟨q, hq, e⟩ := Option.map_eq_some_iff.1 hx
    have := h.inner q (List.mem_of_find?_eq_some hq)
    rw [← e]; exact this
theorem look_holder {w : World} {t : LT} (page txn : Int) (m : Option Nat)
    (hm : match aget t.pages page with | none => m = none | some x => m = some x.1 ∧ IMap w x.1 (enc (fun m => .int .i64 m) x.2)) :
    (Instr.lookup 79 (.map m) (.int .i64 txn) false).run Try.prog w = .ok (.int .i64 (t.holds txn page)) w := by
  unfold LT.holds LT.holders
  cases hx : aget t.pages page with
  | none =>
    rw [hx] at hm; simp only at hm; subst hm
    have := run_lookup_im_nil (P := Try.prog) Try.underlying79 Try.underlying3 (.int .i64 0) (zint w) txn false
    simpa [aget] using this
  | some x =>
    rw [hx] at hm; obtain ⟨rfl, hi⟩ := hm
    have := run_lookup_im (P := Try.prog) Try.underlying79 Try.underlying3 hi (.int .i64 0) (zint w) txn false
    rw [enc_get] at this
    rw [this]
    simp only [Option.map_some, Option.getD_some]
    cases aget x.2 txn <;> rfl
theorem holds_any (w : World) (p mp mw : Nat) (t : LT) (txn page : Int) (h : LTAt w p mp mw t) : Calls Try.prog 14 #[.pointer (some ⟨p, 0, none⟩), .int .i64 txn, .int .i64 page] w fun e w' => e = .returned (.int .i64 (t.holds txn page)) ∧ w = w' := by
  have c0 := cell_in (o := 0) (u := .map (some mp)) h.self rfl
  obtain ⟨m, h1, h2⟩ := look_page h page
  have h3 := look_holder page txn m h2
  clear h h2
  go_enter Try.func14, Try.ntmps14
  go_wp2
  go_ret
  exact ⟨rfl, rfl⟩
end Go.Proofs.Ytnficiohnhodiaa
