import Derived.Test.YtnficiohnhodiaaLockC
namespace Go.Proofs.Ytnficiohnhodiaa
open Go.RowKit
open Go.ChangeMaps (setBlock)
set_option maxRecDepth 100000 in
set_option maxHeartbeats 2000000 in
theorem against_none (w : World) (p mp mw : Nat) (t : LT) (txn : Int) (x : Want) (h : LTAt w p mp mw t) (hm : aget t.pages x.page = none) :
    Calls Try.prog 38 #[.pointer (some ⟨p, 0, none⟩), .int .i64 txn, x.v] w fun e w' => e = .returned (.slice none 0 0) ∧ Below w.heap.size w w' := by
  obtain ⟨pg, md⟩ := x
  unfold Want.v
  have h' : LTAt (w.alloc (.cells #[.int .i64 pg, .int .i64 md] 85)) p mp mw t := h.keeps (Keeps.of_below (S := fun _ => False) ((Below.refl _ _).alloc (Nat.le_refl _) _)) (fun _ _ hf => hf)
  have hw5 : (w.alloc (.cells #[.int .i64 pg, .int .i64 md] 85)).heap[w.heap.size]? = some (.cells #[.int .i64 pg, .int .i64 md] 85 (0, 0)) := heap_alloc_new _ _
  have hB : Below w.heap.size w (w.alloc (.cells #[.int .i64 pg, .int .i64 md] 85)) := (Below.refl _ _).alloc (Nat.le_refl _) _
  have hsz : (w.alloc (.cells #[.int .i64 pg, .int .i64 md] 85)).heap.size = w.heap.size + 1 := by simp
  simp only at hm
  go_enter Try.func38, Try.ntmps38
  go_wp2
  generalize w.alloc (.cells #[.int .i64 pg, .int .i64 md] 85) = W at h' hw5 hB hsz ⊢
  refine wp_region_still_tail 7 (by kernel_rfl) (by kernel_rfl) ?_
  simp only [List.take_succ_cons, List.take_zero, List.drop_succ_cons, List.drop_zero]
  change wpStill _ _ W.drew (fun a' => wpList _ _ _ _ a' W.drew) _ _
  have h2 : LTAt W.drew p mp mw t := h'.keeps ((Keeps.refl (fun _ => False) W).drew) (fun _ _ hf => hf)
  have hB2 : Below w.heap.size w W.drew := hB.drew
  have hsz2 : W.drew.heap.size = w.heap.size + 1 := hsz
  have hw52 : W.drew.heap[w.heap.size]? = some (.cells #[.int .i64 pg, .int .i64 md] 85 (0, 0)) := hw5
  generalize W.drew = W2 at h2 hB2 hsz2 hw52 ⊢
  clear h' hw5 hB hsz
  have c0 := cell_in (o := 0) (u := .map (some mp)) h2.self rfl
  have c5 := cell_in (o := 0) (u := .int .i64 pg) hw52 rfl
  obtain ⟨m', l1, l2⟩ := look_page h2 pg
  rw [hm] at l2
  subst l2
  have hrg := run_range_nilMap (P := Try.prog) W2 79 3 3 Try.underlying79
  have hnx : ∀ ty, (Instr.next (.pointer (some ⟨W2.heap.size, 0, none⟩)) false ty).run Try.prog (W2.alloc (.mapIter none 0 #[] 0)) = _ := fun ty => run_next_nilMap W2 ty 0 0 #[]
  have hB3 : Below w.heap.size w (W2.alloc (.mapIter none 0 #[] 0)) := hB2.alloc hB2.size _
  repeat still_step
  refine wpStill_nil ?_
  rw [hsz2] at hrg hnx
  generalize W2.alloc (.mapIter none 0 #[] 0) = W3 at hrg hnx hB3
  have hnx := hnx 0
  clear h2 hw52 c5 hm h hB2 hsz2
  go_wp2
  clear l1 c0 hrg
  go_loopg [7] 0 (fun k v wr => v = .slice none 0 0 ∧ wr = W3)
  case atStart => exact ⟨rfl, rfl⟩
  case round =>
    obtain ⟨rfl, rfl⟩ := hrel
    go_wp2_with (go_at_call 70; (with_reducible refine (Try.slices_Sort_int_none none 0 _).mono ?_); rintro _ _ ⟨rfl, rfl⟩)
    go_ret
    exact ⟨rfl, hB3⟩
def LT.small (t : LT) : Prop := ∀ x ∈ t.pages, x.2.2.length ≤ 1000000
theorem aget_mem {α : Type} {l : List (Int × α)} {k : Int} {x : α} (h : aget l k = some x) : (k, x) ∈ l := by
  unfold aget at h
  obtain ⟨q, hq, e⟩ := Option.map_eq_some_iff.1 h
  have h1 := List.mem_of_find?_eq_some hq
  have h2 := List.find?_some hq
  obtain ⟨a, b⟩ := q
  simp at h2 e; subst h2; subst e; exact h1
theorem LT.small.holders {t : LT} (h : t.small) (page : Int) : (t.holders page).length ≤ 1000000 := by
  unfold LT.holders
  cases hm : aget t.pages page with
  | none => simp
  | some x => exact h _ (aget_mem hm)
theorem against_any (w : World) (p mp mw : Nat) (t : LT) (txn : Int) (x : Want) (h : LTAt w p mp mw t) (hs : t.small) :
    Calls Try.prog 38 #[.pointer (some ⟨p, 0, none⟩), .int .i64 txn, x.v] w fun e w' => ∃ v, e = .returned v ∧ w'.ownsRow w.heap.size 3 1 v (t.others txn x).length ((sortI (t.others txn x)).map (Value.int .i64)) ∧ Below w.heap.size w w' := by
  cases hm : aget t.pages x.page with
  | some y => obtain ⟨m, l⟩ := y; exact against_some w p mp mw t txn x h m l hm (hs _ (aget_mem hm))
  | none =>
    refine (against_none w p mp mw t txn x h hm).mono ?_
    rintro e w' ⟨rfl, hB⟩
    have ho : t.others txn x = [] := by unfold LT.others LT.holders; rw [hm]; rfl
    rw [ho]
    refine ⟨_, rfl, ?_, hB⟩
    rw [show sortI [] = [] from List.mergeSort_nil]; exact World.ownsRow_nil _ _ _ _
/-- whom a transaction waits for -/
def LT.wait (t : LT) (txn : Int) : List Int := match aget t.waits txn with | none => [] | some x => t.others txn x
theorem LT.wait_le {t : LT} (h : t.small) (txn : Int) : (t.wait txn).length ≤ 1000000 := by
  unfold LT.wait
  cases aget t.waits txn with
  | none => simp
  | some x => exact Nat.le_trans (oth_le _ _ _) (h.holders _)
theorem zwant (w : World) : (zeroValue 85).run Try.prog w = .ok (Want.v ⟨0, 0⟩) w := by kernel_rfl
theorem waits_any (w : World) (p mp mw : Nat) (t : LT) (txn : Int) (h : LTAt w p mp mw t) (hs : t.small) :
    Calls Try.prog 19 #[.pointer (some ⟨p, 0, none⟩), .int .i64 txn] w fun e w' => ∃ v, e = .returned v ∧ w'.ownsRow w.heap.size 3 1 v (t.wait txn).length ((sortI (t.wait txn)).map (Value.int .i64)) ∧ Below w.heap.size w w' := by
  have hr := run_lookup_im (P := Try.prog) Try.underlying76 Try.underlying3 h.waits _ (zwant w) txn true
  rw [enc_get] at hr
  unfold LT.wait
  have c1 := cell_in (o := 1) (u := .map (some mw)) h.self rfl
  cases hx : aget t.waits txn with
  | none =>
    rw [hx] at hr
    simp only [Option.map_none, Option.getD_none, Option.isSome_none, if_true] at hr
    unfold Want.v at hr
    clear hx
    go_enter Try.func19, Try.ntmps19
    go_wp2
    go_ret
    refine ⟨_, rfl, ?_, (Below.refl _ _).alloc (Nat.le_refl _) _⟩
    rw [show sortI [] = [] from List.mergeSort_nil]; exact World.ownsRow_nil _ _ _ _
  | some x =>
    rw [hx] at hr
    simp only [Option.map_some, Option.getD_some, Option.isSome_some, if_true] at hr
    clear hx
    have hB : Below w.heap.size w (w.alloc (.cells #[.int .i64 x.page, .int .i64 x.mode] 85)) := (Below.refl _ _).alloc (Nat.le_refl _) _
    have h' : LTAt (w.alloc (.cells #[.int .i64 x.page, .int .i64 x.mode] 85)) p mp mw t := h.keeps (Keeps.of_below (S := fun _ => False) hB) (fun _ _ hf => hf)
    have hc := against_any _ p mp mw t txn x h' hs
    obtain ⟨pg, md⟩ := x
    unfold Want.v at hr hc
    go_enter Try.func19, Try.ntmps19
    go_wp2_with (go_at_call 38; (with_reducible refine hc.mono ?_); rintro _ w' ⟨v, rfl, ho, hb⟩)
    go_ret
    exact ⟨_, rfl, owns_lower ho (by simp), hB.trans (hb.mono (by simp))⟩
end Go.Proofs.Ytnficiohnhodiaa
