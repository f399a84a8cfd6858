import Derived.Test.YtnficiohnhodiaaLockK
namespace Go.Proofs.Ytnficiohnhodiaa
open Go.RowKit
open Go.ChangeMaps (setBlock)
set_option maxRecDepth 100000 in
set_option maxHeartbeats 4000000 in
theorem take_old (w : World) (p mp mw : Nat) (t : LT) (txn page mode : Int) (h : LTAt w p mp mw t) (hf : t.fit) (h1 : 1 ≤ mode) (h3 : mode ≤ 3) (m0 : Nat) (hs0 : List (Int × Int)) (hpg : aget t.pages page = some (m0, hs0)) (hh : (t.unwait txn).holds txn page = 0) (hc : t.count < 256) (hos : (t.unwait txn).others txn ⟨page, mode⟩ = []) :
    Calls Try.prog 11 #[.pointer (some ⟨p, 0, none⟩), .int .i64 txn, .int .i64 page, .int .i64 mode] w (TakePost w p mp mw t (fun m => t.take txn page mode m)) := by
  have hpg1 : aget (t.unwait txn).pages page = some (m0, hs0) := hpg
  have hmd : joinI 0 mode = mode := by simp [joinI]
  have hr : ∀ m, t.take txn page mode m = (0, (t.unwait txn).set txn page mode m) := fun m => by
    unfold LT.take; rw [if_neg (by omega)]; simp only [hh, hmd]; rw [if_neg (by omega), if_neg (by simp [hos]), if_neg (by rintro ⟨_, h⟩; simp only [LT.unwait] at h; omega)]
  have hs1 : (t.unwait txn).small := hf.small
  have c1 := cell_in (o := 1) (u := .map (some mw)) h.self rfl
  obtain ⟨w1, m, hd, hA1, hK1, hsz, l1, l2⟩ := take_start h txn page 0
  have c2 := cell_in (o := 0) (u := .map (some mp)) hA1.self rfl
  rw [hh] at l2
  have hm0 : mode ≠ 0 := by omega
  obtain ⟨hA, hK⟩ := take_then txn page mode hA1 hK1
  have hag := against_any _ p mp mw (t.unwait txn) txn ⟨page, mode⟩ hA hs1
  unfold Want.v at hag
  rw [hos] at hag
  have hlo := hf.low
  have Hsz := Lib.hid hsz
  have hb10 : (w1.alloc (.cells #[.int .i64 page, .int .i64 mode] 85)).heap[w1.heap.size]? = some (.cells #[.int .i64 page, .int .i64 mode] 85 (0, 0)) := heap_alloc_new _ _
  have qT : ∀ (w : World) (r : Option Nat), (binOp .eql 79 (.map r) (.map none)).run Try.prog w = .ok (.bool r.isNone) w := fun w r => run_eql_map_nil w _ _ _ r Try.underlying79
  clear hA1 hK1 hsz
  go_enter Try.func11, Try.ntmps11
  go_wp2_with (first | (go_at_call 37; (with_reducible refine (join_any _ _ _).mono ?_); rintro _ _ ⟨rfl, rfl⟩; rw [hmd]) | (go_at_call 38; (with_reducible refine hag.mono ?_); rintro _ w2 ⟨v2, rfl, hown2, hb2⟩; (obtain ⟨g2, cap2, rfl⟩ := owned_nil hown2); have hA2 := hA.keeps (Keeps.of_below (S := fun _ => False) hb2) (fun _ _ hf => hf); have c3 := cell_in (o := 2) (u := .int .i64 t.count) hA2.self rfl; have f3 := free_in (o := 2) hA2.self; have c4 := cell_in (o := 0) (u := .map (some mp)) hA2.self rfl; (obtain ⟨m2, l3, l4⟩ := look_page hA2 page); rw [hpg1] at l4; (obtain ⟨rfl, l4⟩ := l4)))
  have hsz2 := hb2.size
  have hwsz : w.heap.size ≤ w2.heap.size := by have := Hsz.out; simp at hsz2; omega
  have hK2 : Keeps (LTFoot p mp mw t) w w2 := hK.trans' (Keeps.of_below (S := fun _ => False) hb2) (fun _ _ hf => hf.elim)
  have h102 := (hb2.block _ (by simp)).trans hb10
  have hA4' := hA2.setCount (t.count + 1)
  have hK4' := hK2.setCell (p := ⟨p, 2, none⟩) (.inl (by simp [LTFoot])) (.int .i64 (t.count + 1))
  have h104' := at_setCell h102 ⟨p, 2, none⟩ (by have h2 := h.lt p (by simp [LTFoot]); have := Hsz.out; simp; omega) (.int .i64 (t.count + 1))
  generalize w2.setCell ⟨p, 2, none⟩ (.int .i64 (t.count + 1)) = w45 at hA4' hK4' h104' ⊢
  clear l3 c4 c3 f3 hown2 hb10 h102 l4
  refine wp_region_still_tail 9 (by kernel_rfl) (by kernel_rfl) ?_
  simp only [List.take_succ_cons, List.take_zero, List.drop_succ_cons, List.drop_zero]
  change wpStill _ _ w45.drew (fun a' => wpList _ _ _ _ a' w45.drew) _ _
  have hA5 := hA4'.keeps ((Keeps.refl (fun _ => False) w45).drew) (fun _ _ hf => hf)
  have hK5 := hK4'.drew
  have h105 : w45.drew.heap[w1.heap.size]? = some (.cells #[.int .i64 page, .int .i64 mode] 85 (0, 0)) := h104'
  clear hA4' hK4' h104'
  generalize w45.drew = w5 at hA5 hK5 h105 ⊢
  obtain ⟨m', l5, l6⟩ := look_page hA5 page
  simp only [hpg1] at l6
  obtain ⟨rfl, l6⟩ := l6
  obtain ⟨w6, hu1, hu2, hu3, hu4⟩ := run_mapUpdate_im (P := Try.prog) Try.underlying79 Try.underlying3 l6 txn (.int .i64 mode)
  have e := enc_put (fun m : Int => Value.int .i64 m) hs0 txn mode
  rw [e] at hu2
  have hA6 := hA5.setHolder hpg1 hu2 hu3
  have hm0f : LTFoot p mp mw t m0 := by unfold LTFoot LT.fp; simp only [List.mem_cons, List.mem_map]; exact .inr (.inr (.inr ⟨_, aget_mem hpg, rfl⟩))
  have hK6 : Keeps (LTFoot p mp mw t) w w6 := hK5.trans' hu3 (fun k hk e => by subst e; exact hm0f)
  have c7 := cell_in (o := 0) (u := .map (some mp)) hA5.self rfl
  have c8 := cell_in (o := 1) (u := .int .i64 mode) h105 rfl
  repeat still_step
  refine wpStill_nil ?_
  go_wp2
  go_ret
  simp only [hr]
  have hset : (t.unwait txn).set txn page mode m0 = { (t.unwait txn) with pages := aput (t.unwait txn).pages page (m0, aput hs0 txn mode), count := t.count + 1 } := by
    unfold LT.set; simp only [hpg1, hh, if_true]; rfl
  refine ⟨m0, rfl, by show LTAt w6 p mp mw (LT.set _ _ _ _ _); rw [hset]; exact hA6, hK6, fun k hk => ?_⟩
  rcases foot_aput (t := t.unwait txn) (t' := (t.unwait txn).set txn page mode m0) (m := m0) (l := aput hs0 txn mode) (page := page) (by rw [hset]) k hk with h1 | h1
  · exact .inl h1
  · exact .inl (h1 ▸ hm0f)
set_option maxRecDepth 100000 in
set_option maxHeartbeats 4000000 in
theorem take_join (w : World) (p mp mw : Nat) (t : LT) (txn page mode : Int) (h : LTAt w p mp mw t) (hf : t.fit) (h1 : 1 ≤ mode) (h3 : mode ≤ 3) (m0 : Nat) (hs0 : List (Int × Int)) (hpg : aget t.pages page = some (m0, hs0)) (hh : (t.unwait txn).holds txn page ≠ 0) (hj : joinI ((t.unwait txn).holds txn page) mode ≠ (t.unwait txn).holds txn page) (hos : (t.unwait txn).others txn ⟨page, joinI ((t.unwait txn).holds txn page) mode⟩ = []) :
    Calls Try.prog 11 #[.pointer (some ⟨p, 0, none⟩), .int .i64 txn, .int .i64 page, .int .i64 mode] w (TakePost w p mp mw t (fun m => t.take txn page mode m)) := by
  have hpg1 : aget (t.unwait txn).pages page = some (m0, hs0) := hpg
  have hr : ∀ m, t.take txn page mode m = (0, (t.unwait txn).set txn page (joinI ((t.unwait txn).holds txn page) mode) m) := fun m => by
    unfold LT.take; rw [if_neg (by omega)]; simp only []; rw [if_neg hj, if_neg (by simp [hos]), if_neg (by rintro ⟨h, _⟩; exact hh h)]
  have hs1 : (t.unwait txn).small := hf.small
  have c1 := cell_in (o := 1) (u := .map (some mw)) h.self rfl
  obtain ⟨w1, m, hd, hA1, hK1, hsz, l1, l2⟩ := take_start h txn page 0
  have c2 := cell_in (o := 0) (u := .map (some mp)) hA1.self rfl
  generalize hhas : (t.unwait txn).holds txn page = has at l2 hj hr hos hh
  generalize hmd : joinI has mode = md at hj hr hos
  obtain ⟨hA, hK⟩ := take_then txn page md hA1 hK1
  have hag := against_any _ p mp mw (t.unwait txn) txn ⟨page, md⟩ hA hs1
  unfold Want.v at hag
  rw [hos] at hag
  have hlo := hf.low
  have Hsz := Lib.hid hsz
  have hb10 : (w1.alloc (.cells #[.int .i64 page, .int .i64 md] 85)).heap[w1.heap.size]? = some (.cells #[.int .i64 page, .int .i64 md] 85 (0, 0)) := heap_alloc_new _ _
  have qT : ∀ (w : World) (r : Option Nat), (binOp .eql 79 (.map r) (.map none)).run Try.prog w = .ok (.bool r.isNone) w := fun w r => run_eql_map_nil w _ _ _ r Try.underlying79
  clear hA1 hK1 hsz
  go_enter Try.func11, Try.ntmps11
  go_wp2_with (first | (go_at_call 37; (with_reducible refine (join_any _ _ _).mono ?_); rintro _ _ ⟨rfl, rfl⟩; rw [hmd]) | (go_at_call 38; (with_reducible refine hag.mono ?_); rintro _ w2 ⟨v2, rfl, hown2, hb2⟩; (obtain ⟨g2, cap2, rfl⟩ := owned_nil hown2); have hA2 := hA.keeps (Keeps.of_below (S := fun _ => False) hb2) (fun _ _ hf => hf); have c3 := cell_in (o := 2) (u := .int .i64 t.count) hA2.self rfl; have f3 := free_in (o := 2) hA2.self; have c4 := cell_in (o := 0) (u := .map (some mp)) hA2.self rfl; (obtain ⟨m2, l3, l4⟩ := look_page hA2 page); rw [hpg1] at l4; (obtain ⟨rfl, l4⟩ := l4)))
  have hsz2 := hb2.size
  have hwsz : w.heap.size ≤ w2.heap.size := by have := Hsz.out; simp at hsz2; omega
  have hK2 : Keeps (LTFoot p mp mw t) w w2 := hK.trans' (Keeps.of_below (S := fun _ => False) hb2) (fun _ _ hf => hf.elim)
  have h102 := (hb2.block _ (by simp)).trans hb10
  have hA4' := hA2
  have hK4' := hK2
  have h104' := h102
  generalize w2 = w45 at hA4' hK4' h104' ⊢
  clear l3 c4 c3 f3 hown2 hb10 h102 l4
  refine wp_region_still_tail 9 (by kernel_rfl) (by kernel_rfl) ?_
  simp only [List.take_succ_cons, List.take_zero, List.drop_succ_cons, List.drop_zero]
  change wpStill _ _ w45.drew (fun a' => wpList _ _ _ _ a' w45.drew) _ _
  have hA5 := hA4'.keeps ((Keeps.refl (fun _ => False) w45).drew) (fun _ _ hf => hf)
  have hK5 := hK4'.drew
  have h105 : w45.drew.heap[w1.heap.size]? = some (.cells #[.int .i64 page, .int .i64 md] 85 (0, 0)) := h104'
  clear hA4' hK4' h104'
  generalize w45.drew = w5 at hA5 hK5 h105 ⊢
  obtain ⟨m', l5, l6⟩ := look_page hA5 page
  simp only [hpg1] at l6
  obtain ⟨rfl, l6⟩ := l6
  obtain ⟨w6, hu1, hu2, hu3, hu4⟩ := run_mapUpdate_im (P := Try.prog) Try.underlying79 Try.underlying3 l6 txn (.int .i64 md)
  have e := enc_put (fun m : Int => Value.int .i64 m) hs0 txn md
  rw [e] at hu2
  have hA6 := hA5.setHolder hpg1 hu2 hu3
  have hm0f : LTFoot p mp mw t m0 := by unfold LTFoot LT.fp; simp only [List.mem_cons, List.mem_map]; exact .inr (.inr (.inr ⟨_, aget_mem hpg, rfl⟩))
  have hK6 : Keeps (LTFoot p mp mw t) w w6 := hK5.trans' hu3 (fun k hk e => by subst e; exact hm0f)
  have c7 := cell_in (o := 0) (u := .map (some mp)) hA5.self rfl
  have c8 := cell_in (o := 1) (u := .int .i64 md) h105 rfl
  repeat still_step
  refine wpStill_nil ?_
  go_wp2
  go_ret
  simp only [hr]
  have hset : (t.unwait txn).set txn page md m0 = { (t.unwait txn) with pages := aput (t.unwait txn).pages page (m0, aput hs0 txn md) } := by
    unfold LT.set; simp only [hpg1, hhas, if_neg hh, Int.add_zero]
  refine ⟨m0, rfl, by show LTAt w6 p mp mw (LT.set _ _ _ _ _); rw [hset]; exact hA6, hK6, fun k hk => ?_⟩
  rcases foot_aput (t := t.unwait txn) (t' := (t.unwait txn).set txn page md m0) (m := m0) (l := aput hs0 txn md) (page := page) (by rw [hset]) k hk with h1 | h1
  · exact .inl h1
  · exact .inl (h1 ▸ hm0f)
end Go.Proofs.Ytnficiohnhodiaa
