import Derived.Test.YtnficiohnhodiaaLockG
namespace Go.Proofs.Ytnficiohnhodiaa
open Go.RowKit
open Go.ChangeMaps (setBlock)
theorem LTAt.setWaits {w w' : World} {p mp mw : Nat} {t : LT} (h : LTAt w p mp mw t) {ws : List (Int × Want)} (hm : IMap w' mw (enc Want.v ws)) (hk : Keeps (· = mw) w w') : LTAt w' p mp mw { t with waits := ws } := by
  have ha := h.apart
  simp only [List.nodup_cons, List.mem_cons, not_or] at ha
  refine ⟨hk.at h.self ha.1.2.1, h.pages.keeps hk ha.2.1.1, hm, fun x hx => (h.inner x hx).keeps hk ?_, h.apart⟩
  intro e
  exact ha.2.2.1 (e ▸ List.mem_map.2 ⟨x, hx, rfl⟩)
theorem take_start {w : World} {p mp mw : Nat} {t : LT} (h : LTAt w p mp mw t) (txn page : Int) (ty : TypeId) :
    ∃ w1 m, (Builtin.delete_ #[76, 3] ty #[.map (some mw), .int .i64 txn]).run Try.prog w = .ok (.tuple #[]) w1 ∧ LTAt w1 p mp mw (t.unwait txn) ∧ Keeps (· = mw) w w1 ∧ w1.heap.size = w.heap.size ∧
      (Instr.lookup 75 (.map (some mp)) (.int .i64 page) false).run Try.prog w1 = .ok (.map m) w1 ∧
      (Instr.lookup 79 (.map m) (.int .i64 txn) false).run Try.prog w1 = .ok (.int .i64 ((t.unwait txn).holds txn page)) w1 := by
  obtain ⟨w1, h1, h2, h3, h4⟩ := run_delete_im (P := Try.prog) Try.underlying76 Try.underlying3 h.waits txn ty 3
  rw [enc_del] at h2
  have hA := h.setWaits h2 h3
  obtain ⟨m, l1, l2⟩ := look_page hA page
  exact ⟨w1, m, h1, hA, h3, h4, l1, look_holder page txn m l2⟩
def TakePost (w : World) (p mp mw : Nat) (t : LT) (r : Nat → Int × LT) (e : Ending) (w' : World) : Prop :=
  ∃ m, e = .returned (errV (r m).1) ∧ LTAt w' p mp mw (r m).2 ∧ Keeps (LTFoot p mp mw t) w w' ∧ ∀ k, LTFoot p mp mw (r m).2 k → LTFoot p mp mw t k ∨ w.heap.size ≤ k
set_option maxHeartbeats 2000000 in
theorem take_has (w : World) (p mp mw : Nat) (t : LT) (txn page mode : Int) (h : LTAt w p mp mw t) (h1 : 1 ≤ mode) (h3 : mode ≤ 3) (hj : joinI ((t.unwait txn).holds txn page) mode = (t.unwait txn).holds txn page) :
    Calls Try.prog 11 #[.pointer (some ⟨p, 0, none⟩), .int .i64 txn, .int .i64 page, .int .i64 mode] w (TakePost w p mp mw t (fun m => t.take txn page mode m)) := by
  have hr : ∀ m, t.take txn page mode m = (0, t.unwait txn) := fun m => by unfold LT.take; rw [if_neg (by omega)]; simp [hj]
  simp only [hr]; clear hr
  have c1 := cell_in (o := 1) (u := .map (some mw)) h.self rfl
  obtain ⟨w1, m, hd, hA, hK, hsz, l1, l2⟩ := take_start h txn page 0
  have c2 := cell_in (o := 0) (u := .map (some mp)) hA.self rfl
  have hmode : ¬ mode < 1 ∧ ¬ mode > 3 := by omega
  generalize hhas : (t.unwait txn).holds txn page = has at l2 hj
  clear hsz
  go_enter Try.func11, Try.ntmps11
  go_wp2_with (go_at_call 37; (with_reducible refine (join_any _ _ _).mono ?_); rintro _ _ ⟨rfl, rfl⟩; rw [hj])
  go_ret
  refine ⟨0, rfl, hA.keeps ((Keeps.refl (fun _ => False) w1).alloc _) (fun _ _ hf => hf), (hK.mono (T := LTFoot p mp mw t) (fun k _ e => by subst e; simp [LTFoot])).trans' ((Keeps.refl (fun _ => False) w1).alloc _) (fun _ _ hf => hf.elim), fun k hk => .inl hk⟩
/-- what stands behind the first part of Take: the wait is gone, 'w' is laid -/
theorem take_then {w : World} {p mp mw : Nat} {t : LT} (txn page md : Int) {w1 : World} (hA : LTAt w1 p mp mw (t.unwait txn)) (hK : Keeps (· = mw) w w1) :
    LTAt (w1.alloc (.cells #[.int .i64 page, .int .i64 md] 85)) p mp mw (t.unwait txn) ∧ Keeps (LTFoot p mp mw t) w (w1.alloc (.cells #[.int .i64 page, .int .i64 md] 85)) :=
  ⟨hA.keeps ((Keeps.refl (fun _ => False) w1).alloc _) (fun _ _ hf => hf), (hK.mono (T := LTFoot p mp mw t) (fun k _ e => by subst e; simp [LTFoot])).trans' ((Keeps.refl (fun _ => False) w1).alloc _) (fun _ _ hf => hf.elim)⟩
set_option maxRecDepth 100000 in
set_option maxHeartbeats 4000000 in
theorem take_against (w : World) (p mp mw : Nat) (t : LT) (txn page mode : Int) (h : LTAt w p mp mw t) (hf : t.fit) (h1 : 1 ≤ mode) (h3 : mode ≤ 3) (hj : joinI ((t.unwait txn).holds txn page) mode ≠ (t.unwait txn).holds txn page)
    (hos : (t.unwait txn).others txn ⟨page, joinI ((t.unwait txn).holds txn page) mode⟩ ≠ []) :
    Calls Try.prog 11 #[.pointer (some ⟨p, 0, none⟩), .int .i64 txn, .int .i64 page, .int .i64 mode] w (TakePost w p mp mw t (fun m => t.take txn page mode m)) := by
  have hr : ∀ m, t.take txn page mode m = (open Classical in if ∃ o ∈ (t.unwait txn).others txn ⟨page, joinI ((t.unwait txn).holds txn page) mode⟩, Reach (t.unwait txn) o txn then (18, (t.unwait txn)) else (17, { (t.unwait txn) with waits := aput (t.unwait txn).waits txn ⟨page, joinI ((t.unwait txn).holds txn page) mode⟩ })) := fun m => by
    unfold LT.take; rw [if_neg (by omega)]; simp only []; rw [if_neg hj, if_pos hos]
  have hs1 : (t.unwait txn).small := hf.small
  have hw1 : (t.unwait txn).waits.length ≤ 1000000 := Nat.le_trans (List.length_filter_le _ _) hf.waits
  have c1 := cell_in (o := 1) (u := .map (some mw)) h.self rfl
  obtain ⟨w1, m, hd, hA1, hK1, hsz, l1, l2⟩ := take_start h txn page 0
  have c2 := cell_in (o := 0) (u := .map (some mp)) hA1.self rfl
  have hmode : ¬ mode < 1 ∧ ¬ mode > 3 := by omega
  have hfoot : ∀ k, LTFoot p mp mw (t.unwait txn) k → k < w.heap.size := fun k hk => h.lt k hk
  generalize hhas : (t.unwait txn).holds txn page = has at l2 hj hr hos
  generalize hmd : joinI has mode = md at hj hr hos
  obtain ⟨hA, hK⟩ := take_then txn page md hA1 hK1
  have hb10 : (w1.alloc (.cells #[.int .i64 page, .int .i64 md] 85)).heap[w1.heap.size]? = some (.cells #[.int .i64 page, .int .i64 md] 85 (0, 0)) := heap_alloc_new _ _
  have hag := against_any _ p mp mw (t.unwait txn) txn ⟨page, md⟩ hA hs1
  unfold Want.v at hag
  have hsW : (w1.alloc (.cells #[.int .i64 page, .int .i64 md] 85)).heap.size = w.heap.size + 1 := by simp [hsz]
  have hol := Nat.le_trans (oth_le txn md _) (LT.small.holders hs1 page)
  rw [show oth txn md ((t.unwait txn).holders page) = (t.unwait txn).others txn ⟨page, md⟩ from rfl] at hol
  generalize ho : (t.unwait txn).others txn ⟨page, md⟩ = os at hag hos hr hol
  have hpos : 0 < os.length := List.length_pos_iff.2 hos
  have hpos2 : 0 < (sortI os).length := by rw [sortI_length]; exact hpos
  have Hsz := Lib.hid hsz
  clear hA1 hK1 hsz hmode
  go_enter Try.func11, Try.ntmps11
  go_wp2_with (first | (go_at_call 37; (with_reducible refine (join_any _ _ _).mono ?_); rintro _ _ ⟨rfl, rfl⟩; rw [hmd]) | (go_at_call 38; (with_reducible refine hag.mono ?_); rintro _ w2 ⟨v2, rfl, hown2, hb2⟩; obtain ⟨g2, cap2, rfl⟩ := owned_form hown2 hpos) | (go_at_call 40; rw [← sortI_length os] at hown2 ⊢; (with_reducible refine (clone_own _ _ _ _ _ (by rw [sortI_length]; exact hol) hown2).mono ?_); rintro _ w3 ⟨v3, rfl, hown3, hb3⟩) | (go_at_call 39; (with_reducible refine (circle_any _ p mp mw (t.unwait txn) txn _ (sortI os) w2.heap.size ((hA.keeps (Keeps.of_below (S := fun _ => False) hb2) (fun _ _ hf => hf)).keeps (Keeps.of_below (S := fun _ => False) hb3) (fun _ _ hf => hf)) hs1 hw1 (fun k hk => by have := hfoot k hk; have := hb2.size; omega) hb3.size (by rw [sortI_length]; exact hol) hown3).mono ?_); rintro _ w4 ⟨b, rfl, hbi, hb4⟩))
  all_goals
    have hA4 : LTAt w4 p mp mw (t.unwait txn) := hA.keeps (S := fun _ => False) (Keeps.of_below (hb2.trans ((hb3.mono hb2.size).trans (hb4.mono hb2.size)))) (fun _ _ hf => hf)
    have hB4 : Below (w.heap.size + 1) (w1.alloc (.cells #[.int .i64 page, .int .i64 md] 85)) w4 := (hb2.trans ((hb3.mono hb2.size).trans (hb4.mono hb2.size))).mono (by omega)
    have hK4 : Keeps (LTFoot p mp mw t) w w4 := hK.trans' (Keeps.of_below (S := fun _ => False) (hb2.trans ((hb3.mono hb2.size).trans (hb4.mono hb2.size)))) (fun _ _ hf => hf.elim)
    have h104 := (hB4.block _ (by have := Hsz.out; omega)).trans hb10
    have hex : (∃ o ∈ sortI os, Reach (t.unwait txn) o txn) ↔ ∃ o ∈ os, Reach (t.unwait txn) o txn := ⟨fun ⟨o, a, b⟩ => ⟨o, List.mem_mergeSort.1 a, b⟩, fun ⟨o, a, b⟩ => ⟨o, List.mem_mergeSort.2 a, b⟩⟩
    rw [hex] at hbi
  · rename_i hbt
    have hbi := hbi.1 hbt
    simp only [if_pos hbi] at hr
    simp only [hr]
    go_ret
    exact ⟨0, rfl, hA4, hK4, fun k hk => .inl hk⟩
  · have hbf : b = false := by assumption
    rw [hbf] at hbi
    have hbi := not_congr hbi
    replace hbi := hbi.1 (by decide)
    simp only [if_neg hbi] at hr
    clear hb4 hown2 hb2 hb3 hown3 hB4 hag hb10 hA hK
    refine wp_region_still_tail 6 (by kernel_rfl) (by kernel_rfl) ?_
    simp only [List.take_succ_cons, List.take_zero, List.drop_succ_cons, List.drop_zero]
    change wpStill _ _ w4.drew (fun a' => wpList _ _ _ _ a' w4.drew) _ _
    have hA5 : LTAt w4.drew p mp mw (t.unwait txn) := hA4.keeps ((Keeps.refl (fun _ => False) w4).drew) (fun _ _ hf => hf)
    have hK5 := hK4.drew
    have h105 : w4.drew.heap[w1.heap.size]? = some (.cells #[.int .i64 page, .int .i64 md] 85 (0, 0)) := h104
    clear hA4 hK4 h104
    generalize w4.drew = w5 at hA5 hK5 h105 ⊢
    have c11 := cell_in (o := 1) (u := .map (some mw)) hA5.self rfl
    have c12 := cell_in (o := 0) (u := .int .i64 page) h105 rfl
    have c13 := cell_in (o := 1) (u := .int .i64 md) h105 rfl
    obtain ⟨w6, hu1, hu2, hu3, hu4⟩ := run_mapUpdate_im (P := Try.prog) Try.underlying76 Try.underlying3 hA5.waits txn (Want.v ⟨page, md⟩)
    rw [enc_put] at hu2
    have hA6 := hA5.setWaits hu2 hu3
    have hK6 : Keeps (LTFoot p mp mw t) w w6 := hK5.trans' hu3 (fun k _ e => by subst e; simp [LTFoot])
    unfold Want.v at hu1
    repeat still_step
    refine wpStill_nil ?_
    go_wp2
    go_ret
    simp only [hr]
    exact ⟨0, rfl, hA6, hK6, fun k hk => .inl hk⟩
end Go.Proofs.Ytnficiohnhodiaa
