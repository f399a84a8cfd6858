import Derived.Test.YtnficiohnhodiaaLockB
namespace Go.Proofs.Ytnficiohnhodiaa
open Go.RowKit
open Go.ChangeMaps (setBlock)
/-- who don't get along with a mode, of those of a list -/
def oth (txn md : Int) (l : List (Int × Int)) : List Int := (l.filter fun h => !(h.1 == txn) && !(alongB h.2 md)).map (·.1)
def LT.others (t : LT) (txn : Int) (x : Want) : List Int := oth txn x.mode (t.holders x.page)
def encH (l : List (Int × Int)) : IM := enc (fun m => .int .i64 m) l
theorem oth_le (txn md : Int) (l : List (Int × Int)) : (oth txn md l).length ≤ l.length := by unfold oth; rw [List.length_map]; exact List.length_filter_le _ _
theorem perm_adel {α : Type} (L : List (Int × α)) (p : Int × α) (hn : (L.map (·.1)).Nodup) (hp : p ∈ L) : L.Perm (p :: adel L p.1) := by
  induction L with
  | nil => cases hp
  | cons q L ih =>
    rw [List.map_cons, List.nodup_cons] at hn
    unfold adel at ih ⊢
    rcases List.mem_cons.1 hp with rfl | hp
    · rw [List.filter_cons_of_neg (by simp), List.filter_eq_self.2]
      intro q hq
      have : q.1 ≠ p.1 := fun e => hn.1 (e ▸ List.mem_map.2 ⟨q, hq, rfl⟩)
      simpa using this
    · have : q.1 ≠ p.1 := fun e => hn.1 (e ▸ List.mem_map.2 ⟨p, hp, rfl⟩)
      rw [List.filter_cons_of_pos (by simpa using this)]
      exact ((ih hn.2 hp).cons q).trans (List.Perm.swap ..)
theorem adel_nodup {α : Type} (L : List (Int × α)) (k : Int) (hn : (L.map (·.1)).Nodup) : ((adel L k).map (·.1)).Nodup := hn.sublist (List.filter_sublist.map _)
theorem oth_step {txn md : Int} {L : List (Int × Int)} {p : Int × Int} {acc : List Int} {R : List Int} (hn : (L.map (·.1)).Nodup) (hp : p ∈ L) (h : Hid ((acc ++ oth txn md L).Perm R)) :
    (acc ++ ((if !(p.1 == txn) && !(alongB p.2 md) then [p.1] else []) ++ oth txn md (adel L p.1))).Perm R := by
  refine List.Perm.trans ?_ h.out
  refine List.Perm.append_left acc ?_
  have := ((perm_adel L p hn hp).filter (fun h => !(h.1 == txn) && !(alongB h.2 md))).map (·.1)
  refine List.Perm.trans ?_ this.symm
  unfold oth
  rw [List.filter_cons]
  split <;> simp
def AgainstAt (txn pg md : Int) (w : World) (m : Nat) (hs : List (Int × Int)) (k : Nat) (v : Value) (wr : World) : Prop :=
  ∃ (L : List (Int × Int)) (acc : List Int), k = L.length ∧ Rng wr (w.heap.size + 1) m (encH hs) (encH L) ∧ wr.ownsRow (w.heap.size + 2) 3 1 v acc.length (acc.map (Value.int .i64)) ∧
    wr.heap[w.heap.size]? = some (.cells #[.int .i64 pg, .int .i64 md] 85 (0, 0)) ∧ Below w.heap.size w wr ∧ Hid ((acc ++ oth txn md L).Perm (oth txn md hs)) ∧ (L.map (·.1)).Nodup ∧ acc.length + L.length ≤ hs.length ∧ w.heap.size + 2 ≤ wr.heap.size
set_option maxRecDepth 100000 in
set_option maxHeartbeats 2000000 in
theorem against_some (w : World) (p mp mw : Nat) (t : LT) (txn : Int) (x : Want) (h : LTAt w p mp mw t) (m : Nat) (hs : List (Int × Int)) (hm : aget t.pages x.page = some (m, hs)) (hlen : hs.length ≤ 1000000) :
    Calls Try.prog 38 #[.pointer (some ⟨p, 0, none⟩), .int .i64 txn, x.v] w fun e w' => ∃ v, e = .returned v ∧ w'.ownsRow w.heap.size 3 1 v (t.others txn x).length ((sortI (t.others txn x)).map (Value.int .i64)) ∧ Below w.heap.size w w' := by
  have ho : t.others txn x = oth txn x.mode hs := by unfold LT.others LT.holders; rw [hm]; rfl
  rw [ho]; clear ho
  obtain ⟨pg, md⟩ := x
  unfold Want.v
  have h' : LTAt (w.alloc (.cells #[.int .i64 pg, .int .i64 md] 85)) p mp mw t := h.keeps (Keeps.of_below (S := fun _ => False) ((Below.refl _ _).alloc (Nat.le_refl _) _)) (fun _ _ hf => hf)
  have hw5 : (w.alloc (.cells #[.int .i64 pg, .int .i64 md] 85)).heap[w.heap.size]? = some (.cells #[.int .i64 pg, .int .i64 md] 85 (0, 0)) := heap_alloc_new _ _
  have hB : Below w.heap.size w (w.alloc (.cells #[.int .i64 pg, .int .i64 md] 85)) := (Below.refl _ _).alloc (Nat.le_refl _) _
  have hsz : (w.alloc (.cells #[.int .i64 pg, .int .i64 md] 85)).heap.size = w.heap.size + 1 := by simp
  simp only at hm
  go_enter Try.func38, Try.ntmps38
  go_wp2
  generalize w.alloc (.cells #[.int .i64 pg, .int .i64 md] 85) = W at h' hw5 hB hsz ⊢
  refine wp_region_still_tail 7 (by kernel_rfl) (by kernel_rfl) ?_
  simp only [List.take_succ_cons, List.take_zero, List.drop_succ_cons, List.drop_zero]
  change wpStill _ _ W.drew (fun a' => wpList _ _ _ _ a' W.drew) _ _
  have h2 : LTAt W.drew p mp mw t := h'.keeps ((Keeps.refl (fun _ => False) W).drew) (fun _ _ hf => hf)
  have hB2 : Below w.heap.size w W.drew := hB.drew
  have hsz2 : W.drew.heap.size = w.heap.size + 1 := hsz
  have hw52 : W.drew.heap[w.heap.size]? = some (.cells #[.int .i64 pg, .int .i64 md] 85 (0, 0)) := hw5
  generalize W.drew = W2 at h2 hB2 hsz2 hw52 ⊢
  clear h' hw5 hB hsz
  have c0 := cell_in (o := 0) (u := .map (some mp)) h2.self rfl
  have c5 := cell_in (o := 0) (u := .int .i64 pg) hw52 rfl
  obtain ⟨m', l1, l2⟩ := look_page h2 pg
  rw [hm] at l2
  obtain ⟨rfl, l3⟩ := l2
  obtain ⟨W3, r1, r2, r3, r4⟩ := run_range_im (P := Try.prog) Try.underlying79 l3
  rw [hsz2] at r1 r2 r4
  have hpm := l3.lt
  have Hm := Lib.hid hm; clear hm
  have hkeys : (hs.map (·.1)).Nodup := by
    obtain ⟨es, c, _, he⟩ := l3
    have := he.keys; unfold enc at this; simpa [List.map_map, Function.comp_def] using this
  have hwant : W3.heap[w.heap.size]? = some (.cells #[.int .i64 pg, .int .i64 md] 85 (0, 0)) := (r3.block _ (lt_of hw52)).trans hw52
  have hB3 : Below w.heap.size w W3 := hB2.trans (r3.mono hB2.size)
  have hmlt : m < w.heap.size := (h.lt m (by unfold LTFoot LT.fp; have := Hm.out; unfold aget at this; obtain ⟨q, hq, e⟩ := Option.map_eq_some_iff.1 this; simp only [List.mem_cons, List.mem_map]; exact .inr (.inr (.inr ⟨q, List.mem_of_find?_eq_some hq, by rw [e]⟩))))
  repeat still_step
  refine wpStill_nil ?_
  go_wp2
  clear h2 hB2 hsz2 hw52 c0 c5 l1 l3 r1 r3 h
  go_loopg [7] hs.length (fun k v wr => AgainstAt txn pg md w m hs k v wr)
  case atStart => exact ⟨hs, [], rfl, r2, World.ownsRow_nil _ _ _ _, hwant, hB3, Lib.hid (List.Perm.refl _), hkeys, by simp, by omega⟩
  case round =>
    obtain ⟨L, acc, rfl, hR, hown, hwt, hbl, hI, hnd, hle, hsz⟩ := hrel
    rcases run_next_im (P := Try.prog) hR 0 with ⟨h0, hr⟩ | ⟨q, hq, w4, hr, hR', hK, hsz4, hent⟩
    · have hL : L = [] := by unfold encH enc at h0; simpa using h0
      subst hL
      have hpe : acc.Perm (oth txn md hs) := by have := hI.out; simpa [oth] using this
      have hal : acc.length ≤ hs.length := by simp at hle; exact hle
      go_wp2_with (go_at_call 70; (with_reducible refine (sort_own _ (w.heap.size + 2) _ acc hown (by omega)).mono ?_); rintro _ w5 ⟨rfl, hown5, hgr⟩; rw [sortI_perm hpe] at hown5)
      go_ret
      refine ⟨_, rfl, ?_, hbl.grown hgr (by omega) (fun b hb => by have := (hown.lt b hb).1; omega)⟩
      rw [← hpe.length_eq]
      exact owns_lower hown5 (by omega)
    · obtain ⟨pp, hp, rfl⟩ := List.mem_map.1 hq
      obtain ⟨k, md2⟩ := pp
      have he := hent w4 rfl rfl
      have c5 := cell_in (o := 1) (u := .int .i64 md) (hK.at hwt (by omega)) rfl
      have hst := oth_step hnd hp hI
      have hlen2 := (perm_adel L _ hnd hp).length_eq
      simp only [List.length_cons] at hlen2
      rw [show (encH L).del k = encH (adel L k) from enc_del _ _ _] at hR'
      have hwt4 := hK.at hwt (by omega)
      have hbl4 : Below w.heap.size w w4 := hbl.trans (hK.below (by omega) (fun k hk => by omega))
      have hown4 : w4.ownsRow (w.heap.size + 2) 3 1 u7 acc.length (acc.map (Value.int .i64)) := hown.kept (row := some (w.heap.size + 1)) ⟨hK.os, hK.tape, hK.output, hK.size, fun j hj hne => hK.block j hj (by simpa using fun e => hne (by rw [e]))⟩ (by cases hb : u7.ownBlock with | none => simp | some b => (have := (hown.lt b hb).1; simp; omega))
      have hR4 := hR'.lt
      obtain ⟨i0, hi, hz0, hz1, hz2⟩ := info_parts infoI
      clear hsz4
      have hs4 := hK.size
      go_wp2_with (first | (go_at_call 69; (with_reducible refine (along_any _ _ _).mono ?_); rintro _ _ ⟨rfl, rfl⟩) | (at_builtin; go_loud (refine wpList_append_own _ rfl _ _ 41 rfl (w.heap.size + 2) 3 i0 (.int .i64 0) 1 8 Try.underlying41 hi hz0 hz1 hz2 rfl (by decide) _ acc.length (acc.map (Value.int .i64)) rfl (hown4.alloc _) ⟨w4.heap.size, 0, none⟩ 1 1 [.int .i64 k] rfl rfl (new_cells _ _ _) (ints_one [k]) (by unfold maxLen; omega) (by omega) (by simp; omega) ?_); intro v' w1 hown1 hgr _))
      · go_roundg (L.length - 1)
        case measure => rename_i he'; subst he'; omega
        case rel =>
          rename_i he'
          refine ⟨adel L k, acc, by omega, hR', hown4, hwt4, hbl4, Lib.hid ?_, adel_nodup _ _ hnd, by omega, by omega⟩
          rw [if_neg (by simp [he'])] at hst; exact hst
      · go_roundg (L.length - 1)
        case measure => omega
        case rel =>
          rename_i h1 h2 _
          have hgr' : (w4.alloc (.cells #[.int .i64 k] 3)).grownBy w1 u7.ownBlock := hgr
          have hnot : ∀ j, j < w.heap.size + 2 → some j ≠ u7.ownBlock := fun j hj e => by have := (hown4.lt j e.symm).1; omega
          have hk1 : ∀ j, j < w.heap.size + 2 → w1.heap[j]? = w4.heap[j]? := fun j hj => (hgr'.block j (by simp; omega) (hnot j hj)).trans (Below.heap_alloc w4 _ j (by omega))
          refine ⟨adel L k, acc ++ [k], by omega, hR'.kept (hk1 _ (by omega)) (hk1 _ (by omega)), by simpa using hown1, (hk1 _ (by omega)).trans hwt4, (hbl4.alloc (by omega) _).grown hgr' (by simp; omega) (fun b hb => by have := (hown4.lt b hb).1; omega), Lib.hid ?_, adel_nodup _ _ hnd, by simp; omega, ?_⟩
          · rw [if_pos (by simpa using h2)] at hst; simpa using hst
          · have := hgr'.size; simp at this; omega
      · go_roundg (L.length - 1)
        case measure => omega
        case rel =>
          rename_i h1 h2
          refine ⟨adel L k, acc, by omega, hR', hown4, hwt4, hbl4, Lib.hid ?_, adel_nodup _ _ hnd, by omega, by omega⟩
          rw [if_neg (by simp at h2 ⊢; rcases h2 with h2 | h2 <;> simp [h2])] at hst; exact hst
end Go.Proofs.Ytnficiohnhodiaa
