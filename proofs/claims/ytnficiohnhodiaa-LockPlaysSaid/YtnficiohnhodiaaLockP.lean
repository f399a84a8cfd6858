import Derived.Test.YtnficiohnhodiaaLockO
namespace Go.Proofs.Ytnficiohnhodiaa
open Go.RowKit
open Go.ChangeMaps (setBlock)
def RelAt (w : World) (p mp mw : Nat) (t : LT) (txn : Int) (it : Nat) (k : Nat) (v : Value) (wr : World) : Prop :=
  ∃ D : List Int, k = (todoP D t.pages).length ∧ v = .int .i64 (cntP txn D t.pages) ∧ Rng wr it mp (encP (curP txn D t.pages)) (encP (todoP D t.pages)) ∧ LTAt wr p mp mw { t.unwait txn with pages := curP txn D t.pages } ∧ Keeps (LTFoot p mp mw t) w wr
theorem todoP_le (D : List Int) (l : List Pg) : (todoP D l).length ≤ l.length := List.length_filter_le _ _
theorem cntP_le (txn : Int) (D : List Int) (l : List Pg) : cntP txn D l ≤ l.length := List.length_filter_le _ _
set_option maxRecDepth 100000 in
set_option maxHeartbeats 4000000 in
theorem release_any (w : World) (p mp mw : Nat) (t : LT) (txn : Int) (h : LTAt w p mp mw t) (hf : t.fit) :
    Calls Try.prog 8 #[.pointer (some ⟨p, 0, none⟩), .int .i64 txn] w fun e w' => e = .returned (.int .i64 (t.locksOf txn)) ∧ LTAt w' p mp mw (t.release txn) ∧ Keeps (LTFoot p mp mw t) w w' ∧ ∀ k, LTFoot p mp mw (t.release txn) k → LTFoot p mp mw t k := by
  have c1 := cell_in (o := 1) (u := .map (some mw)) h.self rfl
  have hn := h.pkeys
  have hne := h.ne
  have hlt := h.lt
  obtain ⟨w1, m, hd, hA, hK1, hsz, _, _⟩ := take_start h txn 0 0
  have c2 := cell_in (o := 0) (u := .map (some mp)) hA.self rfl
  obtain ⟨W2, r1, r2, r3, r4⟩ := run_range_im (P := Try.prog) Try.underlying75 hA.pages
  have hA2 : LTAt W2 p mp mw (t.unwait txn) := hA.keeps (S := fun _ => False) (Keeps.of_below r3) (fun _ _ hf => hf)
  have hK2 : Keeps (LTFoot p mp mw t) w W2 := (hK1.mono (T := LTFoot p mp mw t) (fun k _ e => by subst e; simp [LTFoot])).trans' (Keeps.of_below (S := fun _ => False) r3) (fun _ _ hf => hf.elim)
  have Hit : Hid (w1.heap.size = w.heap.size) := Lib.hid hsz
  have hpl := hf.pages
  have hlow := hf.low
  have hhigh := hf.high
  clear hsz r4 r3 hK1
  go_enter Try.func8, Try.ntmps8
  go_wp2
  clear hd r1 c1 c2 hA
  go_loopg [5] t.pages.length (fun k v wr => RelAt w p mp mw t txn w1.heap.size k v wr)
  case atStart => exact ⟨[], by rw [todoP_nil], by rw [cntP_nil]; rfl, by rw [todoP_nil, curP_nil]; exact r2, by rw [curP_nil]; exact hA2, hK2⟩
  case round =>
    clear r2 hA2 hK2
    obtain ⟨D, rfl, rfl, hR, hA, hK⟩ := hrel
    have hcl := cntP_le txn D t.pages
    rcases run_next_im (P := Try.prog) hR 0 with ⟨h0, hr⟩ | ⟨q, hq, w4, hr, hR4, hK4, hsz4, hent⟩
    · have hL : todoP D t.pages = [] := by unfold encP enc at h0; simpa using h0
      obtain ⟨e1, e2⟩ := curP_end (txn := txn) hL
      have c3 := cell_in (o := 2) (u := .int .i64 t.count) hA.self rfl
      have f3 := free_in (o := 2) hA.self
      rw [e2] at hcl ⊢
      rw [e1] at hA
      change _ ≤ _ at hcl
      have hA' := hA.setCount (t.count - t.locksOf txn)
      have hK' := hK.setCell (p := ⟨p, 2, none⟩) (.inl (by simp [LTFoot])) (.int .i64 (t.count - t.locksOf txn))
      rw [show (t.pages.filter fun x => !(modeIn x.2.2 txn == 0)).length = t.locksOf txn from rfl] at hcl ⊢
      go_wp2_with fail
      go_ret
      exact ⟨rfl, hA', hK', fun k hk => foot_cur (t := t) (t' := t.release txn) (txn := txn) (D := D) (by rw [e1]; rfl) k hk⟩
    · obtain ⟨x, hx, rfl⟩ := List.mem_map.1 hq
      obtain ⟨k, m, hs⟩ := x
      have hxp := List.mem_filter.1 hx
      have hxt : (k, m, hs) ∈ t.pages := hxp.1
      have hkD : k ∉ D := by simpa using hxp.2
      have hnit : w1.heap.size ≠ mp ∧ w1.heap.size ≠ m ∧ ∀ j, LTFoot p mp mw t j → j ≠ w1.heap.size := by
        have e := Hit.out
        have hm : LTFoot p mp mw t m := by unfold LTFoot LT.fp; simp only [List.mem_cons, List.mem_map]; exact .inr (.inr (.inr ⟨_, hxt, rfl⟩))
        exact ⟨fun e' => by have := hlt mp (by simp [LTFoot]); omega, fun e' => by have := hlt m hm; omega, fun j hj e' => by have := hlt j hj; omega⟩
      have hmf : LTFoot p mp mw t m := by unfold LTFoot LT.fp; simp only [List.mem_cons, List.mem_map]; exact .inr (.inr (.inr ⟨_, hxt, rfl⟩))
      have hfc : ∀ j, LTFoot p mp mw { t.unwait txn with pages := curP txn D t.pages } j → LTFoot p mp mw t j := foot_cur (t := t) (txn := txn) (D := D) rfl
      have hA4 := hA.keeps hK4 (fun j hj e => hnit.2.2 j (hfc j hj) e)
      have hK4' : Keeps (LTFoot p mp mw t) w w4 := hK.trans' hK4 (fun j hj e => by have := Hit.out; omega)
      have hin := hA4.inner (k, m, hs) (curP_mem hxt hkD)
      have hlk := look_in hin txn
      have he := hent w4 rfl rfl
      rw [show (encP (todoP D t.pages)).del k = encP (todoP (k :: D) t.pages) from by rw [todoP_step]; exact enc_del _ _ _] at hR4
      have hmeas : (todoP (k :: D) t.pages).length + 1 = (todoP D t.pages).length := by
        rw [todoP_step]
        have := (perm_adel (todoP D t.pages) (k, m, hs) (hn.sublist (List.filter_sublist.map _)) hx).length_eq
        simpa using this.symm
      have hcs := cnt_step (txn := txn) hxt hn hkD
      have hcp : aget (curP txn D t.pages) k = some (m, hs) := aget_of_mem (curP_keys txn D _ hn) (curP_mem hxt hkD)
      simp only at hcs hmeas
      clear hent hq hR hA hK hsz4
      by_cases h0 : modeIn hs txn = 0
      · rw [h0] at hlk
        rw [if_pos h0] at hcs
        have hpr : proc txn (k, m, hs) = some (k, m, hs) := by unfold proc; rw [if_pos h0]
        have hcc := congr_cur hxt hn hpr hkD
        simp only at hcc
        go_wp2_with fail
        go_roundg (todoP (k :: D) t.pages).length
        case measure => omega
        case rel => exact ⟨k :: D, rfl, by rw [hcs]; rfl, by rw [hcc]; exact hR4, by rw [hcc]; exact hA4, hK4'⟩
      · rw [if_neg h0] at hcs
        have h0b : (modeIn hs txn == 0) = false := by simpa using h0
        obtain ⟨w5, hd1, hd2, hd3, hd4⟩ := run_delete_im (P := Try.prog) Try.underlying79 Try.underlying3 hin txn 0 3
        rw [enc_del] at hd2
        have hln := run_len_im (P := Try.prog) Try.underlying79 hd2 3
        rw [show (enc (fun m : Int => Value.int .i64 m) (adel hs txn)).length = (adel hs txn).length from by unfold enc; simp] at hln
        have hA5 := hA4.setHolder hcp hd2 hd3
        have hK5 : Keeps (LTFoot p mp mw t) w w5 := hK4'.trans' hd3 (fun j hj e => by subst e; exact hmf)
        have hR5 := hR4.keeps hd3 hnit.2.1 (Ne.symm (hne.2.2.2.1 _ hxt).2.1)
        have he5 := encP_aput (hs' := adel hs txn) (curP_keys txn D _ hn) hcp
        have hcl2 := cntP_le txn (k :: D) t.pages
        clear hd2 hd3 hd4 hin hA4 hR4 hK4'
        by_cases hz : adel hs txn = []
        · have hpr : proc txn (k, m, hs) = none := by unfold proc; rw [if_neg h0, if_pos hz]
          have hcd := cur_del hxt hn hpr hkD
          rw [hz] at hln hA5 he5
          have c5 := cell_in (o := 0) (u := .map (some mp)) hA5.self rfl
          obtain ⟨w6, hx1, hx2, hx3, hx4⟩ := run_delete_rng (P := Try.prog) Try.underlying75 Try.underlying3 hR5 k 0 3
          have hA6 := hA5.delPage (page := k) (by have := hx2.imap; rw [← he5] at this; exact this) hx3
          simp only [adel_aput] at hA6
          have hK6 : Keeps (LTFoot p mp mw t) w w6 := hK5.trans' hx3 (fun j hj e => by subst e; simp [LTFoot])
          have htd : (encP (todoP (k :: D) t.pages)).del k = encP (todoP (k :: D) t.pages) := by
            apply del_none
            intro q hq e
            obtain ⟨y, hy, rfl⟩ := List.mem_map.1 hq
            have := (List.mem_filter.1 hy).2
            simp at this e; exact this.1 e
          rw [htd, show (encP (curP txn D t.pages)).del k = encP (adel (curP txn D t.pages) k) from enc_del _ _ _] at hx2
          simp only at hcd
          rw [← hcd] at hx2 hA6
          clear hx3 hx4 hR5 hA5 hK5
          go_wp2_with fail
          go_roundg (todoP (k :: D) t.pages).length
          case measure => omega
          case rel => exact ⟨k :: D, rfl, by rw [hcs]; simp, hx2, hA6, hK6⟩
        · have hpr : proc txn (k, m, hs) = some (k, m, adel hs txn) := by unfold proc; rw [if_neg h0, if_neg hz]
          have hcd := cur_put hxt hn hpr hkD
          have hlp : 0 < (adel hs txn).length := List.length_pos_iff.2 hz
          have hlp2 : ¬ ((adel hs txn).length = 0) := by omega
          simp only at hcd
          rw [← hcd] at hA5 he5
          rw [← he5] at hR5
          go_wp2_with fail
          go_roundg (todoP (k :: D) t.pages).length
          case measure => omega
          case rel => exact ⟨k :: D, rfl, by rw [hcs]; simp, hR5, hA5, hK5⟩
end Go.Proofs.Ytnficiohnhodiaa
