import Derived.Test.YtnficiohnhodiaaRefE
/-
  The document's device: Unsynced.
-/
namespace Go.Proofs.Ytnficiohnhodiaa
open Go.RowKit
theorem infoInt : (Try.prog.info? 3).map (fun i => (i.zero, i.size, i.bytes)) = some (some (.int .i64 0), 1, 8) := by kernel_rfl
theorem src_cell {P : Program} {w : World} {t e : TypeId} (ht : P.underlying t = some (.slice e)) (x : Value) (hx : x.oneCell' = true) (T : TypeId) : Src P 1 t (.slice (some ⟨w.heap.size, 0, none⟩) 1 1) [x].length [x] (w.alloc (.cells #[x] T)) := by
  refine Src.ofSlice _ ht ⟨w.heap.size, 0, none⟩ 1 1 _ (by simp) (fun j u hu => ?_) (fun u hu => by simp at hu; subst hu; exact hx)
  cases j with
  | zero => simp at hu; subst hu; exact cell_in (heap_alloc_new w _) rfl
  | succ j => simp at hu
theorem Ints.of_sub {w : World} {B : Nat} {v : Value} {L : List Int} (h : SubRow w B v (L.map (Value.int .i64))) : Ints w v L := by
  rcases h with ⟨rfl, e⟩ | ⟨g, off, cap, rfl, _, _, h3, h4, _, h6⟩
  · have : L = [] := by simpa using e
    subst this
    exact ⟨none, 0, rfl, Nat.le_refl _, Nat.zero_le _, fun j x hx => by simp at hx⟩
  · rw [List.length_map] at h3
    exact ⟨_, cap, by rw [List.length_map], h3, h4, fun j x hx => ⟨g, off, rfl, h6 j _ (by rw [List.getElem?_map, hx]; rfl)⟩⟩
def Dev.unsTo (d : Dev) (i : Nat) : List Int := ((List.range i).filter fun (i : Nat) => d.chg i).map fun (i : Nat) => (i : Int)
theorem unsTo_succ (d : Dev) (i : Nat) : d.unsTo (i + 1) = if d.chg i then d.unsTo i ++ [(i : Int)] else d.unsTo i := by
  unfold Dev.unsTo
  rw [List.range_succ, List.filter_append]
  cases h : d.chg i <;> simp [h]
theorem unsTo_len (d : Dev) (i : Nat) : (d.unsTo i).length ≤ i := by
  unfold Dev.unsTo
  rw [List.length_map]
  exact Nat.le_trans (List.length_filter_le _ _) (by simp)
section
variable {w : World} {B : Nat} {A : RAd} {d : Dev} {L : Int} {n : Nat}
theorem RefAt.mark (h : RefAt w B A d L) {i : Nat} (hi : i < d.size.toNat) : ∃ gc oc cc, A.vc = .slice (some ⟨gc, oc, none⟩) d.size.toNat cc ∧ w.cell? ⟨gc, oc + i, none⟩ = some (.bool (d.chg i)) := by
  rcases h.chg with ⟨_, e⟩ | ⟨gc, oc, cc, e, _, _, _, _, _, h6⟩
  · have := congrArg List.length e; rw [boolsV_len] at this; simp only [List.length_nil] at this; omega
  · rw [boolsV_len] at e; exact ⟨gc, oc, cc, e, h6 i _ (boolsV_at _ hi)⟩
set_option maxRecDepth 100000 in
set_option maxHeartbeats 1000000 in
theorem runsynced_any (h : RefAt w B A d L) (hz : 1 ≤ d.size) (hz2 : d.size ≤ 4096) : Calls Try.prog 30 #[.pointer (some ⟨A.b, 0, none⟩)] w fun e w' => ∃ v, e = .returned v ∧ SubRow w' w.heap.size v (d.unsynced.map (Value.int .i64)) ∧ Below w.heap.size w w' := by
  have H := Lib.hid h
  obtain ⟨N, hN⟩ : ∃ N : Nat, d.size.toNat = N := ⟨_, rfl⟩
  have HN := Lib.hid hN
  have hN2 : N ≤ 4096 := by omega
  obtain ⟨i0, hi, hz0, hz1, hz2'⟩ := info_parts infoInt
  clear h hN
  go_enter Try.func30, Try.ntmps30
  go_wp2
  go_loopw [3, 4] (fun v t wr => ∃ i : Nat, t = .int .i64 i ∧ i ≤ N ∧ SubRow wr w.heap.size v ((d.unsTo i).map (Value.int .i64)) ∧ Below w.heap.size w wr) (fun _ t _ => N - (intOf t).toNat)
  case atStart => exact ⟨0, rfl, Nat.zero_le _, .inl ⟨rfl, rfl⟩, Below.refl _ _⟩
  case round =>
    obtain ⟨i, rfl, hiN, hO, hb⟩ := hrel
    have HR := Lib.hid (H.out.below hb)
    have c0 := HR.out.cells.c0
    obtain ⟨q0, cc0, ev, _, _⟩ := HR.out.now.form
    rw [ev, HN.out] at c0
    clear ev
    by_cases hlt : i < N
    · have e1 : decide ((i : Int) < (N : Int)) = true := by simp; omega
      obtain ⟨gc, oc, cc, evc, hcc⟩ := HR.out.mark (i := i) (by rw [HN.out]; exact hlt)
      have c2 := HR.out.cells.c2
      rw [evc, HN.out] at c2
      have hun := unsTo_succ d i
      have Hul : Hid (((d.unsTo i).map (Value.int .i64)).length ≤ 4096) := Lib.hid (by rw [List.length_map]; have := unsTo_len d i; omega)
      have hbs := hb.size
      clear evc
      cases hch : d.chg i
      · rw [hch] at hcc hun
        rw [if_neg (by simp)] at hun
        have Hun := Lib.hid hun
        clear hch hun Hul
        go_wp2
        go_roundw
        case rel => exact ⟨i + 1, by go_num, by omega, by rw [Hun.out]; exact hO, hb⟩
        case measure => simp [intOf]; omega
      · rw [hch] at hcc hun
        rw [if_pos rfl] at hun
        have Hun := Lib.hid hun
        clear hch hun
        go_wp2_with (at_builtin; refine wpList_append_sub _ rfl _ _ 41 rfl 3 i0 (.int .i64 0) 8 Try.underlying41 hi hz0 hz1 hz2' rfl w.heap.size _ ((d.unsTo i).map (Value.int .i64)) rfl (hO.below ((Below.refl _ _).alloc (Nat.le_refl _) _)) _ rfl [.int .i64 i] (src_cell Try.underlying41 _ rfl _) (by have := Hul.out; simp only [List.length_cons, List.length_nil]; unfold maxLen; omega) (by have := Hul.out; simp only [List.length_cons, List.length_nil]; omega) (by simp; omega) ?_; intro v' w7 h7 hk7 hn7)
        have hlt7 := hO.lt
        have hb7 : Below w.heap.size w w7 := (hb.alloc hbs _).trans (hk7.below (by simp; omega) (fun j hj e => by have := (hlt7 j e).1; omega))
        have h7' : SubRow w7 w.heap.size v' ((d.unsTo (i + 1)).map (Value.int .i64)) := by rw [Hun.out, List.map_append]; exact h7
        clear hk7 hn7 hlt7 hO hb h7
        go_wp2
        go_roundw
        case rel => exact ⟨i + 1, by go_num, by omega, h7', hb7⟩
        case measure => simp [intOf]; omega
    · obtain rfl : i = N := by omega
      have e1 : decide ((i : Int) < (i : Int)) = false := by simp
      go_wp2
      go_ret
      have e2 : d.unsTo i = d.unsynced := by unfold Dev.unsTo Dev.unsynced; rw [HN.out]
      rw [e2] at hO
      exact ⟨_, rfl, hO, hb⟩
end
end Go.Proofs.Ytnficiohnhodiaa
