import Derived.Test.YtnficiohnhodiaaLockQ
namespace Go.Proofs.Ytnficiohnhodiaa
open Go.RowKit Go.Maps Go.Sort Go.Shelf
open Go.ChangeMaps (setBlock)
/-- slices.Sort's two contracts, at the fence that asks nothing -/
theorem sortsA (m : Nat) : AnyZI.SortsIn Try.prog Try.sortedA_ren Fence.wide m :=
  ⟨fun blk off cap ss W hH hblk hsz => callsIn_wide.2 (AnyM.slices_Sort_int Try.sortA blk off cap ss W hH hblk hsz),
   fun p cap W => callsIn_wide.2 (AnyM.slices_Sort_int_none Try.sortA p cap W)⟩
theorem seq_mono {α : Type} {F : Fence} {n : Nat} {P : Program} {g : Nat} {lb : Array Value} {enc : α → Value} {S S' : List α → Prop} {N N' : Nat} {w : World} (h : SeqGives F n P g lb enc S N w) (hS : ∀ xs, S xs → S' xs) (hN : N ≤ N') : SeqGives F n P g lb enc S' N' w :=
  fun l J W hW hJ hY h0 => (h l J W hW hJ (fun pre x W1 a b => hY pre x W1 a (by omega)) h0).mono fun _ _ ⟨a, xs, b, c⟩ => ⟨a, xs, hS xs b, c⟩
set_option maxRecDepth 100000 in
set_option maxHeartbeats 2000000 in
theorem holders_any (w : World) (p mp mw : Nat) (t : LT) (page : Int) (h : LTAt w p mp mw t) (hf : t.fit) (hw : ∀ x ∈ t.pages, ∀ q ∈ x.2.2, wfI q.1) :
    Calls Try.prog 17 #[.pointer (some ⟨p, 0, none⟩), .int .i64 page] w fun e w' => ∃ v, e = .returned v ∧ w'.ownsRow w.heap.size 3 1 v (t.holders page).length ((sortI ((t.holders page).map (·.1))).map (Value.int .i64)) ∧ Below w.heap.size w w' := by
  refine (callsIn_wide (n := 6)).1 ?_
  have c0 := cell_in (o := 0) (u := .map (some mp)) h.self rfl
  obtain ⟨m, l1, l2⟩ := look_page h page
  have hseq : SeqGives Fence.wide 2 Try.prog 73 #[.pointer (some ⟨w.heap.size, 0, none⟩)] encZ (fun ss => ss.Perm ((t.holders page).map (·.1))) (t.holders page).length (w.alloc (.cells #[.map m] 79)) := by
    have hc : (w.alloc (.cells #[.map m] 79)).cell? ⟨w.heap.size, 0, none⟩ = some (.map m) := cell_in (heap_alloc_new w _) rfl
    unfold LT.holders
    cases hx : aget t.pages page with
    | none =>
      rw [hx] at l2; simp only at l2; subst l2
      have hk := AnyZI.keys_gives_nil (ρ := Try.keysA_ren) { Try.keysA with } Fence.wide 2 trivial rfl w.heap.size _ (by simp) hc
      exact seq_mono hk (fun ss hs => by rw [hs]; exact List.Perm.refl _) (Nat.zero_le _)
    | some x =>
      rw [hx] at l2; obtain ⟨rfl, l2⟩ := l2
      have hmem := aget_mem hx
      have hsm := hf.small _ hmem
      obtain ⟨D, hD, hD2, hD3⟩ := own_im l2 (fun q hq => by obtain ⟨y, hy, rfl⟩ := List.mem_map.1 hq; exact hw _ hmem y hy) (by simpa [enc] using hsm)
      have hbl := hD.lt
      have hD' : (w.alloc (.cells #[.map (some x.1)] 79)).ownsMap Try.prog 3 anyElem x.1 (enc (fun m : Int => Value.int .i64 m) x.2).length D := by
        obtain ⟨es, clock, hb, Ft, hs, hD⟩ := hD
        exact ⟨es, clock, (Below.heap_alloc _ _ _ hbl).trans hb, Ft, hs, hD⟩
      have hk := AnyZI.keys_gives (ρ := Try.keysA_ren) { Try.keysA with } Fence.wide 2 trivial rfl (by omega) w.heap.size x.1 _ D _ (by simp) hc hD'
      refine seq_mono hk (fun ss hs => hs.trans ?_) ?_
      · refine hD2.trans ?_
        unfold enc; simp [List.map_map, Function.comp_def]
      · rw [hD3]; simp [enc]
  have hle := hf.small.holders page
  have cK : ∀ mb W, CallsIn Fence.wide 5 Try.prog 44 #[.map mb] W fun e w' => e = .returned (.func (.func 73) #[] #[.pointer (some ⟨W.heap.size, 0, none⟩)]) ∧ w' = W.alloc (.cells #[.map mb] 79) := fun mb W => AnyZI.keys_in Try.keysA Fence.wide 5 trivial rfl mb W
  have cS := AnyZI.sorted_in Try.sortedA Fence.wide 5 trivial trivial trivial trivial rfl (by omega) (sortsA _) (enters_of Try.func70 (by kernel_rfl) rfl) 73 #[.pointer (some ⟨w.heap.size, 0, none⟩)] trivial (enters_of Try.func73 (by kernel_rfl) rfl) _ _ (by unfold maxLen; omega) (by omega) _ hseq
  change CallsIn _ _ Try.prog 43 _ _ _ at cS
  have hfK : Fence.wide.fn 44 := trivial
  have hfS : Fence.wide.fn 43 := trivial
  clear h l2
  refine callsIn_of_wp Try.func17 rfl trivial ?_ rfl
  simp only [Try.ntmps17, List.size_toArray, List.length_cons, List.length_nil, Nat.reduceAdd, Nat.reduceSub, Array.replicate_succ, Array.replicate_zero, List.push_toArray, List.append_toArray, List.nil_append, List.cons_append]
  gi_wp2_with (first
    | (gi_at_call 44; refine (cK _ _).mono ?_; rintro e w' ⟨rfl, rfl⟩)
    | (gi_at_call 43; refine cS.mono ?_; rintro e w' ⟨v, ss, rfl, hS, hrow, hnil, hb⟩))
  go_ret
  refine ⟨v, rfl, ?_, ((Below.refl _ w).alloc (Nat.le_refl _) _).trans (hb.mono (by simp))⟩
  have e1 : (sortI ss) = sortI ((t.holders page).map (·.1)) := sortI_perm hS
  rw [← e1, show (t.holders page).length = ss.length from by have := hS.length_eq; simpa using this.symm]
  exact owns_lower hrow (by simp)
end Go.Proofs.Ytnficiohnhodiaa
