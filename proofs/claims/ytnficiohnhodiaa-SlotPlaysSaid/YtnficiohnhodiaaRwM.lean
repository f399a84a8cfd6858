import Derived.Test.YtnficiohnhodiaaRwL
/-
  The law of the slots: filled.
-/
namespace Go.Proofs.Ytnficiohnhodiaa
open Go.RowKit
def fillL (l : List UInt8) : List UInt8 := l.take 512 ++ List.replicate (512 - l.length) 0
theorem fillL_len (l : List UInt8) : (fillL l).length = 512 := by unfold fillL; simp only [List.length_append, List.length_take, List.length_replicate]; omega
theorem fillL_splice (l : List UInt8) : splice (bytesV blank) 0 (bytesV (l.take 512)) = bytesV (fillL l) := by
  have h : ∀ n : Nat, splice (bytesV (List.replicate n 0)) 0 (bytesV (l.take n)) = bytesV (l.take n ++ List.replicate (n - l.length) 0) := fun n => by
    unfold splice bytesV
    simp only [List.take_zero, List.nil_append, List.map_append, List.map_take, List.map_replicate, List.length_take, List.length_map, List.drop_replicate, Nat.zero_add]
    congr 2
    omega
  exact h 512
theorem sub_heap {w : World} {B g : Nat} {l : List UInt8} {T : TypeId} (h : w.heap[g]? = some (.cells (bytesV l).toArray T (0, 0))) (hB : B ≤ g) (hl : l.length = 512) : SubRow w B (.slice (some ⟨g, 0, none⟩) 512 512) (bytesV l) := by
  refine .inr ⟨g, 0, 512, by rw [bytesV_len, hl], hB, lt_of h, by rw [bytesV_len, hl]; exact Nat.le_refl _, by unfold maxLen; omega, fun j hj => ⟨?_, free_in h⟩, fun j u hu => ?_⟩
  · obtain ⟨u, hu⟩ : ∃ u, (bytesV l)[j]? = some u := ⟨_, List.getElem?_eq_getElem (by rw [bytesV_len]; omega)⟩
    have := cell_in (o := j) h (by rw [List.getElem?_toArray]; exact hu)
    rw [Nat.zero_add, this]; rfl
  · rw [Nat.zero_add]
    exact cell_in (o := j) h (by rw [List.getElem?_toArray]; exact hu)
set_option maxRecDepth 100000 in
theorem filled_any {w : World} {v : Value} {l : List UInt8} (hv : Bytes w v l) : Calls Try.prog 68 #[v] w fun e w' => ∃ g, e = .returned (.slice (some ⟨g, 0, none⟩) 512 512) ∧ SubRow w' w.heap.size (.slice (some ⟨g, 0, none⟩) 512 512) (bytesV (fillL l)) ∧ Below w.heap.size w w' := by
  have hmk : ∀ w : World, (Instr.makeSlice 52 (.int .i64 512) (.int .i64 512)).run Try.prog w = .ok (.slice (some ⟨w.heap.size, 0, none⟩) 512 512) (w.alloc (.cells (bytesV (List.replicate 512 0)).toArray 5)) := fun w => make_zeros 512 (by omega) w
  have Hv := Lib.hid hv
  obtain ⟨q, cap, rfl, _, _, h3⟩ := hv
  have Hn : Hid ((bytesV (l.take 512)).length = Nat.min l.length 512) := Lib.hid (by rw [bytesV_len, List.length_take, Nat.min_comm])
  have H3 := Lib.hid h3
  clear h3
  have hw0 : (w.alloc (.cells (bytesV (List.replicate 512 0)).toArray 5)).heap[w.heap.size]? = some (.cells (bytesV blank).toArray 5 (0, 0)) := heap_alloc_new _ _
  have hfit : 0 + (bytesV (l.take 512)).length ≤ (bytesV blank).length := by rw [bytesV_len, bytesV_len, List.length_take, show blank.length = 512 from List.length_replicate]; omega
  go_enter Try.func68, Try.ntmps68
  go_wp2_with (refine wpList_copy_splice rfl (.tmp 5) (.tmp 6) 52 52 rfl 5 Try.underlying52 (by kernel_rfl) (some ⟨w.heap.size, 0, none⟩) q 512 512 l.length cap rfl rfl w.heap.size 0 (bytesV blank) 5 hw0 (bytesV (l.take 512)) Hn.out ?_ hfit (bytesV_one _) w.heap.size w ((Below.refl _ _).alloc (Nat.le_refl _) _) (Nat.le_refl _) ?_)
  · intro hp
    obtain ⟨q', cap', e, _, _, h3'⟩ := Hv.out.below ((Below.refl w.heap.size w).alloc (Nat.le_refl _) (.cells (bytesV (List.replicate 512 0)).toArray 5))
    injection e with e1 e2 e3
    subst e1
    have hl : 0 < l.length := by rw [bytesV_len, List.length_take] at hp; omega
    obtain ⟨b0, hb0⟩ : ∃ b, l[0]? = some b := ⟨_, List.getElem?_eq_getElem hl⟩
    obtain ⟨a, ea, _⟩ := h3' 0 b0 hb0
    subst ea
    suffices hsuf : ∀ (j : Nat) (u : Value), (bytesV (l.take 512))[j]? = some u → (w.alloc (.cells (bytesV (List.replicate 512 0)).toArray 5)).cell? (a.add j) = some u by first | exact ⟨a, rfl, hsuf⟩ | exact ⟨rfl, a, rfl, hsuf⟩ | exact hsuf
    intro j u hu
    unfold bytesV at hu
    rw [List.getElem?_map] at hu
    cases hj : (l.take 512)[j]? with
    | none => rw [hj] at hu; cases hu
    | some b =>
      rw [hj] at hu
      cases hu
      have hj2 : l[j]? = some b := by
        rw [List.getElem?_take] at hj
        split at hj
        · exact hj
        · cases hj
      obtain ⟨a2, ea2, hc⟩ := h3' j b hj2
      cases ea2
      exact hc
  · intro w1 h1 b1
    have H1 := Lib.hid (And.intro h1.out b1)
    clear h1 b1
    go_wp2
    go_ret
    refine ⟨w.heap.size, rfl, sub_heap (T := 5) ?_ (Nat.le_refl _) (fillL_len l), H1.out.2⟩
    rw [← fillL_splice]
    exact H1.out.1
end Go.Proofs.Ytnficiohnhodiaa
