import Derived.Test.YtbaphjnglkocpaaDev
import Derived.Laws.OwnMore
import Derived.Lib.AppendZeros
/-
  A row of the call's own whose block and room are known: what is stored, what is appended within its room.
-/
namespace Go.Proofs.Ytbaphjnglkocpaa
open Go.RowKit
structure RowAt (w : World) (g cap : Nat) (xs : List Value) : Prop where
  len : xs.length ≤ cap
  there : ∀ j, j < cap → (w.cell? ⟨g, j, none⟩).isSome = true ∧ w.frozen? ⟨g, j, none⟩ = false
  at_ : ∀ j u, xs[j]? = some u → w.cell? ⟨g, j, none⟩ = some u
theorem RowAt.lt {w : World} {g cap : Nat} {xs : List Value} (h : RowAt w g cap xs) (hc : 0 < cap) : g < w.heap.size := by
  obtain ⟨u, hu⟩ := Option.isSome_iff_exists.1 (h.there 0 hc).1
  exact World.block_lt_of_cell? w ⟨g, 0, none⟩ hu
theorem RowAt.keeps {S : Nat → Prop} {w w' : World} {g cap : Nat} {xs : List Value} (h : RowAt w g cap xs) (hc : 0 < cap) (hk : Keeps S w w') (hs : ¬ S g) : RowAt w' g cap xs := by
  have hb := hk.block g (h.lt hc) hs
  refine ⟨h.len, fun j hj => ?_, fun j u hu => ?_⟩
  · rw [World.cell?_of_block (a := ⟨g, j, none⟩) hb, World.frozen?_of_block (a := ⟨g, j, none⟩) hb]; exact h.there j hj
  · rw [World.cell?_of_block (a := ⟨g, j, none⟩) hb]; exact h.at_ j u hu
theorem RowAt.below {w w' : World} {g cap : Nat} {xs : List Value} (h : RowAt w g cap xs) (hc : 0 < cap) (hb : Below w.heap.size w w') : RowAt w' g cap xs := h.keeps (S := fun _ => False) hc (Keeps.of_below hb) (fun e => e)
theorem RowAt.of_block {w : World} {g : Nat} {xs more : List Value} {T : TypeId} (h : w.heap[g]? = some (.cells (xs ++ more).toArray T (0, 0))) : RowAt w g (xs ++ more).length xs := by
  refine ⟨by rw [List.length_append]; omega, fun j hj => ⟨?_, free_in h⟩, fun j u hu => cell_in h ?_⟩
  · rw [cell_in (u := (xs ++ more)[j]'hj) h (by simp [List.getElem?_eq_getElem hj])]; rfl
  · rw [List.getElem?_toArray, List.getElem?_append_left (List.getElem?_eq_some_iff.1 hu).1]; exact hu
theorem RowAt.set {w : World} {g cap : Nat} {xs : List Value} (h : RowAt w g cap xs) (i : Nat) (hi : i < xs.length) (v : Value) : RowAt (w.setCell ⟨g, i, none⟩ v) g cap (xs.set i v) := by
  have hic := h.at_ i (xs[i]'hi) (List.getElem?_eq_getElem hi)
  refine ⟨by rw [List.length_set]; exact h.len, fun j hj => ?_, fun j u hu => ?_⟩
  · rw [World.frozen?_setCell]
    by_cases e : i = j
    · subst e; rw [World.cell?_setCell_same _ _ _ hic]; exact ⟨rfl, (h.there i hj).2⟩
    · rw [World.cell?_setCell_other _ _ _ _ (by simp)]; exact h.there j hj
  · rw [List.getElem?_set] at hu
    by_cases e : i = j
    · subst e; rw [if_pos rfl, if_pos hi] at hu; cases hu; exact World.cell?_setCell_same _ _ _ hic
    · rw [if_neg e] at hu; rw [World.cell?_setCell_other _ _ _ _ (by simp)]; exact h.at_ j u hu
theorem RowAt.app {w : World} {g cap : Nat} {xs : List Value} (h : RowAt w g cap xs) (news : List Value) (hr : xs.length + news.length ≤ cap) : RowAt (w.setCells g xs.length news) g cap (xs ++ news) := by
  refine ⟨by rw [List.length_append]; exact hr, fun j hj => ⟨World.isSome_setCells _ _ _ _ _ (h.there j hj).1, by rw [World.frozen?_setCells]; exact (h.there j hj).2⟩, fun j u hu => ?_⟩
  by_cases hj : j < xs.length
  · rw [List.getElem?_append_left hj] at hu
    rw [World.cell?_setCells_out _ _ _ _ _ (fun _ _ => .inl hj)]; exact h.at_ j u hu
  · have hj2 := (List.getElem?_eq_some_iff.1 hu).1
    rw [List.length_append] at hj2
    rw [List.getElem?_append_right (by omega)] at hu
    have hin := World.cell?_setCells_in g news xs.length w (fun i hi => (h.there _ (by omega)).1) (j - xs.length) (by omega)
    rw [show xs.length + (j - xs.length) = j from by omega] at hin
    rw [hin, ← hu, List.getElem?_eq_getElem (by omega)]
theorem RowAt.sub {w : World} {B g cap : Nat} {xs : List Value} (h : RowAt w g cap xs) (hc : 0 < cap) (hm : cap ≤ maxLen) (hB : B ≤ g) : SubRow w B (.slice (some ⟨g, 0, none⟩) xs.length cap) xs :=
  .inr ⟨g, 0, cap, rfl, hB, h.lt hc, h.len, hm, fun j hj => by rw [Nat.zero_add]; exact h.there j hj, fun j u hu => by rw [Nat.zero_add]; exact h.at_ j u hu⟩
theorem RowAt.bytes {w : World} {g cap : Nat} {l : List UInt8} (h : RowAt w g cap (bytesV l)) (hm : cap ≤ maxLen) : Bytes w (.slice (some ⟨g, 0, none⟩) l.length cap) l := by
  have hl := h.len
  rw [bytesV_len] at hl
  exact ⟨_, cap, rfl, hl, hm, fun j b hb => ⟨_, rfl, by rw [Addr.add_mid, Nat.zero_add]; exact h.at_ j _ (by unfold bytesV; rw [List.getElem?_map, hb]; rfl)⟩⟩
section
variable {P : Program}
theorem run_append_in {w : World} {t ty e : TypeId} {i : TypeInfo} (ht : P.underlying t = some (.slice e)) (hi : P.info? e = some i) (hs1 : i.size = 1) {g cap : Nat} {xs : List Value} (h : RowAt w g cap xs) (n : Nat) (hn : n = xs.length)
    {x : Value} {news : List Value} (hs : Src P 1 t x news.length news w) (hr : xs.length + news.length ≤ cap) :
    (Builtin.append_ #[t, t] ty #[.slice (some ⟨g, 0, none⟩) n cap, x]).run P w = .ok (.slice (some ⟨g, 0, none⟩) (n + news.length) cap) (w.setCells g n news) := by
  subst hn
  have := run_append_room_src (P := P) w t t ty e i ht hi g 0 xs.length cap x news.length news (by rw [hs1]; exact hs) hr (fun j hj => by rw [hs1, Nat.zero_add, Nat.mul_one]; exact (h.there _ (by omega)).1) (fun j hj => by rw [hs1, Nat.zero_add, Nat.mul_one]; exact (h.there _ (by omega)).2)
  rwa [hs1, Nat.zero_add, Nat.mul_one] at this
/-- 'append(s, make([]T, k)...)' within the room -/
theorem run_append_zeros_in {w : World} {t tn ty e : TypeId} {i : TypeInfo} {z : Value} {kn : IntKind} (ht : P.underlying t = some (.slice e)) (htn : P.underlying tn = some (.int kn)) (hi : P.info? e = some i) (hz : i.zero = some z) (hs1 : i.size = 1) (hb : i.bytes ≤ 8) (hzc : z.cells = #[z]) (hz1 : z.oneCell' = true)
    {g cap : Nat} {xs : List Value} (h : RowAt w g cap xs) (n : Nat) (hn : n = xs.length) (k : Nat) (hr : xs.length + k ≤ cap) (hk : k ≤ 1000000000000) :
    (Builtin.append_ #[t, tn] ty #[.slice (some ⟨g, 0, none⟩) n cap, .int .i64 (k : Int)]).run P w = .ok (.slice (some ⟨g, 0, none⟩) (n + k) cap) (w.setCells g n (List.replicate k z)) := by
  subst hn
  have hst := run_storeCells_cells (P := P) g xs.length (List.replicate k z) 0 w (fun j hj => by rw [List.length_replicate] at hj; rw [Nat.add_zero]; exact (h.there _ (by omega)).1) (fun j hj => by rw [List.length_replicate] at hj; rw [Nat.add_zero]; exact (h.there _ (by omega)).2) (fun v hv => by rw [List.eq_of_mem_replicate hv]; exact hz1)
  simp only [Nat.add_zero] at hst
  have hw : IntKind.i64.wrap (k : Int) = k := by rw [IntKind.wrap_i64]; omega
  have hneg : ¬ ((k : Int) < 0) := by omega
  have h48i : ¬ (281474976710656 < (k : Int) * (i.bytes : Int)) := by
    rw [← Int.natCast_mul]
    have : k * i.bytes ≤ 1000000000000 * 8 := Nat.mul_le_mul hk hb
    omega
  have hzs : Builtin.zeroCells z.cells k = (List.replicate k z).toArray := by
    apply Array.ext'
    rw [hzc]
    show (madeCells #[z] (k * 1)).toList = _
    rw [Nat.mul_one, toList_madeCells_one]
  by_cases hk0 : k = 0
  · subst hk0
    have hw0 : IntKind.i64.wrap 0 = 0 := by decide
    simp [hw0, Builtin.append_, run_underlying ht, run_underlying htn, sizeOf, typeInfo, zeroValue, hi, hz, asInt, asIntOf, storeCells, World.setCells, h.len]
  · simp [Builtin.append_, run_underlying ht, run_underlying htn, sizeOf, typeInfo, zeroValue, hi, hz, hs1, asInt, asIntOf, hw, hneg, h48i, hr, hk0, hzs, Addr.add_lit, hst]
end
end Go.Proofs.Ytbaphjnglkocpaa
