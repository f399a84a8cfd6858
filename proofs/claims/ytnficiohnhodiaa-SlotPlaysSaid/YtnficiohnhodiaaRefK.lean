import Derived.Test.YtnficiohnhodiaaRefJ
/-
  palimpsestnum: Copy, Kept.
-/
namespace Go.Proofs.Ytnficiohnhodiaa
open Go.RowKit
theorem make_empty (m : Nat) (hm : m ≤ 1000000010) : ∃ cs : Array Value, ∀ w : World, (Instr.makeSlice 52 (.int .i64 0) (.int .i64 (m : Int))).run Try.prog w = .ok (.slice (some ⟨w.heap.size, 0, none⟩) 0 m) (w.alloc (.cells cs 5)) ∧
    SubRow (w.alloc (.cells cs 5)) w.heap.size (.slice (some ⟨w.heap.size, 0, none⟩) 0 m) [] := by
  obtain ⟨i0, hi, hz0, hz1, hz2⟩ := info_parts info8
  have hr := fun w : World => run_make (P := Try.prog) w 52 5 i0 (.int .u8 0) Try.underlying52 hi hz0 .i64 .i64 0 (m : Int) (by omega) (by omega) (by rw [hz2]; omega) (by omega)
  simp only [hz1, Nat.mul_one, Int.toNat_natCast] at hr
  refine ⟨_, fun w => ⟨hr w, ?_⟩⟩
  have hsz : (madeCells (Value.int .u8 0).cells m).size = m := by
    show (madeCells #[Value.int .u8 0] m).size = _
    rw [← Array.length_toList, toList_madeCells_one, List.length_replicate]
  have hh := heap_alloc_new w (.cells (madeCells (Value.int .u8 0).cells m) 5)
  generalize madeCells (Value.int .u8 0).cells m = cs at hsz hh ⊢
  refine .inr ⟨w.heap.size, 0, m, rfl, Nat.le_refl _, by simp, Nat.zero_le _, by unfold maxLen; omega, fun j hj => ?_, fun j u hu => by simp at hu⟩
  rw [Nat.zero_add, cell_in (o := j) (u := cs[j]'(by rw [hsz]; exact hj)) hh (Array.getElem?_eq_getElem _)]
  exact ⟨rfl, free_in hh⟩
theorem lit2 (w : World) : Bytes (w.alloc (.cells #[.int .u8 165, .int .u8 90] 5)) (.slice (some ⟨w.heap.size, 0, none⟩) 2 2) [165, 90] := by
  have hh := heap_alloc_new w (.cells #[.int .u8 165, .int .u8 90] 5)
  refine ⟨_, 2, rfl, Nat.le_refl _, by unfold maxLen; omega, fun j b hb => ⟨_, rfl, ?_⟩⟩
  match j, hb with
  | 0, hb => cases hb; exact cell_in hh rfl
  | 1, hb => cases hb; exact cell_in hh rfl
  | j + 2, hb => simp at hb
set_option maxRecDepth 100000 in
set_option maxHeartbeats 1000000 in
theorem copy_any {w : World} {v : Value} {l : List UInt8} (hv : Bytes w v l) (hl : l.length ≤ 1000000000) : Calls Try.prog 50 #[v] w fun e w' => ∃ g o c, e = .returned (.slice (some ⟨g, o, none⟩) l.length c) ∧ SubRow w' w.heap.size (.slice (some ⟨g, o, none⟩) (l.length + 2) c) (bytesV (l ++ [165, 90])) ∧ Below w.heap.size w w' := by
  obtain ⟨i0, hi, hz0, hz1, hz2⟩ := info_parts info8
  have Hv := Lib.hid hv
  obtain ⟨q, cap, rfl, hc1, hc2, _⟩ := hv
  obtain ⟨n, hn⟩ : ∃ n : Nat, l.length = n := ⟨_, rfl⟩
  rw [hn] at hl hc1 Hv ⊢
  have Hn := Lib.hid hn
  obtain ⟨cs, hcs⟩ := make_empty (n + 2) (by omega)
  have hmk : ∀ w : World, (Instr.makeSlice 52 (.int .i64 0) (.int .i64 ((n : Int) + 2))).run Try.prog w = .ok (.slice (some ⟨w.heap.size, 0, none⟩) 0 (n + 2)) (w.alloc (.cells cs 5)) := fun w => (hcs w).1
  have Hs0 : Hid (SubRow (w.alloc (.cells cs 5)) w.heap.size (.slice (some ⟨w.heap.size, 0, none⟩) 0 (n + 2)) []) := Lib.hid (hcs w).2
  have Hb0 : Hid (Below w.heap.size w (w.alloc (.cells cs 5))) := Lib.hid ((Below.refl _ _).alloc (Nat.le_refl _) _)
  have hsrc := (Hv.out.below Hb0.out).src
  have hlb : (bytesV l).length = n := by rw [bytesV_len, hn]
  have Hlb := Lib.hid hlb
  have hnn : (n : Int) + 2 ≤ 9223372036854775807 := by omega
  clear hcs hc2 hn hlb
  go_enter Try.func50, Try.ntmps50
  go_wp2_with (first
    | (at_builtin; refine wpList_append_sub _ rfl _ _ 52 rfl 5 i0 (.int .u8 0) 1 Try.underlying52 hi hz0 hz1 hz2 rfl w.heap.size _ [] rfl Hs0.out _ rfl _ hsrc (by rw [Hlb.out]; simp; unfold maxLen; omega) (by rw [Hlb.out]; simp; omega) (by simp) ?_; intro v1 w1 h1 hk1 hn1; clear hsrc hmk; have H1 : Hid (SubRow w1 w.heap.size v1 (bytesV l)) := Lib.hid h1; (have B1 : Hid (Below w.heap.size w w1) := Lib.hid (Hb0.out.trans (hk1.below (by simp) (fun k hk e => by have e2 : k = w.heap.size := (by cases e; rfl); omega)))); clear h1 hk1 hn1)
    | (at_builtin; refine wpList_append_sub _ rfl _ _ 52 rfl 5 i0 (.int .u8 0) 1 Try.underlying52 hi hz0 hz1 hz2 rfl w.heap.size _ (bytesV l) rfl (H1.out.below ((Below.refl _ _).alloc (Nat.le_refl _) _)) _ rfl _ (lit2 _).src (by rw [Hlb.out, bytesV_len]; simp only [List.length_cons, List.length_nil]; unfold maxLen; omega) (by rw [Hlb.out, bytesV_len]; simp only [List.length_cons, List.length_nil]; omega) (by have := B1.out.size; simp; omega) ?_; intro v2 w2 h2 hk2 hn2; (have hS : SubRow w2 w.heap.size v2 (bytesV (l ++ [165, 90])) := (by unfold bytesV at h2 ⊢; rw [List.map_append]; exact h2)); (have B2 : Hid (Below w.heap.size w w2) := Lib.hid (B1.out.trans (((Below.refl _ w1).alloc B1.out.size _).trans (hk2.below (by have := B1.out.size; simp; omega) (fun k hk e => by have := (H1.out.lt k e).1; omega))))); (obtain ⟨g, o, c, ev, _, _⟩ := rowForm hS (by rw [List.length_append]; simp)); (have hcap := hS.form); (rw [show (l ++ [(165 : UInt8), 90]).length = n + 2 from by rw [List.length_append, ← Hn.out]; rfl] at ev); subst ev; (have hcc : n ≤ c := by obtain ⟨q', c', e, h1, h2⟩ := hcap; rw [bytesV_len, List.length_append, Hn.out] at e h1; injection e with _ _ e; simp at h1; omega); have HS := Lib.hid hS; clear hS h2 hk2 hn2 hcap))
  go_ret
  exact ⟨g, o, c, rfl, HS.out, B2.out⟩
/-- a row and its two marks: the row alone -/
theorem SubRow.part {w : World} {B g o n c : Nat} {l m : List UInt8} (h : SubRow w B (.slice (some ⟨g, o, none⟩) (n + 2) c) (bytesV (l ++ m))) (hn : l.length = n) : Bytes w (.slice (some ⟨g, o, none⟩) n c) l := by
  subst hn
  rcases h with ⟨e, _⟩ | ⟨g', o', c', e, h1, h2, h3, h4, h5, h6⟩
  · cases e
  injection e with e1 e2 e3
  injection e1 with e1
  injection e1 with e4 e5 _
  subst e4 e5 e3
  rw [bytesV_len, List.length_append] at h3
  refine ⟨_, c, rfl, by omega, h4, fun j b hb => ⟨_, rfl, ?_⟩⟩
  have hj := (List.getElem?_eq_some_iff.1 hb).1
  have := h6 j (byteV b) (bytesV_get (by rw [List.getElem?_append_left hj]; exact hb))
  unfold Addr.add
  split
  · rename_i h0; subst h0; simpa using this
  · simpa using this
set_option maxRecDepth 100000 in
set_option maxHeartbeats 1000000 in
theorem kept_any {w : World} {B g o n c : Nat} {v : Value} {l : List UInt8} (hS : SubRow w B (.slice (some ⟨g, o, none⟩) (n + 2) c) (bytesV (l ++ [165, 90]))) (hn : l.length = n) (hv : Bytes w v l) (hl : n ≤ 1000000000) :
    Calls Try.prog 52 #[.slice (some ⟨g, o, none⟩) n c, v] w fun e w' => e = .returned (.bool true) ∧ w = w' := by
  have hb := hS.part hn
  have hc1 := conv_bytes hb
  have hc2 := conv_bytes hv
  obtain ⟨q, cap, rfl, _, _, _⟩ := hv
  obtain ⟨k1, _⟩ := hS.cellAt (j := n) (u := .int .u8 165) (by rw [← hn]; unfold bytesV; rw [List.map_append, List.getElem?_append_right (by simp)]; simp; rfl)
  obtain ⟨k2, _⟩ := hS.cellAt (j := n + 1) (u := .int .u8 90) (by rw [← hn]; unfold bytesV; rw [List.map_append, List.getElem?_append_right (by simp)]; simp; rfl)
  have hcap : n + 2 ≤ c := by obtain ⟨q', c', e, h1, h2⟩ := hS.form; rw [bytesV_len, List.length_append, hn] at e h1; injection e with _ _ e; simp at h1; omega
  have e1 : decide ((c : Int) < (n : Int) + 2) = false := by simp; omega
  have e2 : (n : Int) + 2 ≤ (c : Int) := by omega
  rw [hn] at hc2 ⊢
  generalize strB l = sl at hc1 hc2
  clear hb hS
  go_enter Try.func52, Try.ntmps52
  go_wp2
  go_ret
  exact ⟨rfl, rfl⟩
end Go.Proofs.Ytnficiohnhodiaa
