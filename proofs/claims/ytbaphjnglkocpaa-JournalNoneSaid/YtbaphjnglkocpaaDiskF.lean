import Derived.Test.YtbaphjnglkocpaaDiskE
import Derived.Laws.CopyOwn
/-
  The device: sectors as values; Read.
-/
namespace Go.Proofs.Ytbaphjnglkocpaa
open Go.RowKit
open Go.ChangeMaps (setBlock)
theorem secV_cells (l : List UInt8) : (secV l).cells = (bytesV l).toArray := by simp [secV, Value.cells]
theorem bytesV_one (l : List UInt8) : ∀ u ∈ bytesV l, u.oneCell' = true := by
  intro u hu; obtain ⟨b, _, rfl⟩ := List.mem_map.1 hu; rfl
theorem bytesV_len (l : List UInt8) : (bytesV l).length = l.length := by unfold bytesV; simp
theorem run_alloc_sec (w : World) (v : Value) : (Instr.alloc 109 true v).run Try.prog w = .ok (.pointer (some ⟨w.heap.size, 0, none⟩)) (w.alloc (.cells (bytesV blank).toArray 109)) := by
  have hz := zeroS w
  simp [Instr.alloc, hz, newVar, secV_cells, newRow, Result.andThen]
section
variable {w : World} {ops : Array Oper} {rest : List Oper} {o : Oper} {a : Act} {Q : Exit → Act → World → Prop}
theorem wpList_alloc_sec (hgd : o.guard = none) (ho : o.op = .alloc 109) (h : wpList Try.prog ops Q rest (a.put o.dst (.pointer (some ⟨w.heap.size, 0, none⟩))) (w.alloc (.cells (bytesV blank).toArray 109))) : wpList Try.prog ops Q (o :: rest) a w := by
  refine wpList_plain hgd fun _ hK => ?_
  unfold Oper.wp execOp
  simp only [ho, Sem.run_bind, run_alloc_sec, Sem.run_pure, Result.andThen_ok]
  exact hK _ _ h
theorem wpList_store_new (hgd : o.guard = none) (p x : Operand) (ho : o.op = .store 109 p x) {w0 : World} {c : List Value} {l : List UInt8} (hw : w = w0.alloc (.cells c.toArray 109)) (hp : a.eval p = .pointer (some ⟨w0.heap.size, 0, none⟩)) (hx : a.eval x = secV l) (hc : c.length = 512) (hl : l.length = 512)
    (h : wpList Try.prog ops Q rest (a.put o.dst undef) (w0.alloc (.cells (bytesV l).toArray 109))) : wpList Try.prog ops Q (o :: rest) a w := by
  subst hw
  refine wpList_plain hgd fun _ hK => ?_
  have hs := run_storeAt_new (P := Try.prog) w0 109 c.toArray (bytesV l).toArray (by rw [List.size_toArray, bytesV_len, hl]; exact (zero_of_info infoS).2) (by simp [bytesV_len, hc, hl]) (Array.all_eq_true_iff_forall_mem.2 (fun v hv => bytesV_one l v (by simpa using hv)))
  unfold Oper.wp execOp
  simp only [ho, hp, hx, Sem.run_bind, Sem.run_pure]
  rw [show secV l = .agg (bytesV l).toArray from rfl, hs]
  exact hK _ _ h
end
/-- slices.Clone of bytes -/
theorem info8 : (Try.prog.info? 5).map (fun i => (i.zero, i.size, i.bytes)) = some (some (.int .u8 0), 1, 1) := by kernel_rfl
set_option maxRecDepth 100000 in
set_option maxHeartbeats 1000000 in
theorem clone_bytes (w : World) (a : Addr) (cap : Nat) (l : List UInt8) (hl : l.length ≤ 1000000000000) (hc : ∀ j b, l[j]? = some b → w.cell? (a.add j) = some (byteV b)) :
    Calls Try.prog 55 #[.slice (some a) l.length cap] w fun e w' => ∃ v, e = .returned v ∧ SubRow w' w.heap.size v (bytesV l) ∧ Below w.heap.size w w' := by
  obtain ⟨i0, hi, hz0, hz1, hz2⟩ := info_parts info8
  have hr0 : SubRow (w.alloc (.cells #[] 5)) w.heap.size (.slice (some ⟨w.heap.size, 0, none⟩) 0 0) [] := .inr ⟨w.heap.size, 0, 0, rfl, Nat.le_refl _, by simp, by simp, by simp, fun j hj => by omega, fun j u hu => by simp at hu⟩
  have hB : Below w.heap.size w (w.alloc (.cells #[] 5)) := (Below.refl _ w).alloc (Nat.le_refl _) _
  have hsrc : Src Try.prog 1 39 (.slice (some a) l.length cap) (bytesV l).length (bytesV l) (w.alloc (.cells #[] 5)) := by
    rw [bytesV_len]
    refine Src.ofSlice _ Try.underlying39 a l.length cap _ (by rw [bytesV_len]; omega) (fun j u hu => ?_) (bytesV_one l)
    unfold bytesV at hu
    rw [List.getElem?_map] at hu
    obtain ⟨b, hb, rfl⟩ := Option.map_eq_some_iff.1 hu
    have := hc j b hb
    exact (hB.cell (p := a.add j) (World.block_lt_of_cell? w _ this)).trans this
  clear hc
  have hq : (binOp .eql 39 (.slice (some a) l.length cap) (.slice none 0 0)).run Try.prog w = .ok (.bool false) w := by kernel_rfl
  have hlb := Lib.hid (bytesV_len l)
  go_enter Try.func55, Try.ntmps55
  go_wp2_with (at_builtin; refine wpList_append_sub _ rfl _ _ 39 rfl 5 i0 (.int .u8 0) 1 Try.underlying39 hi hz0 hz1 hz2 rfl w.heap.size _ [] rfl hr0 _ rfl _ hsrc (by rw [hlb.out]; simp; unfold maxLen; omega) (by rw [hlb.out]; simp; omega) (by simp) ?_; intro v' w7 h7 hk7 hn7)
  go_ret
  refine ⟨_, rfl, by simpa using h7, hB.trans (hk7.below (by simp) (fun k hk e => ?_))⟩
  have e' : some w.heap.size = some k := e
  cases e'; omega
def Dev.read (d : Dev) (at_ : Int) : Option (List UInt8) := if at_ < 0 ∨ d.size ≤ at_ ∨ d.down = true then none else some (d.now at_)
section
variable (w : World) (p mn ms mc : Nat) (d : Dev) (n : Nat) (h : DevAt w p mn ms mc d) (hd : d.Ok n) (at_ : Int)
include h
theorem read_range (hr : at_ < 0 ∨ d.size ≤ at_) : Calls Try.prog 24 #[.pointer (some ⟨p, 0, none⟩), .int .i64 at_] w fun e w' => e = .returned (.tuple #[.slice none 0 0, errV 1]) ∧ w = w' := by
  have hm := makeErr 1
  have hs := size_any w p mn ms mc d h
  rw [errV_pos (by decide)]
  by_cases h0 : at_ < 0
  · go_enter Try.func24, Try.ntmps24
    go_wp2
    go_ret2
    exact ⟨rfl, rfl⟩
  · have h1 : d.size ≤ at_ := by omega
    go_enter Try.func24, Try.ntmps24
    go_wp2_with (go_at_call 36; (with_reducible refine hs.mono ?_); rintro _ _ ⟨rfl, rfl⟩)
    go_ret2
    exact ⟨rfl, rfl⟩
theorem read_down (h0 : 0 ≤ at_) (h1 : at_ < d.size) (hdn : d.down = true) : Calls Try.prog 24 #[.pointer (some ⟨p, 0, none⟩), .int .i64 at_] w fun e w' => e = .returned (.tuple #[.slice none 0 0, errV 3]) ∧ w = w' := by
  have hm := makeErr 3
  have hs := size_any w p mn ms mc d h
  have c4 := h.cells.c4
  rw [hdn] at c4
  have n0 : ¬ at_ < 0 := by omega
  rw [errV_pos (by decide)]
  clear hdn
  go_enter Try.func24, Try.ntmps24
  go_wp2_with (go_at_call 36; (with_reducible refine hs.mono ?_); rintro _ _ ⟨rfl, rfl⟩)
  go_ret2
  exact ⟨rfl, rfl⟩
include hd
set_option maxRecDepth 100000 in
set_option maxHeartbeats 2000000 in
theorem read_ok (h0 : 0 ≤ at_) (h1 : at_ < d.size) (hdn : d.down = false) : Calls Try.prog 24 #[.pointer (some ⟨p, 0, none⟩), .int .i64 at_] w fun e w' => ∃ v, e = .returned (.tuple #[v, .nilIface]) ∧ SubRow w' w.heap.size v (bytesV (d.now at_)) ∧ Below w.heap.size w w' := by
  have hs := size_any w p mn ms mc d h
  have c4 := h.cells.c4
  have c6 := h.cells.c6
  rw [hdn] at c4
  have n0 : ¬ at_ < 0 := by omega
  have hg := get_now h at_
  have hln := (hd.lens at_).1
  clear hdn h hd
  generalize hnw : d.now at_ = sec at hg hln
  have Hnw := Lib.hid hnw
  have Hln := Lib.hid hln
  clear hnw hln
  have hcl := clone_bytes (w.alloc (.cells (bytesV sec).toArray 109)) ⟨w.heap.size, 0, none⟩ 512 sec (by rw [Hln.out]; omega) (fun j b hb => by
    have hh := heap_alloc_new w (.cells (bytesV sec).toArray 109)
    have : (⟨w.heap.size, 0, none⟩ : Addr).add j = ⟨w.heap.size, j, none⟩ := by unfold Addr.add; split <;> simp_all
    rw [this]
    exact cell_in hh (by unfold bytesV; simp [hb]))
  rw [Hln.out] at hcl
  go_enter Try.func24, Try.ntmps24
  go_wp2_with (first
    | (go_at_call 36; (with_reducible refine hs.mono ?_); rintro _ _ ⟨rfl, rfl⟩)
    | (go_at_call 55; (with_reducible refine hcl.mono ?_); rintro _ w5 ⟨v, rfl, hrow, hb5⟩)
    | (with_reducible refine wpList_alloc_sec rfl rfl ?_)
    | (with_reducible refine wpList_store_new rfl (.tmp 6) (.tmp 27) rfl (w0 := w) (c := bytesV blank) rfl rfl rfl (bytesV_len _) Hln.out ?_))
  go_ret2
  exact ⟨v, rfl, hrow.weaken (by simp), ((Below.refl _ w).alloc (Nat.le_refl _) _).trans (hb5.mono (by simp))⟩
end
end Go.Proofs.Ytbaphjnglkocpaa
