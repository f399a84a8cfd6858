import Derived.Test.YtbaphjnglkocpaaDiskF
import Derived.Lib.AppendZerosOnto
/-
  slices.Concat of rows of bytes, 512 together.
-/
namespace Go.Proofs.Ytbaphjnglkocpaa
open Go.RowKit
theorem wpList_append_run {P : Program} {w w' : World} {ops : Array Oper} {rest : List Oper} {o : Oper} {a : Act} {Q : Exit → Act → World → Prop} (hgd : o.guard = none) (s x : Operand) (t u : TypeId)
    (ho : o.op = .call { callee := .builtin .append, args := #[s, x], argTypes := #[t, u] }) {v y r : Value} (hv : a.eval s = v) (hx : a.eval x = y) (hr : ∀ ty, (Builtin.append_ #[t, u] ty #[v, y]).run P w = .ok r w')
    (h : wpList P ops Q rest (a.put o.dst r) w') : wpList P ops Q (o :: rest) a w := by
  refine wpList_plain hgd fun _ hK => ?_
  unfold Oper.wp execOp
  simp only [ho, resolve, invoke, builtin, Sem.run_bind, Sem.run_pure, Result.andThen_ok, List.map_toArray, List.map_cons, List.map_nil, hv, hx, hr]
  exact hK _ _ h
set_option maxRecDepth 100000 in
theorem grow512 (w : World) : Calls Try.prog 91 #[.slice none 0 0, .int .i64 512] w fun e w' => ∃ v, e = .returned v ∧ SubRow w' w.heap.size v [] ∧ Below w.heap.size w w' := by
  obtain ⟨i0, hi, hz0, hz1, hz2⟩ := info_parts info8
  have hr := fun ty => Lib.run_append_grow_zeros (P := Try.prog) w 39 3 ty 5 i0 (.int .u8 0) .i64 .i64 Try.underlying39 Try.underlying3 hi hz0 none 0 0 [] (run_firstCells_none _ _ _ _ _) 512 (by omega) (by omega) (by omega) (by omega) (by omega) (growslice_fits (by omega) (by omega))
  have hge := grownCap_ge w 512 0 5
  have hle := grownCap_le_maxLen w 512 0 5 (by unfold maxLen; omega)
  have hl2 : ((0 : Nat) : Int) ≤ 0 := by omega
  simp only [Nat.zero_add] at hr
  have Hge := Lib.hid hge
  generalize hcap : grownCap w 512 0 5 = cap at hr hge hle Hge
  clear hcap
  have hsz : ([].toArray ++ Builtin.zeroCells (Value.int .u8 0).cells 512 ++ Builtin.zeroCells (Value.int .u8 0).cells (cap - 512) : Array Value).size = cap := by
    rw [Array.size_append, Array.size_append, size_zeroCells, size_zeroCells]; simp [Value.cells]; omega
  generalize ([].toArray ++ Builtin.zeroCells (Value.int .u8 0).cells 512 ++ Builtin.zeroCells (Value.int .u8 0).cells (cap - 512) : Array Value) = cs at hr hsz
  have hr' : ∀ ty, (Builtin.append_ #[39, 3] ty #[.slice none 0 0, .int .i64 512]).run Try.prog w = .ok (.slice (some ⟨w.heap.size, 0, none⟩) 512 cap) (w.drew.alloc (.cells cs 5)) := hr
  have Hr := Lib.hid hr'
  have Hsz := Lib.hid hsz
  clear hr hr' hsz hl2 hi hz0 hz1 hz2
  have hcl : (512 : Int) ≤ (cap : Int) := by omega
  go_enter Try.func91, Try.ntmps91
  go_wp2_with (at_builtin; go_loud (refine wpList_append_run rfl _ _ _ _ rfl rfl rfl Hr.out ?_))
  go_ret
  have hh := heap_alloc_new w.drew (.cells cs 5)
  refine ⟨_, rfl, .inr ⟨w.heap.size, 0, cap, rfl, Nat.le_refl _, by simp, by simp, hle, fun j hj => ?_, fun j u hu => by simp at hu⟩, ((Below.refl _ w).drew).alloc (by simp) _⟩
  have hc2 := cell_in (o := j) (u := cs[j]'(by rw [Hsz.out]; exact hj)) hh (Array.getElem?_eq_getElem _)
  rw [Nat.zero_add]
  show ((w.drew.alloc (.cells cs 5)).cell? ⟨w.heap.size, j, none⟩).isSome = true ∧ (w.drew.alloc (.cells cs 5)).frozen? ⟨w.heap.size, j, none⟩ = false
  exact ⟨by rw [show w.drew.heap.size = w.heap.size from rfl] at hc2; rw [hc2]; rfl, free_in (o := j) hh⟩
/-- a slice of bytes of whatever memory -/
def Bytes (w : World) (v : Value) (l : List UInt8) : Prop :=
  ∃ q cap, v = .slice q l.length cap ∧ l.length ≤ cap ∧ cap ≤ maxLen ∧ ∀ j b, l[j]? = some b → ∃ a, q = some a ∧ w.cell? (a.add j) = some (byteV b)
theorem Bytes.keeps {S : Nat → Prop} {w w' : World} {v : Value} {l : List UInt8} (h : Bytes w v l) (hk : Keeps S w w') (hs : ∀ k, v.ownBlock = some k → ¬ S k) : Bytes w' v l := by
  obtain ⟨q, cap, rfl, h1, h2, h3⟩ := h
  refine ⟨q, cap, rfl, h1, h2, fun j b hb => ?_⟩
  obtain ⟨a, rfl, hc⟩ := h3 j b hb
  exact ⟨a, rfl, hk.cell hc (fun e => hs a.block rfl (by unfold Addr.add at e; split at e <;> exact e))⟩
theorem Bytes.below {w w' : World} {v : Value} {l : List UInt8} (h : Bytes w v l) (hb : Below w.heap.size w w') : Bytes w' v l := h.keeps (S := fun _ => False) (Keeps.of_below hb) (fun _ _ hf => hf)
theorem Bytes.src {w : World} {v : Value} {l : List UInt8} (h : Bytes w v l) : Src Try.prog 1 39 v (bytesV l).length (bytesV l) w := by
  obtain ⟨q, cap, rfl, h1, h2, h3⟩ := h
  rw [bytesV_len]
  cases q with
  | none =>
    have : l = [] := by
      cases l with
      | nil => rfl
      | cons b l => obtain ⟨a, e, _⟩ := h3 0 b rfl; cases e
    subst this
    exact Src.ofNil (P := Try.prog) w Try.underlying39 cap
  | some a =>
    refine Src.ofSlice _ Try.underlying39 a l.length cap _ (by rw [bytesV_len]; omega) (fun j u hu => ?_) (bytesV_one l)
    unfold bytesV at hu
    rw [List.getElem?_map] at hu
    obtain ⟨b, hb, rfl⟩ := Option.map_eq_some_iff.1 hu
    obtain ⟨a', e, hc⟩ := h3 j b hb
    cases e; exact hc
theorem Bytes.of_sub {w : World} {B : Nat} {v : Value} {l : List UInt8} (h : SubRow w B v (bytesV l)) : Bytes w v l := by
  rcases h with ⟨rfl, h0⟩ | ⟨g, off, cap, rfl, _, _, h3, h4, _, h6⟩
  · have : l = [] := List.map_eq_nil_iff.1 h0
    subst this
    exact ⟨none, 0, rfl, Nat.le_refl _, Nat.zero_le _, fun j b hb => by simp at hb⟩
  · rw [bytesV_len] at h3 ⊢
    refine ⟨_, cap, rfl, h3, h4, fun j b hb => ⟨_, rfl, ?_⟩⟩
    have := h6 j (byteV b) (by unfold bytesV; simp [hb])
    unfold Addr.add; split
    · rename_i h0; subst h0; simpa using this
    · simpa using this
/-- a slice of such slices -/
def Parts (w : World) (v : Value) (ps : List (List UInt8)) : Prop :=
  ∃ q cap, v = .slice q ps.length cap ∧ ps.length ≤ cap ∧ cap ≤ maxLen ∧ ∀ j l, ps[j]? = some l → ∃ a u, q = some a ∧ w.cell? (a.add j) = some u ∧ Bytes w u l
theorem Parts.below {w w' : World} {v : Value} {ps : List (List UInt8)} (h : Parts w v ps) (hb : Below w.heap.size w w') : Parts w' v ps := by
  obtain ⟨q, cap, rfl, h1, h2, h3⟩ := h
  refine ⟨q, cap, rfl, h1, h2, fun j l hl => ?_⟩
  obtain ⟨a, u, e, hc, hu⟩ := h3 j l hl
  exact ⟨a, u, e, (hb.cell (p := a.add j) (World.block_lt_of_cell? w _ hc)).trans hc, hu.below hb⟩
theorem flat_take {ps : List (List UInt8)} {k : Nat} {l : List UInt8} (h : ps[k]? = some l) : (ps.take (k + 1)).flatten = (ps.take k).flatten ++ l := by
  rw [List.take_add_one, h]; simp
def tot (ps : List (List UInt8)) (k : Nat) : Nat := (ps.take k).flatten.length
theorem tot_le (ps : List (List UInt8)) (k : Nat) : tot ps k ≤ ps.flatten.length := by
  unfold tot
  conv => rhs; rw [← List.take_append_drop k ps, List.flatten_append, List.length_append]
  omega
theorem tot_succ {ps : List (List UInt8)} {k : Nat} {l : List UInt8} (h : ps[k]? = some l) : tot ps (k + 1) = tot ps k + l.length := by unfold tot; rw [flat_take h, List.length_append]
def flatTo (ps : List (List UInt8)) (k : Nat) : List Value := bytesV (ps.take k).flatten
theorem flatTo_succ {ps : List (List UInt8)} {k : Nat} {l : List UInt8} (h : ps[k]? = some l) : flatTo ps (k + 1) = flatTo ps k ++ bytesV l := by unfold flatTo bytesV; rw [flat_take h, List.map_append]
theorem flatTo_len (ps : List (List UInt8)) (k : Nat) : (flatTo ps k).length = tot ps k := by unfold flatTo tot; rw [bytesV_len]
set_option maxRecDepth 100000 in
set_option maxHeartbeats 4000000 in
theorem concat_any (w : World) (v : Value) (ps : List (List UInt8)) (hp : Parts w v ps) (ht : ps.flatten.length = 512) (hn : ps.length ≤ 1000000) :
    Calls Try.prog 59 #[v] w fun e w' => ∃ v', e = .returned v' ∧ SubRow w' w.heap.size v' (bytesV ps.flatten) ∧ Below w.heap.size w w' := by
  have Hp := Lib.hid hp
  obtain ⟨q, cap, rfl, hc1, hc2, h3⟩ := hp
  have H3 := Lib.hid h3
  have Ht := Lib.hid ht
  clear h3 ht
  obtain ⟨i0, hi, hz0, hz1, hz2⟩ := info_parts info8
  go_enter Try.func59, Try.ntmps59
  go_wp2
  go_loop [3, 11] (fun s i => ∃ k : Nat, k ≤ ps.length ∧ i = .int .i64 k ∧ s = .int .i64 (tot ps k)) (fun _ i => ps.length - (intOf i).toNat)
  case atStart => exact ⟨0, by omega, rfl, rfl⟩
  case round =>
    obtain ⟨k, hk, rfl, rfl⟩ := hrel
    by_cases hlt : k < ps.length
    · obtain ⟨l, hl⟩ : ∃ l, ps[k]? = some l := ⟨_, List.getElem?_eq_getElem hlt⟩
      obtain ⟨a, u, rfl, hcell, hu⟩ := H3.out k l hl
      obtain ⟨q2, cap2, rfl, hq1, hq2, _⟩ := hu
      have hft := tot_succ hl
      have hle := tot_le ps (k + 1)
      rw [hft, Ht.out] at hle
      have Hft := Lib.hid hft
      clear hft hl
      go_wp2
      go_round
      case rel => exact ⟨k + 1, by omega, by go_num, by rw [Hft.out]; go_num⟩
      case measure => simp [intOf]; omega
    · obtain rfl : k = ps.length := by omega
      have Hts : Hid (tot ps ps.length = 512) := by unfold tot; rw [List.take_length]; exact Ht.out
      rw [Hts.out]
      have hg := grow512 w
      go_wp2_with (go_at_call 91; (with_reducible refine hg.mono ?_); rintro _ w2 ⟨v2, rfl, hv2, hb2⟩; clear hg)
      have hst : SubRow w2 w.heap.size v2 (flatTo ps 0) := hv2
      clear hv2
      go_loopw [6, 27] (fun s i wr => ∃ k : Nat, k ≤ ps.length ∧ i = .int .i64 k ∧ SubRow wr w.heap.size s (flatTo ps k) ∧ Below w.heap.size w wr) (fun _ i _ => ps.length - (intOf i).toNat)
      case atStart => exact ⟨0, by omega, rfl, hst, hb2⟩
      case round =>
        clear hst hb2
        obtain ⟨k, hk, rfl, hrow, hb⟩ := hrel
        by_cases hlt : k < ps.length
        · obtain ⟨l, hl⟩ : ∃ l, ps[k]? = some l := ⟨_, List.getElem?_eq_getElem hlt⟩
          obtain ⟨q', cap', e, _, _, h3'⟩ := Hp.out.below hb
          simp only [Value.slice.injEq, true_and] at e
          obtain ⟨a, u, hqa, hcell, hu⟩ := h3' k l hl
          obtain rfl : q = some a := e.1.trans hqa
          have hsrc := hu.src
          obtain ⟨q2, cap2, rfl, hq1, hq2, _⟩ := hu
          have Hfs := Lib.hid (flatTo_succ hl)
          have hft := tot_succ hl
          have hle := tot_le ps (k + 1)
          rw [hft, Ht.out] at hle
          have Hfl := Lib.hid (flatTo_len ps k)
          have Hbl := Lib.hid (bytesV_len l)
          have hbs := hb.size
          clear hft hl h3' e hqa
          go_wp2_with (at_builtin; refine wpList_append_sub _ rfl _ _ 39 rfl 5 i0 (.int .u8 0) 1 Try.underlying39 hi hz0 hz1 hz2 rfl w.heap.size _ (flatTo ps k) rfl hrow _ rfl _ hsrc (by rw [Hfl.out, Hbl.out]; unfold maxLen; omega) (by rw [Hfl.out, Hbl.out]; omega) (by omega) ?_; intro v' w7 h7 hk7 hn7)
          have hlt7 := hrow.lt
          have hb7 : Below w.heap.size w w7 := hb.trans (hk7.below hbs (fun j hj e => by have := (hlt7 j e).1; omega))
          rw [← Hfs.out] at h7
          clear hk7 hn7 hlt7 hsrc hrow hcell
          go_roundw
          case rel => exact ⟨k + 1, by omega, by go_num, h7, hb7⟩
          case measure => simp [intOf]; omega
        · obtain rfl : k = ps.length := by omega
          have hfin : flatTo ps ps.length = bytesV ps.flatten := by unfold flatTo; rw [List.take_length]
          rw [hfin] at hrow
          go_wp2
          go_ret
          exact ⟨_, rfl, hrow, hb⟩
end Go.Proofs.Ytbaphjnglkocpaa
