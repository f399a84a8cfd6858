import Derived.Test.YtnficiohnhodiaaDisk
import Derived.Deep.OwnRows
import Derived.Laws.BytesArg
import Derived.Laws.OwnMore
/-
  The laws' own helpers: a device of the call's own; full; bytes as a string; a row of one part.
-/
namespace Go.Proofs.Ytnficiohnhodiaa
open Go.RowKit
open Go.ChangeMaps (setBlock)
structure DB (w0 w : World) (p mn ms mc : Nat) (d : Dev) (n : Nat) : Prop where
  lay : DevAt w p mn ms mc d
  ok : d.Ok n
  low : ∀ k, DFoot p mn ms mc k → w0.heap.size ≤ k
  bel : Below w0.heap.size w0 w
theorem DB.below {w0 w w' : World} {p mn ms mc n : Nat} {d : Dev} (h : DB w0 w p mn ms mc d n) (hb : Below w.heap.size w w') : DB w0 w' p mn ms mc d n :=
  ⟨h.lay.keeps (S := fun _ => False) (Keeps.of_below hb) (fun _ _ hf => hf), h.ok, h.low, h.bel.trans (hb.mono h.bel.size)⟩
theorem DB.drewN {w0 w : World} {p mn ms mc n : Nat} {d : Dev} (h : DB w0 w p mn ms mc d n) (k : Nat) : DB w0 (w.drewN k) p mn ms mc d n :=
  h.below ((Below.refl _ w).trans ⟨rfl, rfl, rfl, Nat.le_refl _, fun _ _ => rfl⟩)
theorem DB.step {w0 w w' : World} {p mn ms mc n n' : Nat} {d d' : Dev} (h : DB w0 w p mn ms mc d n) (hl : DevAt w' p mn ms mc d') (ho : d'.Ok n') (hk : Keeps (DFoot p mn ms mc) w w') : DB w0 w' p mn ms mc d' n' :=
  ⟨hl, ho, h.low, h.bel.trans (hk.below h.bel.size (fun k hk' hf' => by have := h.low k hf'; omega))⟩
theorem Dev.Ok.new {size : Int} (h1 : 1 ≤ size) (h2 : size ≤ 4096) : (Dev.new size).Ok 0 :=
  ⟨by simp [Dev.new], by simp [Dev.new], by simp [Dev.new], by simp [Dev.new], by simp [Dev.new], by simp [Dev.new], h1, h2, fun _ => ⟨List.length_replicate, List.length_replicate⟩, fun _ h => by simp [Dev.new] at h, fun _ _ => rfl⟩
theorem new_db (w0 w : World) (size : Int) (h1 : 1 ≤ size) (h2 : size ≤ 4096) (hb : Below w0.heap.size w0 w) :
    Calls Try.prog 22 #[.int .i64 size] w fun e w' => ∃ p mn ms mc, e = .returned (.tuple #[.pointer (some ⟨p, 0, none⟩), .nilIface]) ∧ DB w0 w' p mn ms mc (Dev.new size) 0 ∧ Below w.heap.size w w' ∧ ∀ k, DFoot p mn ms mc k → w.heap.size ≤ k :=
  (new_ok size w h1 h2).mono fun _ _ ⟨p, mn, ms, mc, he, hl, hb', hf⟩ => ⟨p, mn, ms, mc, he, ⟨hl, Dev.Ok.new h1 h2, fun k hk => Nat.le_trans hb.size (hf k hk), hb.trans (hb'.mono hb.size)⟩, hb', hf⟩
section
variable {w0 w : World} {p mn ms mc n : Nat} {d : Dev} (h : DB w0 w p mn ms mc d n) (hn : n ≤ 1000000000)
include h
theorem steps_db : Calls Try.prog 26 #[.pointer (some ⟨p, 0, none⟩)] w fun e w' => e = .returned (.int .i64 d.steps) ∧ w = w' := steps_any w p mn ms mc d h.lay
theorem syncs_db : Calls Try.prog 27 #[.pointer (some ⟨p, 0, none⟩)] w fun e w' => e = .returned (.int .i64 d.syncs) ∧ w = w' := syncs_any w p mn ms mc d h.lay
theorem down_db : Calls Try.prog 28 #[.pointer (some ⟨p, 0, none⟩)] w fun e w' => e = .returned (.bool d.down) ∧ w = w' := down_any w p mn ms mc d h.lay
theorem crash_db (v : Value) (keep : List Int) (hk : Ints w v keep) : Calls Try.prog 48 #[.pointer (some ⟨p, 0, none⟩), v] w fun e w' => e = .returned (.tuple #[]) ∧ DB w0 w' p mn ms mc (d.crash keep) n ∧ Keeps (DFoot p mn ms mc) w w' :=
  (crash_any w p mn ms mc d n h.lay h.ok v keep hk).mono fun _ _ ⟨he, hl, hk⟩ => ⟨he, h.step hl (h.ok.crash keep) hk, hk⟩
theorem read_db (at_ : Int) (h0 : 0 ≤ at_) (h1 : at_ < d.size) (hdn : d.down = false) : Calls Try.prog 32 #[.pointer (some ⟨p, 0, none⟩), .int .i64 at_] w fun e w' => ∃ v, e = .returned (.tuple #[v, .nilIface]) ∧ SubRow w' w.heap.size v (bytesV (d.now at_)) ∧ Below w.heap.size w w' :=
  read_ok w p mn ms mc d n h.lay h.ok at_ h0 h1 hdn
include hn
theorem sync_db : Calls Try.prog 47 #[.pointer (some ⟨p, 0, none⟩)] w fun e w' => e = .returned (errV d.sync.1) ∧ DB w0 w' p mn ms mc d.sync.2 (n + 1) ∧ Keeps (DFoot p mn ms mc) w w' :=
  (sync_any w p mn ms mc d n h.lay h.ok hn).mono fun _ _ ⟨he, hl, hk⟩ => ⟨he, h.step hl h.ok.sync hk, hk⟩
theorem write_db (at_ : Int) (v : Value) (ps : List (List UInt8)) (l : List UInt8) (hl : ps.flatten = l) (hp : Parts w v ps) (hps : ps.length ≤ 1000000) (ht : l.length ≤ 1000000000000) :
    Calls Try.prog 45 #[.pointer (some ⟨p, 0, none⟩), .int .i64 at_, v] w fun e w' => e = .returned (errV (d.write at_ l).1) ∧ DB w0 w' p mn ms mc (d.write at_ l).2 (n + 1) ∧ Keeps (DFoot p mn ms mc) w w' := by
  subst hl
  exact (write_any w p mn ms mc d n h.lay at_ v ps h.ok hn hp hps ht).mono fun _ _ ⟨he, hl, hk⟩ => ⟨he, h.step hl (h.ok.write _ _) hk, hk⟩
end
/-- a slice of one part, as it is built at a call -/
theorem one_part {w : World} {v : Value} {l : List UInt8} (h : Bytes w v l) (T : TypeId) : Parts (w.alloc (.cells #[v] T)) (.slice (some ⟨w.heap.size, 0, none⟩) 1 1) [l] := by
  refine ⟨_, 1, rfl, Nat.le_refl _, by unfold maxLen; omega, fun j l' hj => ?_⟩
  cases j with
  | zero =>
    simp at hj; subst hj
    exact ⟨_, v, rfl, cell_in (heap_alloc_new w _) rfl, h.below ((Below.refl _ _).alloc (Nat.le_refl _) _)⟩
  | succ j => simp at hj
def byteOf (n : Int) : UInt8 := UInt8.ofNat (n % 256).toNat
theorem byteOf_v (n : Int) : byteV (byteOf n) = .int .u8 (IntKind.u8.wrap n) := by
  have h : IntKind.u8.wrap n = n % 256 := by
    show n % (2 ^ IntKind.u8.bits : Int) = n % 256
    rfl
  unfold byteV byteOf
  rw [h]
  congr 1
  rw [UInt8.toNat_ofNat']
  omega
def fullB (n : Int) : List UInt8 := List.replicate 512 (byteOf n)
theorem fullB_len (n : Int) : (fullB n).length = 512 := List.length_replicate
def fillTo (b : Value) (k : Nat) : List Value := List.replicate k b ++ List.replicate (512 - k) (.int .u8 0)
theorem fillTo_len (b : Value) (k : Nat) (h : k ≤ 512) : (fillTo b k).length = 512 := by unfold fillTo; simp; omega
theorem fillTo_set (b : Value) (k : Nat) (h : k < 512) : (fillTo b k).toArray.setIfInBounds k b = (fillTo b (k + 1)).toArray := by
  rw [List.setIfInBounds_toArray]
  congr 1
  unfold fillTo
  rw [List.set_append_right _ _ (by simp), List.length_replicate, Nat.sub_self, show 512 - k = (512 - (k + 1)) + 1 from by omega, List.replicate_succ, List.set_cons_zero, List.replicate_succ', List.append_assoc]
  rfl
set_option maxRecDepth 100000 in
set_option maxHeartbeats 2000000 in
theorem full_any (n : Int) (w : World) : Calls Try.prog 46 #[.int .i64 n] w fun e w' => ∃ g m, e = .returned (.slice (some ⟨g, 0, none⟩) m m) ∧ SubRow w' w.heap.size (.slice (some ⟨g, 0, none⟩) m m) (bytesV (fullB n)) ∧ Below w.heap.size w w' := by
  have hmk := run_make_row' (P := Try.prog) 52 5 (.int .u8 0) 1 Try.underlying52 info8 rfl .i64 .i64 512 (by omega) (by omega)
  have hmk' : ∀ w, (Instr.makeSlice 52 (.int .i64 512) (.int .i64 512)).run Try.prog w = .ok (.slice (some ⟨w.heap.size, 0, none⟩) 512 512) (w.alloc (.cells (fillTo (byteV (byteOf n)) 0).toArray 5)) := fun w => by
    have := hmk w
    rw [show (madeCells #[Value.int .u8 0] 512) = (fillTo (byteV (byteOf n)) 0).toArray from by
      apply Array.ext'
      rw [toList_madeCells_one]; simp [fillTo]] at this
    exact this
  clear hmk
  have hh : (w.alloc (.cells (fillTo (byteV (byteOf n)) 0).toArray 5)).heap[w.heap.size]? = some (.cells (fillTo (byteV (byteOf n)) 0).toArray 5 (0, 0)) := heap_alloc_new _ _
  have hB : Below w.heap.size w (w.alloc (.cells (fillTo (byteV (byteOf n)) 0).toArray 5)) := (Below.refl _ _).alloc (Nat.le_refl _) _
  go_enter Try.func46, Try.ntmps46
  go_wp2
  clear hmk'
  generalize w.alloc (.cells (fillTo (byteV (byteOf n)) 0).toArray 5) = w1 at hh hB ⊢
  go_loopw [8] (fun i wr => ∃ k : Nat, k ≤ 512 ∧ i = .int .i64 k ∧ Hid (wr.heap[w.heap.size]? = some (.cells (fillTo (byteV (byteOf n)) k).toArray 5 (0, 0))) ∧ Below w.heap.size w wr) (fun i _ => 512 - (intOf i).toNat)
  case atStart => exact ⟨0, by omega, rfl, hh, hB⟩
  case round =>
    clear hh hB
    obtain ⟨k, hk, rfl, hh, hB⟩ := hrel
    by_cases hlt : k < 512
    · have hc : wr.cell? ⟨w.heap.size, k, none⟩ = some ((fillTo (byteV (byteOf n)) k)[k]'(by rw [fillTo_len _ _ hk]; exact hlt)) := cell_in hh.out (by simp)
      have hf := free_in (o := k) hh.out
      generalize (fillTo (byteV (byteOf n)) k)[k]'(by rw [fillTo_len _ _ hk]; exact hlt) = old at hc
      have Hb := Lib.hid (byteOf_v n)
      go_wp2
      have hh2 : Hid ((wr.setCell ⟨w.heap.size, k, none⟩ (.int .u8 (IntKind.u8.wrap n))).heap[w.heap.size]? = some (.cells (fillTo (byteV (byteOf n)) (k + 1)).toArray 5 (0, 0))) := by
        show _ = _
        rw [heap_setCell _ _ _ _ _ _ _ hh.out, ← Hb.out, fillTo_set _ _ hlt]
      have hB2 : Below w.heap.size w (wr.setCell ⟨w.heap.size, k, none⟩ (.int .u8 (IntKind.u8.wrap n))) := hB.setCell (Nat.le_refl _) _
      go_roundw
      case rel => exact ⟨k + 1, by omega, by go_num, hh2, hB2⟩
      case measure => simp [intOf]; omega
    · obtain rfl : k = 512 := by omega
      have hv : fillTo (byteV (byteOf n)) 512 = bytesV (fullB n) := by unfold fillTo fullB bytesV; simp
      have hh' := hh.out
      rw [hv] at hh'
      clear hv hh
      have Hh := Lib.hid hh'
      clear hh'
      go_wp2
      go_ret
      refine ⟨w.heap.size, 512, rfl, .inr ⟨w.heap.size, 0, 512, by rw [bytesV_len, fullB_len], Nat.le_refl _, lt_of Hh.out, by rw [bytesV_len, fullB_len]; omega, by unfold maxLen; omega, fun j hj => ?_, fun j u hu => ?_⟩, hB⟩
      · rw [Nat.zero_add, cell_in (o := j) (u := (bytesV (fullB n))[j]'(by rw [bytesV_len, fullB_len]; exact hj)) Hh.out (by simp)]
        exact ⟨rfl, free_in Hh.out⟩
      · rw [Nat.zero_add]; exact cell_in Hh.out (by simpa using hu)
/-- bytes as a string -/
def strB (l : List UInt8) : ByteArray := ⟨l.toArray⟩
theorem strB_inj {a b : List UInt8} (h : strB a = strB b) : a = b := by
  have := congrArg (fun s : ByteArray => s.data.toList) h
  simpa [strB] using this
theorem strOfNums_bytes (l : List UInt8) : strOfNums (l.map fun b => (b.toNat : Int)) = strB l := by
  unfold strOfNums strB
  congr 1
  simp [Function.comp_def]
theorem conv_bytes {w : World} {v : Value} {l : List UInt8} (h : Bytes w v l) : (convert 52 9 v).run Try.prog w = .ok (.string (strB l)) w := by
  obtain ⟨q, cap, rfl, h1, h2, h3⟩ := h
  cases hl : l with
  | nil =>
    cases q with
    | none => exact run_convert_bytes_nil (P := Try.prog) w 52 5 Try.underlying52 Try.underlying5 0 cap 9 Try.underlying9
    | some a =>
      have hc := run_convert_bytes_string (P := Try.prog) w 52 9 5 (some a) 0 cap Try.underlying52 Try.underlying5 Try.underlying9
      refine hc.trans ?_
      have := run_bytesToString (P := Try.prog) w a 0 cap [] (by simp [loadCells, loadCellsFrom])
      exact this
  | cons b r =>
    obtain ⟨a, rfl, hc0⟩ := h3 0 b (by rw [hl]; rfl)
    rw [← hl]
    have hsp : a.spot = none := by
      have h00 : (a.add 0) = a := by simp [Addr.add]
      rw [h00] at hc0
      unfold World.cell? at hc0
      split at hc0
      · split at hc0
        · cases hc0
        · rename_i hs; simpa using hs
      · cases hc0
    obtain ⟨blk, off, sp⟩ := a
    cases hsp
    have := run_convert_bytes_arg (P := Try.prog) w 52 5 Try.underlying52 Try.underlying5 blk off l.length cap (l.map fun b => (b.toNat : Int)) (by simp) (fun i hi => by
      obtain ⟨a', e, hc⟩ := h3 i (l[i]'hi) (List.getElem?_eq_getElem hi)
      cases e
      have ha : (⟨blk, off, none⟩ : Addr).add i = ⟨blk, off + i, none⟩ := by unfold Addr.add; split <;> simp_all
      rw [ha] at hc
      rw [hc, List.getD_eq_getElem?_getD, List.getElem?_map, List.getElem?_eq_getElem hi]
      rfl) 9 Try.underlying9
    rw [strOfNums_bytes] at this
    exact this
set_option maxRecDepth 100000 in
theorem errEqNil (w : World) (a : Int) : (binOp .eql 35 (errV a) .nilIface).run Try.prog w = .ok (.bool (a == 0)) w := by
  by_cases h : a = 0
  · subst h; exact (by kernel_rfl : (binOp .eql 35 .nilIface .nilIface).run Try.prog w = .ok (.bool true) w)
  · have h' : (a == 0) = false := by simpa using h
    have : (binOp .eql 35 (.iface 74 (.int .i64 a)) .nilIface).run Try.prog w = .ok (.bool false) w := by kernel_rfl
    rw [errV_pos h, h', this]
set_option maxRecDepth 100000 in
theorem errEqK (w : World) (a k : Int) (hk : k ≠ 0) : (binOp .eql 35 (errV a) (.iface 74 (.int .i64 k))).run Try.prog w = .ok (.bool (a == k)) w := by
  by_cases h : a = 0
  · subst h
    have h' : ((0 : Int) == k) = false := by simpa using fun e => hk e.symm
    have : (binOp .eql 35 .nilIface (.iface 74 (.int .i64 k))).run Try.prog w = .ok (.bool false) w := by kernel_rfl
    rw [errV_zero, h', this]
  · rw [errV_pos h]; exact Go.Lib.run_eql_iface_int w a k Try.underlying35 (by kernel_rfl) Try.underlying74
set_option maxRecDepth 100000 in
theorem errNeK (w : World) (a k : Int) (hk : k ≠ 0) : (binOp .neq 35 (errV a) (.iface 74 (.int .i64 k))).run Try.prog w = .ok (.bool (a != k)) w := by
  by_cases h : a = 0
  · subst h
    have h' : ((0 : Int) != k) = true := by simpa using fun e => hk e.symm
    have : (binOp .neq 35 .nilIface (.iface 74 (.int .i64 k))).run Try.prog w = .ok (.bool true) w := by kernel_rfl
    rw [errV_zero, h', this]
  · rw [errV_pos h]; exact Go.Lib.run_neq_iface_int w a k Try.underlying35 (by kernel_rfl) Try.underlying74
end Go.Proofs.Ytnficiohnhodiaa
