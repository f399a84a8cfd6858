import Derived.Test.YtbaphjnglkocpaaDisk
import Derived.Deep.OwnRows
import Derived.Laws.BytesArg
import Derived.Laws.OwnMore
/-
  A device of the call's own; bytes as a string; a row of one part; errors that are compared.
-/
namespace Go.Proofs.Ytbaphjnglkocpaa
open Go.RowKit
open Go.ChangeMaps (setBlock)
structure DB (w0 w : World) (p mn ms mc : Nat) (d : Dev) (n : Nat) : Prop where
  lay : DevAt w p mn ms mc d
  ok : d.Ok n
  low : ∀ k, DFoot p mn ms mc k → w0.heap.size ≤ k
  bel : Below w0.heap.size w0 w
theorem DB.below {w0 w w' : World} {p mn ms mc n : Nat} {d : Dev} (h : DB w0 w p mn ms mc d n) (hb : Below w.heap.size w w') : DB w0 w' p mn ms mc d n :=
  ⟨h.lay.keeps (S := fun _ => False) (Keeps.of_below hb) (fun _ _ hf => hf), h.ok, h.low, h.bel.trans (hb.mono h.bel.size)⟩
theorem DB.drewN {w0 w : World} {p mn ms mc n : Nat} {d : Dev} (h : DB w0 w p mn ms mc d n) (k : Nat) : DB w0 (w.drewN k) p mn ms mc d n :=
  h.below ((Below.refl _ w).trans ⟨rfl, rfl, rfl, Nat.le_refl _, fun _ _ => rfl⟩)
theorem DB.step {w0 w w' : World} {p mn ms mc n n' : Nat} {d d' : Dev} (h : DB w0 w p mn ms mc d n) (hl : DevAt w' p mn ms mc d') (ho : d'.Ok n') (hk : Keeps (DFoot p mn ms mc) w w') : DB w0 w' p mn ms mc d' n' :=
  ⟨hl, ho, h.low, h.bel.trans (hk.below h.bel.size (fun k hk' hf' => by have := h.low k hf'; omega))⟩
theorem DB.other {S : Nat → Prop} {w0 w w' : World} {p mn ms mc n : Nat} {d : Dev} (h : DB w0 w p mn ms mc d n) (hk : Keeps S w w') (hs : ∀ k, DFoot p mn ms mc k → ¬ S k) (hl : ∀ k, S k → w0.heap.size ≤ k) : DB w0 w' p mn ms mc d n :=
  ⟨h.lay.keeps hk hs, h.ok, h.low, h.bel.trans (hk.below h.bel.size (fun k hk' hf' => by have := hl k hf'; omega))⟩
theorem DB.setCell {w0 w : World} {p mn ms mc n : Nat} {d : Dev} (h : DB w0 w p mn ms mc d n) {a : Addr} (ha : ¬ DFoot p mn ms mc a.block) (hl : w0.heap.size ≤ a.block) (v : Value) : DB w0 (w.setCell a v) p mn ms mc d n :=
  h.other (S := (· = a.block)) (Keeps.cellAt (S := (· = a.block)) rfl v) (fun k hk e => ha (e ▸ hk)) (fun k e => by subst e; exact hl)
theorem Dev.Ok.new {size : Int} (h1 : 1 ≤ size) (h2 : size ≤ 4096) : (Dev.new size).Ok 0 :=
  ⟨by simp [Dev.new], by simp [Dev.new], by simp [Dev.new], by simp [Dev.new], by simp [Dev.new], by simp [Dev.new], h1, h2, fun _ => ⟨List.length_replicate, List.length_replicate⟩, fun _ h => by simp [Dev.new] at h, fun _ _ => rfl⟩
theorem new_db (w0 w : World) (size : Int) (h1 : 1 ≤ size) (h2 : size ≤ 4096) (hb : Below w0.heap.size w0 w) :
    Calls Try.prog 20 #[.int .i64 size] w fun e w' => ∃ p mn ms mc, e = .returned (.tuple #[.pointer (some ⟨p, 0, none⟩), .nilIface]) ∧ DB w0 w' p mn ms mc (Dev.new size) 0 ∧ Below w.heap.size w w' ∧ ∀ k, DFoot p mn ms mc k → w.heap.size ≤ k :=
  (new_ok size w h1 h2).mono fun _ _ ⟨p, mn, ms, mc, he, hl, hb', hf⟩ => ⟨p, mn, ms, mc, he, ⟨hl, Dev.Ok.new h1 h2, fun k hk => Nat.le_trans hb.size (hf k hk), hb.trans (hb'.mono hb.size)⟩, hb', hf⟩
section
variable {w0 w : World} {p mn ms mc n : Nat} {d : Dev} (h : DB w0 w p mn ms mc d n) (hn : n ≤ 1000000000)
include h
theorem steps_db : Calls Try.prog 30 #[.pointer (some ⟨p, 0, none⟩)] w fun e w' => e = .returned (.int .i64 d.steps) ∧ w = w' := steps_any w p mn ms mc d h.lay
theorem syncs_db : Calls Try.prog 31 #[.pointer (some ⟨p, 0, none⟩)] w fun e w' => e = .returned (.int .i64 d.syncs) ∧ w = w' := syncs_any w p mn ms mc d h.lay
theorem down_db : Calls Try.prog 32 #[.pointer (some ⟨p, 0, none⟩)] w fun e w' => e = .returned (.bool d.down) ∧ w = w' := down_any w p mn ms mc d h.lay
theorem crash_db (v : Value) (keep : List Int) (hk : Ints w v keep) : Calls Try.prog 49 #[.pointer (some ⟨p, 0, none⟩), v] w fun e w' => e = .returned (.tuple #[]) ∧ DB w0 w' p mn ms mc (d.crash keep) n ∧ Keeps (DFoot p mn ms mc) w w' :=
  (crash_any w p mn ms mc d n h.lay h.ok v keep hk).mono fun _ _ ⟨he, hl, hk⟩ => ⟨he, h.step hl (h.ok.crash keep) hk, hk⟩
theorem read_db (at_ : Int) (h0 : 0 ≤ at_) (h1 : at_ < d.size) (hdn : d.down = false) : Calls Try.prog 24 #[.pointer (some ⟨p, 0, none⟩), .int .i64 at_] w fun e w' => ∃ v, e = .returned (.tuple #[v, .nilIface]) ∧ SubRow w' w.heap.size v (bytesV (d.now at_)) ∧ Below w.heap.size w w' :=
  read_ok w p mn ms mc d n h.lay h.ok at_ h0 h1 hdn
include hn
theorem sync_db : Calls Try.prog 57 #[.pointer (some ⟨p, 0, none⟩)] w fun e w' => e = .returned (errV d.sync.1) ∧ DB w0 w' p mn ms mc d.sync.2 (n + 1) ∧ Keeps (DFoot p mn ms mc) w w' :=
  (sync_any w p mn ms mc d n h.lay h.ok hn).mono fun _ _ ⟨he, hl, hk⟩ => ⟨he, h.step hl h.ok.sync hk, hk⟩
theorem write_db (at_ : Int) (v : Value) (ps : List (List UInt8)) (l : List UInt8) (hl : ps.flatten = l) (hp : Parts w v ps) (hps : ps.length ≤ 1000000) (ht : l.length ≤ 1000000000000) :
    Calls Try.prog 22 #[.pointer (some ⟨p, 0, none⟩), .int .i64 at_, v] w fun e w' => e = .returned (errV (d.write at_ l).1) ∧ DB w0 w' p mn ms mc (d.write at_ l).2 (n + 1) ∧ Keeps (DFoot p mn ms mc) w w' := by
  subst hl
  exact (write_any w p mn ms mc d n h.lay at_ v ps h.ok hn hp hps ht).mono fun _ _ ⟨he, hl, hk⟩ => ⟨he, h.step hl (h.ok.write _ _) hk, hk⟩
end
/-- a slice of one part, as it is built at a call -/
theorem one_part {w : World} {v : Value} {l : List UInt8} (h : Bytes w v l) (T : TypeId) : Parts (w.alloc (.cells #[v] T)) (.slice (some ⟨w.heap.size, 0, none⟩) 1 1) [l] := by
  refine ⟨_, 1, rfl, Nat.le_refl _, by unfold maxLen; omega, fun j l' hj => ?_⟩
  cases j with
  | zero =>
    simp at hj; subst hj
    exact ⟨_, v, rfl, cell_in (heap_alloc_new w _) rfl, h.below ((Below.refl _ _).alloc (Nat.le_refl _) _)⟩
  | succ j => simp at hj
def byteOf (n : Int) : UInt8 := UInt8.ofNat (n % 256).toNat
theorem byteOf_v (n : Int) : byteV (byteOf n) = .int .u8 (IntKind.u8.wrap n) := by
  have h : IntKind.u8.wrap n = n % 256 := by
    show n % (2 ^ IntKind.u8.bits : Int) = n % 256
    rfl
  unfold byteV byteOf
  rw [h]
  congr 1
  rw [UInt8.toNat_ofNat']
  omega
def fullB (n : Int) : List UInt8 := List.replicate 512 (byteOf n)
theorem fullB_len (n : Int) : (fullB n).length = 512 := List.length_replicate
/-- bytes as a string -/
def strB (l : List UInt8) : ByteArray := ⟨l.toArray⟩
theorem strB_inj {a b : List UInt8} (h : strB a = strB b) : a = b := by
  have := congrArg (fun s : ByteArray => s.data.toList) h
  simpa [strB] using this
theorem strOfNums_bytes (l : List UInt8) : strOfNums (l.map fun b => (b.toNat : Int)) = strB l := by
  unfold strOfNums strB
  congr 1
  simp [Function.comp_def]
theorem conv_bytes {w : World} {v : Value} {l : List UInt8} (h : Bytes w v l) : (convert 39 9 v).run Try.prog w = .ok (.string (strB l)) w := by
  obtain ⟨q, cap, rfl, h1, h2, h3⟩ := h
  cases hl : l with
  | nil =>
    cases q with
    | none => exact run_convert_bytes_nil (P := Try.prog) w 39 5 Try.underlying39 Try.underlying5 0 cap 9 Try.underlying9
    | some a =>
      have hc := run_convert_bytes_string (P := Try.prog) w 39 9 5 (some a) 0 cap Try.underlying39 Try.underlying5 Try.underlying9
      refine hc.trans ?_
      have := run_bytesToString (P := Try.prog) w a 0 cap [] (by simp [loadCells, loadCellsFrom])
      exact this
  | cons b r =>
    obtain ⟨a, rfl, hc0⟩ := h3 0 b (by rw [hl]; rfl)
    rw [← hl]
    have hsp : a.spot = none := by
      have h00 : (a.add 0) = a := by simp [Addr.add]
      rw [h00] at hc0
      unfold World.cell? at hc0
      split at hc0
      · split at hc0
        · cases hc0
        · rename_i hs; simpa using hs
      · cases hc0
    obtain ⟨blk, off, sp⟩ := a
    cases hsp
    have := run_convert_bytes_arg (P := Try.prog) w 39 5 Try.underlying39 Try.underlying5 blk off l.length cap (l.map fun b => (b.toNat : Int)) (by simp) (fun i hi => by
      obtain ⟨a', e, hc⟩ := h3 i (l[i]'hi) (List.getElem?_eq_getElem hi)
      cases e
      have ha : (⟨blk, off, none⟩ : Addr).add i = ⟨blk, off + i, none⟩ := by unfold Addr.add; split <;> simp_all
      rw [ha] at hc
      rw [hc, List.getD_eq_getElem?_getD, List.getElem?_map, List.getElem?_eq_getElem hi]
      rfl) 9 Try.underlying9
    rw [strOfNums_bytes] at this
    exact this
set_option maxRecDepth 100000 in
theorem errEqNil (w : World) (a : Int) : (binOp .eql 27 (errV a) .nilIface).run Try.prog w = .ok (.bool (a == 0)) w := by
  by_cases h : a = 0
  · subst h; exact (by kernel_rfl : (binOp .eql 27 .nilIface .nilIface).run Try.prog w = .ok (.bool true) w)
  · have h' : (a == 0) = false := by simpa using h
    have : (binOp .eql 27 (.iface 40 (.int .i64 a)) .nilIface).run Try.prog w = .ok (.bool false) w := by kernel_rfl
    rw [errV_pos h, h', this]
set_option maxRecDepth 100000 in
theorem errEqK (w : World) (a k : Int) (hk : k ≠ 0) : (binOp .eql 27 (errV a) (.iface 40 (.int .i64 k))).run Try.prog w = .ok (.bool (a == k)) w := by
  by_cases h : a = 0
  · subst h
    have h' : ((0 : Int) == k) = false := by simpa using fun e => hk e.symm
    have : (binOp .eql 27 .nilIface (.iface 40 (.int .i64 k))).run Try.prog w = .ok (.bool false) w := by kernel_rfl
    rw [errV_zero, h', this]
  · rw [errV_pos h]; exact Go.Lib.run_eql_iface_int w a k Try.underlying27 (by kernel_rfl) Try.underlying40
set_option maxRecDepth 100000 in
theorem errNeK (w : World) (a k : Int) (hk : k ≠ 0) : (binOp .neq 27 (errV a) (.iface 40 (.int .i64 k))).run Try.prog w = .ok (.bool (a != k)) w := by
  by_cases h : a = 0
  · subst h
    have h' : ((0 : Int) != k) = true := by simpa using fun e => hk e.symm
    have : (binOp .neq 27 .nilIface (.iface 40 (.int .i64 k))).run Try.prog w = .ok (.bool true) w := by kernel_rfl
    rw [errV_zero, h', this]
  · rw [errV_pos h]; exact Go.Lib.run_neq_iface_int w a k Try.underlying27 (by kernel_rfl) Try.underlying40
theorem mem_unsynced {d : Dev} {n : Nat} (hd : d.Ok n) {k : Int} : k ∈ d.unsynced ↔ d.chg k = true := by
  unfold Dev.unsynced
  simp only [List.mem_map, List.mem_filter, List.mem_range]
  constructor
  · rintro ⟨i, ⟨_, h⟩, rfl⟩; exact h
  · intro h
    have := hd.rng k h
    exact ⟨k.toNat, ⟨by omega, by rw [Int.toNat_of_nonneg this.1]; exact h⟩, Int.toNat_of_nonneg this.1⟩
theorem one_int (w : World) (x : Int) (T : TypeId) : Ints (w.alloc (.cells #[.int .i64 x] T)) (.slice (some ⟨w.heap.size, 0, none⟩) 1 1) [x] := by
  refine ⟨_, 1, rfl, Nat.le_refl _, by unfold maxLen; omega, fun j y hj => ?_⟩
  cases j with
  | zero => simp at hj; subst hj; exact ⟨_, _, rfl, cell_in (heap_alloc_new w _) rfl⟩
  | succ j => simp at hj
theorem write_one {w0 w : World} {p mn ms mc n : Nat} {d : Dev} (h : DB w0 w p mn ms mc d n) (hn : n ≤ 1000000000) (at_ : Int) {v : Value} {l : List UInt8} (hv : Bytes w v l) (T : TypeId) (ht : l.length ≤ 1000000000000) :
    Calls Try.prog 22 #[.pointer (some ⟨p, 0, none⟩), .int .i64 at_, .slice (some ⟨w.heap.size, 0, none⟩) 1 1] (w.alloc (.cells #[v] T)) fun e w' => e = .returned (errV (d.write at_ l).1) ∧ DB w0 w' p mn ms mc (d.write at_ l).2 (n + 1) ∧ Keeps (DFoot p mn ms mc) w w' :=
  (write_db (h.below ((Below.refl _ _).alloc (Nat.le_refl _) _)) hn at_ _ [l] l (by simp) (one_part hv T) (by simp) ht).mono fun _ _ ⟨h1, h2, h3⟩ => ⟨h1, h2, ((Keeps.refl _ w).alloc _).trans' h3 (fun _ _ e => e)⟩
theorem crash_one {w0 w : World} {p mn ms mc n : Nat} {d : Dev} (h : DB w0 w p mn ms mc d n) (x : Int) (T : TypeId) :
    Calls Try.prog 49 #[.pointer (some ⟨p, 0, none⟩), .slice (some ⟨w.heap.size, 0, none⟩) 1 1] (w.alloc (.cells #[.int .i64 x] T)) fun e w' => e = .returned (.tuple #[]) ∧ DB w0 w' p mn ms mc (d.crash [x]) n ∧ Keeps (DFoot p mn ms mc) w w' :=
  (crash_db (h.below ((Below.refl _ _).alloc (Nat.le_refl _) _)) _ [x] (one_int w x T)).mono fun _ _ ⟨h1, h2, h3⟩ => ⟨h1, h2, ((Keeps.refl _ w).alloc _).trans' h3 (fun _ _ e => e)⟩
end Go.Proofs.Ytbaphjnglkocpaa
