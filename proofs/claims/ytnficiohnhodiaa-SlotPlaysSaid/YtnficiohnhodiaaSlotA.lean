import Derived.Test.YtnficiohnhodiaaSlotL
/-
  Slots: how they lie; fits, sector, read.
-/
namespace Go.Proofs.Ytnficiohnhodiaa
open Go.RowKit
theorem no_map_cell {w : World} {r : Nat} {l : IM} (h : IMap w r l) {a : Addr} {u : Value} (hc : w.cell? a = some u) : a.block ≠ r := by
  obtain ⟨_, _, a1, _⟩ := h
  intro e
  unfold World.cell? at hc; rw [e, a1] at hc; simp at hc
theorem cells_byte {w : World} {a : Addr} {b : UInt8} {cs : Array Value} {T : TypeId} {fz : Nat × Nat} (hc : w.cell? a = some (byteV b)) (hh : w.heap[a.block]? = some (.cells cs T fz)) (hno : ∀ u ∈ cs.toList, ∀ n, u ≠ .int .u8 n) : False := by
  have hsp := spot_none hc
  obtain ⟨blk, off, sp⟩ := a
  cases hsp
  unfold World.cell? at hc
  simp only [hh] at hc
  have hm : cs[off]? = some (byteV b) := by simpa using hc
  exact hno _ (Array.mem_toList_iff.2 (Array.mem_of_getElem? hm)) _ rfl
theorem DevAt.no_byte {w : World} {p mn ms mc : Nat} {d : Dev} (h : DevAt w p mn ms mc d) {a : Addr} {b : UInt8} (hc : w.cell? a = some (byteV b)) : ¬ DFoot p mn ms mc a.block := by
  obtain ⟨l1, a1, _⟩ := h.now
  obtain ⟨l2, a2, _⟩ := h.synced
  obtain ⟨l3, a3, _⟩ := h.chg
  rintro (e | e | e | e)
  · exact cells_byte hc (e ▸ h.self) (by simp)
  · exact no_map_cell a1 hc e
  · exact no_map_cell a2 hc e
  · exact no_map_cell a3 hc e
theorem DevAt.bytes {w w' : World} {p mn ms mc : Nat} {d : Dev} {v : Value} {l : List UInt8} (h : DevAt w p mn ms mc d) (hb : Bytes w v l) (hk : Keeps (DFoot p mn ms mc) w w') : Bytes w' v l := hb.kept hk (fun _ _ hc => h.no_byte hc)
theorem DB.more {w0 w : World} {p mn ms mc n m : Nat} {d : Dev} (h : DB w0 w p mn ms mc d n) (hm : n ≤ m) : DB w0 w p mn ms mc d m :=
  ⟨h.lay, { h.ok with s1 := by have := h.ok.s1; omega }, h.low, h.bel⟩
theorem size_nil (w : World) : Calls Try.prog 31 #[.pointer none] w fun e w' => e = .returned (.int .i64 0) ∧ w = w' := by
  go_enter Try.func31, Try.ntmps31
  go_wp2
  go_ret
  exact ⟨rfl, rfl⟩
def fitsB (d : Dev) (at_ : Int) : Bool := decide (0 ≤ at_ ∧ at_ < d.size - 1)
theorem fits_dev (w : World) (p mn ms mc : Nat) (d : Dev) (h : DevAt w p mn ms mc d) (h1 : 1 ≤ d.size) (h2 : d.size ≤ 4096) (at_ : Int) : Calls Try.prog 83 #[.pointer (some ⟨p, 0, none⟩), .int .i64 at_] w fun e w' => e = .returned (.bool (fitsB d at_)) ∧ w = w' := by
  have hs := size_any w p mn ms mc d h
  by_cases h0 : at_ < 0
  · have hf : fitsB d at_ = false := by unfold fitsB; simp; omega
    rw [hf]
    go_enter Try.func83, Try.ntmps83
    go_wp2_with (go_at_call 31; (with_reducible refine hs.mono ?_); rintro _ _ ⟨rfl, rfl⟩)
    go_ret
    exact ⟨rfl, rfl⟩
  · have h0' : 0 ≤ at_ := by omega
    have hf : fitsB d at_ = decide (at_ < d.size - 1) := by unfold fitsB; simp [h0']
    rw [hf]
    clear hf
    go_enter Try.func83, Try.ntmps83
    go_wp2_with (go_at_call 31; (with_reducible refine hs.mono ?_); rintro _ _ ⟨rfl, rfl⟩)
    go_ret
    exact ⟨rfl, rfl⟩
theorem fits_nil (w : World) (at_ : Int) : Calls Try.prog 83 #[.pointer none, .int .i64 at_] w fun e w' => e = .returned (.bool false) ∧ w = w' := by
  have hs := size_nil w
  by_cases h0 : at_ < 0
  · go_enter Try.func83, Try.ntmps83
    go_wp2_with (go_at_call 31; (with_reducible refine hs.mono ?_); rintro _ _ ⟨rfl, rfl⟩)
    go_ret
    exact ⟨rfl, rfl⟩
  · have h0' : 0 ≤ at_ := by omega
    have h1 : decide (at_ < -1) = false := by simp; omega
    go_enter Try.func83, Try.ntmps83
    go_wp2_with (go_at_call 31; (with_reducible refine hs.mono ?_); rintro _ _ ⟨rfl, rfl⟩)
    go_ret
    exact ⟨rfl, rfl⟩
theorem sector_long {w : World} {v : Value} {r : List UInt8} (n : Int) (hr : Bytes w v r) (h : 480 < r.length) : Calls Try.prog 84 #[.int .i64 n, v] w fun e w' => e = .returned (.tuple #[.slice none 0 0, errV 2]) ∧ w = w' := by
  have hm := makeErr 2
  rw [errV_pos (by decide)]
  obtain ⟨q, cap, rfl, h1, h2, h3⟩ := hr
  have hl : (480 : Int) < ((r.length : Nat) : Int) := by omega
  clear h3
  go_enter Try.func84, Try.ntmps84
  go_wp2
  go_ret2
  exact ⟨rfl, rfl⟩
theorem Box_512 {w : World} {v : Value} {ps : List (List UInt8)} {l : List UInt8} (hp : Parts w v ps) (hps : ps.flatten = l) (hl : l.length ≤ 506) (hn : ps.length ≤ 1000000) :
    Calls Try.prog 95 #[.int .i64 512, v] w fun e w' => ∃ g, e = .returned (.tuple #[.slice (some ⟨g, 0, none⟩) 512 512, .nilIface]) ∧ w.heap.size ≤ g ∧ Bytes w' (.slice (some ⟨g, 0, none⟩) 512 512) (boxOf 512 l) ∧ Below w.heap.size w w' := by
  subst hps
  refine (Box_ok (sz := 512) hp (by omega) (by omega) (by omega) hn).mono fun _ _ ⟨g, h1, h2, h3, h4⟩ => ⟨g, h1, h2, ?_, h4⟩
  have := h3.bytes (by unfold maxLen; omega)
  rwa [boxOf_len (by omega)] at this
theorem sector_ok {w : World} {v : Value} {r : List UInt8} {n : Int} (hn : int64 n) (hr : Bytes w v r) (h : r.length ≤ 480) :
    Calls Try.prog 84 #[.int .i64 n, v] w fun e w' => ∃ g, e = .returned (.tuple #[.slice (some ⟨g, 0, none⟩) 512 512, .nilIface]) ∧ w.heap.size ≤ g ∧ Bytes w' (.slice (some ⟨g, 0, none⟩) 512 512) (secOf n r) ∧ Below w.heap.size w w' := by
  have Hr := Lib.hid hr
  obtain ⟨q, cap, rfl, h1, h2, h3⟩ := hr
  have hl : ¬ (480 : Int) < ((r.length : Nat) : Int) := by omega
  have hal : Below w.heap.size w (w.alloc (.cells #[.int .i64 n] 3)) := (Below.refl _ _).alloc (Nat.le_refl _) _
  have hp := put_any Bytes.nil (ints_one (w := w) n 3) (fun x hx => by simp at hx; subst hx; exact hn) (by simp) (by simp)
  have e1 : ([] : List UInt8) ++ nums [n] = num n := by simp [nums]
  rw [e1] at hp
  have Hln : Hid (r.length ≤ 480 ∧ (num n).length ≤ 10) := Lib.hid ⟨h, num_len n⟩
  clear h3 h e1
  go_enter Try.func84, Try.ntmps84
  go_wp2_with (first
    | (go_at_call 97; (with_reducible refine hp.mono ?_); rintro _ w1 ⟨v1, rfl, s1, b1⟩; clear hp; have hb1 : Below w.heap.size w w1 := hal.trans (b1.mono (by simp)); have hrw := putRow_any (Bytes.of_sub s1) (Hr.out.below hb1) (by have := Hln.out; omega) (by have := Hln.out; omega); clear b1 s1)
    | (go_at_call 96; (with_reducible refine hrw.mono ?_); rintro _ w2 ⟨v2, rfl, s2, b2⟩; clear hrw; have hb2 := hb1.trans (b2.mono hb1.size); obtain ⟨q2, c2, rfl, _, _⟩ := s2.form; have hbx := Box_512 (l := num n ++ rowB r) (one_part (Bytes.of_sub s2) 52) (by simp) (by have := sec_in (n := n) Hln.out.1; omega) (by simp); clear hb1 s2 b2)
    | (go_at_call 95; (with_reducible refine hbx.mono ?_); rintro _ w3 ⟨g, rfl, hg, hrow, b3⟩; clear hbx))
  go_ret2
  have ba : Below w2.heap.size w2 w3 := ((Below.refl _ w2).alloc (Nat.le_refl _) _).trans (b3.mono (by simp))
  refine ⟨g, rfl, ?_, hrow, hb2.trans (ba.mono hb2.size)⟩
  have := hb2.size; simp at hg; omega
end Go.Proofs.Ytnficiohnhodiaa
