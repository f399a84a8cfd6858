import Derived.Test.YtnficiohnhodiaaDiskJ
/-
  Calls with one part, one int.
-/
namespace Go.Proofs.Ytnficiohnhodiaa
open Go.RowKit
theorem mem_unsynced {d : Dev} {n : Nat} (hd : d.Ok n) {k : Int} : k ∈ d.unsynced ↔ d.chg k = true := by
  unfold Dev.unsynced
  simp only [List.mem_map, List.mem_filter, List.mem_range]
  constructor
  · rintro ⟨i, ⟨_, h⟩, rfl⟩; exact h
  · intro h
    have := hd.rng k h
    exact ⟨k.toNat, ⟨by omega, by rw [Int.toNat_of_nonneg this.1]; exact h⟩, Int.toNat_of_nonneg this.1⟩
theorem one_int (w : World) (x : Int) (T : TypeId) : Ints (w.alloc (.cells #[.int .i64 x] T)) (.slice (some ⟨w.heap.size, 0, none⟩) 1 1) [x] := by
  refine ⟨_, 1, rfl, Nat.le_refl _, by unfold maxLen; omega, fun j y hj => ?_⟩
  cases j with
  | zero => simp at hj; subst hj; exact ⟨_, _, rfl, cell_in (heap_alloc_new w _) rfl⟩
  | succ j => simp at hj
theorem write_one {w0 w : World} {p mn ms mc n : Nat} {d : Dev} (h : DB w0 w p mn ms mc d n) (hn : n ≤ 1000000000) (at_ : Int) {v : Value} {l : List UInt8} (hv : Bytes w v l) (T : TypeId) (ht : l.length ≤ 1000000000000) :
    Calls Try.prog 45 #[.pointer (some ⟨p, 0, none⟩), .int .i64 at_, .slice (some ⟨w.heap.size, 0, none⟩) 1 1] (w.alloc (.cells #[v] T)) fun e w' => e = .returned (errV (d.write at_ l).1) ∧ DB w0 w' p mn ms mc (d.write at_ l).2 (n + 1) ∧ Keeps (DFoot p mn ms mc) w w' :=
  (write_db (h.below ((Below.refl _ _).alloc (Nat.le_refl _) _)) hn at_ _ [l] l (by simp) (one_part hv T) (by simp) ht).mono fun _ _ ⟨h1, h2, h3⟩ => ⟨h1, h2, ((Keeps.refl _ w).alloc _).trans' h3 (fun _ _ e => e)⟩
theorem crash_one {w0 w : World} {p mn ms mc n : Nat} {d : Dev} (h : DB w0 w p mn ms mc d n) (x : Int) (T : TypeId) :
    Calls Try.prog 48 #[.pointer (some ⟨p, 0, none⟩), .slice (some ⟨w.heap.size, 0, none⟩) 1 1] (w.alloc (.cells #[.int .i64 x] T)) fun e w' => e = .returned (.tuple #[]) ∧ DB w0 w' p mn ms mc (d.crash [x]) n ∧ Keeps (DFoot p mn ms mc) w w' :=
  (crash_db (h.below ((Below.refl _ _).alloc (Nat.le_refl _) _)) _ [x] (one_int w x T)).mono fun _ _ ⟨h1, h2, h3⟩ => ⟨h1, h2, ((Keeps.refl _ w).alloc _).trans' h3 (fun _ _ e => e)⟩
end Go.Proofs.Ytnficiohnhodiaa
