import Derived.Test.YtnficiohnhodiaaDev
import Derived.Test.YtnficiohnhodiaaBase
/-
  Arguments: slices of bytes and of ints as they come in.
-/
namespace Go.Proofs.Ytnficiohnhodiaa
open Go.RowKit
theorem bytes_of_row {w : World} {a : Option Addr} {len cap : Nat} {zs : List Int} (h : IsRow .u8 w a len cap zs) : ∃ l : List UInt8, l.length = len ∧ Bytes w (.slice a len cap) l := by
  rcases h with ⟨rfl, rfl, rfl, rfl⟩ | ⟨x, rfl, h1, h2, h3, h4, h5⟩
  · exact ⟨[], rfl, none, 0, rfl, Nat.le_refl _, Nat.zero_le _, fun j b hb => by simp at hb⟩
  · have hl : ((zs.take len).map fun z => UInt8.ofNat z.toNat).length = len := by simp; omega
    refine ⟨_, hl, some x, cap, by rw [hl], by rw [hl]; exact h1, h2, fun j b hb => ⟨x, rfl, ?_⟩⟩
    rw [List.getElem?_map] at hb
    obtain ⟨z, hz, rfl⟩ := Option.map_eq_some_iff.1 hb
    rw [List.getElem?_take] at hz
    split at hz
    · have hj := (List.getElem?_eq_some_iff.1 hz).1
      have hw := h5 z (List.mem_of_getElem? hz)
      rw [h4 j hj, List.getD_eq_getElem?_getD, hz]
      simp [Lit.wf, IntKind.min, IntKind.max, IntKind.signed, IntKind.bits] at hw
      show some (Value.int .u8 z) = some (byteV (UInt8.ofNat z.toNat))
      unfold byteV
      rw [UInt8.toNat_ofNat']
      congr 2; omega
    · cases hz
theorem ints_of_row {w : World} {a : Option Addr} {len cap : Nat} {zs : List Int} (h : IsRow .i64 w a len cap zs) : Ints w (.slice a len cap) (zs.take len) ∧ (zs.take len).length = len := by
  rcases h with ⟨rfl, rfl, rfl, rfl⟩ | ⟨x, rfl, h1, h2, h3, h4, _⟩
  · exact ⟨ints_nil (Nat.zero_le _) none, rfl⟩
  · have hl : (zs.take len).length = len := by rw [List.length_take]; omega
    refine ⟨⟨some x, cap, by rw [hl], by rw [hl]; exact h1, h2, fun j y hy => ?_⟩, hl⟩
    have hj := (List.getElem?_eq_some_iff.1 hy).1
    rw [hl] at hj
    have hc := h4 j (by omega)
    have hg : zs.getD j 0 = y := by
      rw [List.getElem?_take, if_pos hj] at hy
      rw [List.getD_eq_getElem?_getD, hy]; rfl
    rw [hg] at hc
    have hsp : x.spot = none := by
      have hc0 := h4 0 (by omega)
      have h00 : x.add 0 = x := by simp [Addr.add]
      rw [h00] at hc0
      unfold World.cell? at hc0
      split at hc0
      · split at hc0
        · cases hc0
        · rename_i hs; simpa using hs
      · cases hc0
    obtain ⟨b, off, sp⟩ := x
    cases hsp
    exact ⟨b, off, rfl, by rw [Addr.add_mid] at hc; exact hc⟩
theorem int_wf {n : Int} (h : (Lit.int .i64 n).wf = true) : -9223372036854775808 ≤ n ∧ n ≤ 9223372036854775807 := by
  simp [Lit.wf, IntKind.min, IntKind.max, IntKind.signed, IntKind.bits] at h
  omega
end Go.Proofs.Ytnficiohnhodiaa
