import Derived.Test.YtnficiohnhodiaaArgs
import Derived.Test.YtnficiohnhodiaaWire
import Derived.Deep.Slices
import Derived.Deep.Fields
/-
  Arguments: slices of bytes, of ints, of rows of bytes, out of what a row's reading says.
-/
namespace Go.Proofs.Ytnficiohnhodiaa
open Go.RowKit Go.ChangeShapes Go.WideShapes Go.Deep
section
variable {H : Type} {enc : TypeId × Value → H} {w : World} {base : Nat} {spare : Nat → Bool} {held : Bool} {fuel : Nat}
theorem int_of_trod {v : Value} {y : DataW H × List MemPlace} (h : DataW.trod enc Try.prog w base spare held fuel 3 [v] = some y) : ∃ z : Int, v = .int .i64 z ∧ -9223372036854775808 ≤ z ∧ z ≤ 9223372036854775807 := by
  obtain ⟨a, e, _, wa⟩ := DataW.trod_int Try.underlying3 h
  exact ⟨a, by simpa using e, int_wf wa⟩
theorem bytes_of_trod {v : Value} {y : DataW H × List MemPlace} (h : DataW.trod enc Try.prog w base spare held fuel 52 [v] = some y) : ∃ q c bs, v = .slice q bs.length c ∧ Bytes w (.slice q bs.length c) bs := by
  rcases open_ints Try.underlying52 Try.underlying5 (by kernel_rfl) h with ⟨hcs, _⟩ | ⟨x, l, c, zs, hcs, _, hl, hm, hz, _, hcell, hwz⟩
  · cases hcs; exact ⟨none, 0, [], rfl, Bytes.nil⟩
  · cases hcs
    have hlz : l ≤ zs.length := by rw [hz]; split <;> omega
    have hlen : ((zs.take l).map fun z => UInt8.ofNat z.toNat).length = l := by simp; omega
    refine ⟨some x, c, (zs.take l).map fun z => UInt8.ofNat z.toNat, by rw [hlen], ?_⟩
    refine ⟨some x, c, rfl, by rw [hlen]; exact hl, hm, fun j b hb => ⟨x, rfl, ?_⟩⟩
    rw [List.getElem?_map] at hb
    obtain ⟨z, hzz, rfl⟩ := Option.map_eq_some_iff.1 hb
    rw [List.getElem?_take] at hzz
    split at hzz
    · have hj := (List.getElem?_eq_some_iff.1 hzz).1
      have hw := hwz z (List.mem_of_getElem? hzz)
      rw [hcell j hj, List.getD_eq_getElem?_getD, hzz]
      simp [Lit.wf, IntKind.min, IntKind.max, IntKind.signed, IntKind.bits] at hw
      show some (Value.int .u8 z) = some (byteV (UInt8.ofNat z.toNat))
      unfold byteV
      rw [UInt8.toNat_ofNat']
      congr 2; omega
    · cases hzz
theorem ints_of_trod {v : Value} {y : DataW H × List MemPlace} (h : DataW.trod enc Try.prog w base spare held fuel 41 [v] = some y) : ∃ q c xs, v = .slice q xs.length c ∧ Ints w (.slice q xs.length c) xs ∧ ∀ x ∈ xs, -9223372036854775808 ≤ x ∧ x ≤ 9223372036854775807 := by
  rcases open_ints Try.underlying41 Try.underlying3 (by kernel_rfl) h with ⟨hcs, _⟩ | ⟨x, l, c, zs, hcs, _, hl, hm, hz, _, hcell, hwz⟩
  · cases hcs; exact ⟨none, 0, [], rfl, ints_nil (Nat.zero_le _) none, fun x hx => by simp at hx⟩
  · cases hcs
    have hlz : l ≤ zs.length := by rw [hz]; split <;> omega
    have hlen : (zs.take l).length = l := by simp; omega
    refine ⟨some x, c, zs.take l, by rw [hlen], ⟨some x, c, rfl, by rw [hlen]; exact hl, hm, fun j b hb => ?_⟩, fun y hy => int_wf (hwz y (List.mem_of_mem_take hy))⟩
    rw [List.getElem?_take] at hb
    split at hb
    · have hj := (List.getElem?_eq_some_iff.1 hb).1
      have hc := hcell j hj
      rw [List.getD_eq_getElem?_getD, hb] at hc
      have hc0 := hcell 0 (by omega)
      rw [show x.add 0 = x from by simp [Addr.add]] at hc0
      have hsp := spot_none hc0
      obtain ⟨bb, off, sp⟩ := x
      cases hsp
      exact ⟨bb, off, rfl, by rw [Addr.add_mid] at hc; exact hc⟩
    · cases hb
theorem choose_list {α : Type} (n : Nat) (R : Nat → α → Prop) (h : ∀ i, i < n → ∃ x, R i x) : ∃ zs : List α, zs.length = n ∧ ∀ i x, zs[i]? = some x → R i x := by
  induction n with
  | zero => exact ⟨[], rfl, fun i x hx => by simp at hx⟩
  | succ n ih =>
    obtain ⟨zs, hl, hz⟩ := ih (fun i hi => h i (by omega))
    obtain ⟨x, hx⟩ := h n (by omega)
    refine ⟨zs ++ [x], by simp [hl], fun i y hy => ?_⟩
    by_cases hi : i < zs.length
    · rw [List.getElem?_append_left hi] at hy; exact hz i y hy
    · have hi2 := (List.getElem?_eq_some_iff.1 hy).1
      simp at hi2
      have : i = n := by omega
      subst this
      rw [List.getElem?_append_right (by omega), hl] at hy; simp at hy; subst hy; exact hx
theorem parts_of_trod {v : Value} {y : DataW H × List MemPlace} (h : DataW.trod enc Try.prog w base spare held fuel 56 [v] = some y) : ∃ q c ps, v = .slice q ps.length c ∧ Parts w (.slice q ps.length c) ps := by
  rcases open_slice Try.underlying56 h with ⟨hcs, _⟩ | ⟨x, l, c, m, n, D, Pl, hcs, _, hl, hm, hmm, _, hi⟩
  · cases hcs; exact ⟨none, 0, [], rfl, none, 0, rfl, Nat.le_refl _, Nat.zero_le _, fun j l hj => by simp at hj⟩
  · cases hcs
    have hlm : l ≤ m := by rw [hmm]; split <;> omega
    obtain ⟨ps, hpl, hps⟩ := choose_list l (fun i bs => ∃ u, w.cell? (x.add i) = some u ∧ Bytes w u bs) (fun i hil => by
      obtain ⟨cs', hc, ht⟩ := hi i (by omega)
      have hC : Try.prog.cellsOf 52 = 1 := by kernel_rfl
      rw [hC] at hc
      obtain ⟨_, hcl, hat⟩ := World.cells?_some hc
      have h0 := hat 0 (by omega)
      obtain ⟨u, rfl⟩ : ∃ u, cs' = [u] := by
        match cs', hcl with
        | [u], _ => exact ⟨u, rfl⟩
      obtain ⟨q, c', bs, rfl, hb⟩ := bytes_of_trod ht
      rw [Nat.mul_one] at h0
      refine ⟨bs, _, ?_, hb⟩
      have e : (x.add i).add 0 = x.add i := by simp [Addr.add]
      rw [e] at h0
      simpa using h0)
    refine ⟨some x, c, ps, by rw [hpl], some x, c, rfl, by rw [hpl]; exact hl, hm, fun j bs hj => ?_⟩
    obtain ⟨u, h1, h2⟩ := hps j bs hj
    exact ⟨x, u, rfl, h1, h2⟩
end
end Go.Proofs.Ytnficiohnhodiaa
