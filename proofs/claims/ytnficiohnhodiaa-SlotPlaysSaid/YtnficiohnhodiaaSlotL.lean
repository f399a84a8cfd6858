import Derived.Test.YtnficiohnhodiaaWire
/-
  Slots: the plain law's words; how they lie.
-/
namespace Go.Proofs.Ytnficiohnhodiaa
open Go.RowKit
def most62 : Int := 4611686018427387904
def secOf (n : Int) (r : List UInt8) : List UInt8 := boxOf 512 (num n ++ rowB r)
def slotRead (b : List UInt8) (which : Int) : Int × List UInt8 :=
  match unbox b with
  | none => (0, [])
  | some x => match takeN x with
    | none => (0, [])
    | some (n, k) => if n < 1 ∨ most62 < n ∨ n.tmod 2 ≠ which then (0, []) else
      match takeRow (x.drop k) with
      | none => (0, [])
      | some (r, rest) => if rest ≠ [] ∨ 480 < r.length then (0, []) else (n, r)
theorem num_small {n : Nat} (h : n ≤ 480) : (num (n : Int)).length ≤ 2 := by
  unfold num
  have hz : zig (n : Int) = 2 * n := by unfold zig; rw [if_pos (by omega)]; omega
  rw [hz]
  by_cases h1 : 2 * n < 128
  · rw [vint_lo h1]; simp
  · rw [vint_hi h1, vint_lo (by omega)]; simp
theorem sec_in {n : Int} {r : List UInt8} (h : r.length ≤ 480) : (num n ++ rowB r).length ≤ 492 := by
  unfold rowB
  rw [List.length_append, List.length_append]
  have := num_len n; have := num_small h; omega
theorem secOf_len {n : Int} {r : List UInt8} (h : r.length ≤ 480) : (secOf n r).length = 512 := boxOf_len (by have := sec_in (n := n) h; omega)
theorem slotRead_sec {n : Int} {r : List UInt8} (h1 : 1 ≤ n) (h2 : n ≤ most62) (h : r.length ≤ 480) : slotRead (secOf n r) (n % 2) = (n, r) := by
  have h2' := h2
  unfold most62 at h2'
  unfold slotRead secOf
  rw [unbox_box (by have := sec_in (n := n) h; omega) (by omega)]
  simp only []
  rw [takeN_num n _ (by omega) (by omega)]
  simp only []
  rw [if_neg (by rw [Int.tmod_eq_emod_of_nonneg (by omega)]; omega), List.drop_left]
  have := takeRow_row r [] (by omega)
  rw [List.append_nil] at this
  rw [this]
  simp only []
  rw [if_neg (by simp; omega)]
theorem slotRead_nonneg (b : List UInt8) (which : Int) : 0 ≤ (slotRead b which).1 ∧ (slotRead b which).1 ≤ most62 ∧ (slotRead b which).2.length ≤ 480 ∧ ((slotRead b which).1 ≠ 0 → (slotRead b which).1 % 2 = which) := by
  have h0 : (0 : Int) ≤ most62 := by decide
  unfold slotRead
  split
  · exact ⟨Int.le_refl _, h0, Nat.zero_le _, fun h => absurd rfl h⟩
  · split
    · exact ⟨Int.le_refl _, h0, Nat.zero_le _, fun h => absurd rfl h⟩
    · split
      · exact ⟨Int.le_refl _, h0, Nat.zero_le _, fun h => absurd rfl h⟩
      · rename_i hno
        split
        · exact ⟨Int.le_refl _, h0, Nat.zero_le _, fun h => absurd rfl h⟩
        · split
          · exact ⟨Int.le_refl _, h0, Nat.zero_le _, fun h => absurd rfl h⟩
          · rename_i n k _ _ _ _ _ hlen
            refine ⟨?_, ?_, ?_, fun _ => ?_⟩ <;> simp only []
            · omega
            · omega
            · omega
            · have hn : 0 ≤ n := by omega
              rw [Int.tmod_eq_emod_of_nonneg hn] at hno
              omega
theorem crcBits_add (a b : Nat) (r : BitVec 32) : crcBits (a + b) r = crcBits b (crcBits a r) := by
  induction a generalizing r with
  | zero => rw [Nat.zero_add]; rfl
  | succ a ih => rw [show a + 1 + b = (a + b) + 1 from by omega, crcBits, ih]; rfl
theorem crc_zeros (n : Nat) (r : BitVec 32) : (List.replicate n (0 : UInt8)).foldl crcByte r = crcBits (8 * n) r := by
  induction n generalizing r with
  | zero => rfl
  | succ n ih =>
    rw [List.replicate_succ, List.foldl_cons, ih, show 8 * (n + 1) = 8 + 8 * n from by omega, crcBits_add]
    congr 1
    unfold crcByte
    congr 1
    simp
theorem crc_step {n m : Nat} {r s t : BitVec 32} (h1 : crcBits n r = s) (h2 : crcBits m s = t) : crcBits (n + m) r = t := by rw [crcBits_add, h1, h2]
set_option maxRecDepth 100000 in
theorem crc_4064 : crcBits 4064 0xffffffff#32 = 0xf04492ab#32 := by
  have h1 : crcBits 127 0xffffffff#32 = 0x26896954#32 := by decide +kernel
  have h2 : crcBits 127 0x26896954#32 = 0x2d34a5ca#32 := by decide +kernel
  have h3 : crcBits 127 0x2d34a5ca#32 = 0x6bba6350#32 := by decide +kernel
  have h4 : crcBits 127 0x6bba6350#32 = 0xca14e1dd#32 := by decide +kernel
  have h5 : crcBits 127 0xca14e1dd#32 = 0xe014d128#32 := by decide +kernel
  have h6 : crcBits 127 0xe014d128#32 = 0x43edc89b#32 := by decide +kernel
  have h7 : crcBits 127 0x43edc89b#32 = 0x27cea4c6#32 := by decide +kernel
  have h8 : crcBits 127 0x27cea4c6#32 = 0x8f90b565#32 := by decide +kernel
  have h9 : crcBits 127 0x8f90b565#32 = 0xfbb83ff9#32 := by decide +kernel
  have h10 : crcBits 127 0xfbb83ff9#32 = 0x40c8c25e#32 := by decide +kernel
  have h11 : crcBits 127 0x40c8c25e#32 = 0xcb0e206d#32 := by decide +kernel
  have h12 : crcBits 127 0xcb0e206d#32 = 0xc98659ff#32 := by decide +kernel
  have h13 : crcBits 127 0xc98659ff#32 = 0x28b3a114#32 := by decide +kernel
  have h14 : crcBits 127 0x28b3a114#32 = 0x3b5de5c3#32 := by decide +kernel
  have h15 : crcBits 127 0x3b5de5c3#32 = 0x28689aca#32 := by decide +kernel
  have h16 : crcBits 127 0x28689aca#32 = 0xa13672cf#32 := by decide +kernel
  have h17 : crcBits 127 0xa13672cf#32 = 0x453a5899#32 := by decide +kernel
  have h18 : crcBits 127 0x453a5899#32 = 0x2495956d#32 := by decide +kernel
  have h19 : crcBits 127 0x2495956d#32 = 0x37990442#32 := by decide +kernel
  have h20 : crcBits 127 0x37990442#32 = 0x247ee286#32 := by decide +kernel
  have h21 : crcBits 127 0x247ee286#32 = 0x29b188bf#32 := by decide +kernel
  have h22 : crcBits 127 0x29b188bf#32 = 0x4681f058#32 := by decide +kernel
  have h23 : crcBits 127 0x4681f058#32 = 0x3a7b7dfd#32 := by decide +kernel
  have h24 : crcBits 127 0x3a7b7dfd#32 = 0xa94692b#32 := by decide +kernel
  have h25 : crcBits 127 0xa94692b#32 = 0xa44577bf#32 := by decide +kernel
  have h26 : crcBits 127 0xa44577bf#32 = 0x8aba08a7#32 := by decide +kernel
  have h27 : crcBits 127 0x8aba08a7#32 = 0x322b210e#32 := by decide +kernel
  have h28 : crcBits 127 0x322b210e#32 = 0x32fb1759#32 := by decide +kernel
  have h29 : crcBits 127 0x32fb1759#32 = 0xcdf1d5c3#32 := by decide +kernel
  have h30 : crcBits 127 0xcdf1d5c3#32 = 0xc14d9da#32 := by decide +kernel
  have h31 : crcBits 127 0xc14d9da#32 = 0x67bf2dac#32 := by decide +kernel
  have h32 : crcBits 127 0x67bf2dac#32 = 0xf04492ab#32 := by decide +kernel
  have h := (crc_step (crc_step (crc_step (crc_step (crc_step (crc_step (crc_step (crc_step (crc_step (crc_step (crc_step (crc_step (crc_step (crc_step (crc_step (crc_step (crc_step (crc_step (crc_step (crc_step (crc_step (crc_step (crc_step (crc_step (crc_step (crc_step (crc_step (crc_step (crc_step (crc_step (crc_step h1 h2) h3) h4) h5) h6) h7) h8) h9) h10) h11) h12) h13) h14) h15) h16) h17) h18) h19) h20) h21) h22) h23) h24) h25) h26) h27) h28) h29) h30) h31) h32)
  have e : 127 + 127 + 127 + 127 + 127 + 127 + 127 + 127 + 127 + 127 + 127 + 127 + 127 + 127 + 127 + 127 + 127 + 127 + 127 + 127 + 127 + 127 + 127 + 127 + 127 + 127 + 127 + 127 + 127 + 127 + 127 + 127 = 4064 := by decide
  rw [e] at h
  exact h
theorem body_blank : boxBody 512 [] = List.replicate 508 0 := by
  unfold boxBody
  simp only [List.nil_append, List.length_nil]
  rfl
theorem crc_z1 : (List.replicate 508 (0 : UInt8)).foldl crcByte 0xffffffff#32 = crcBits 4064 0xffffffff#32 := by
  have h := crc_zeros 508 0xffffffff#32
  have e : 8 * 508 = 4064 := by decide
  rw [e] at h
  exact h
theorem crc_z2 : (List.replicate 508 (0 : UInt8)).foldl crcByte 0xffffffff#32 = 0xf04492ab#32 := crc_z1.trans crc_4064
theorem crc_z3 : crc (List.replicate 508 0) = ~~~ 0xf04492ab#32 := by unfold crc crcReg; rw [crc_z2]
theorem crc_z4 : ~~~ 0xf04492ab#32 = 0xfbb6d54#32 := by decide
theorem crc_blank : crc (List.replicate 508 0) = 0xfbb6d54#32 := crc_z3.trans crc_z4
theorem boxOf_take (l : List UInt8) : (boxOf 512 l).take 4 = crcBytes (crc (boxBody 512 l)) := by
  unfold boxOf
  generalize crc (boxBody 512 l) = c
  rfl
theorem blank_take : blank.take 4 = [0, 0, 0, 0] := rfl
theorem box_blank : boxOf 512 [] ≠ blank := by
  intro h
  have h1 : (boxOf 512 []).take 4 = blank.take 4 := by rw [h]
  rw [boxOf_take, body_blank, crc_blank, blank_take] at h1
  exact absurd h1 (by decide)
theorem unbox_blank : unbox blank = none := by
  unfold unbox
  have hl : blank.length = 512 := List.length_replicate
  have hn : boxN blank = 0 := rfl
  rw [hl, hn, if_neg (by omega), if_neg (by omega), List.take_zero, if_neg box_blank]
theorem slotRead_none {b : List UInt8} (h : unbox b = none) (which : Int) : slotRead b which = (0, []) := by unfold slotRead; rw [h]
theorem slotRead_blank (which : Int) : slotRead blank which = (0, []) := slotRead_none unbox_blank which
end Go.Proofs.Ytnficiohnhodiaa
