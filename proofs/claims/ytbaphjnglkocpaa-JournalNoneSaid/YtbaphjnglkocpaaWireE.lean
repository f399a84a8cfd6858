import Derived.Test.YtbaphjnglkocpaaWireD
/-
  CRC-32: Check.
-/
namespace Go.Proofs.Ytbaphjnglkocpaa
open Go.RowKit
theorem and1_u32 (r : BitVec 32) : bits .and .u32 (r.toNat : Int) 1 = ((r.toNat % 2 : Nat) : Int) := by
  rw [show (1 : Int) = ((1 : Nat) : Int) from rfl, u32_and_nat _ _ r.isLt (by omega), nat_mask1]
theorem crcBit_odd {r : BitVec 32} (h : r.toNat % 2 = 1) : bits .xor .u32 ((r.toNat : Int) / 2) 3988292384 = ((crcBit r).toNat : Int) := by
  have hr := r.isLt
  have hc : r &&& 1#32 = 1#32 := by
    apply BitVec.eq_of_toNat_eq
    rw [BitVec.toNat_and, show (1#32).toNat = 1 from rfl, nat_mask1]; exact h
  unfold crcBit
  rw [if_pos hc, BitVec.toNat_xor, BitVec.toNat_ushiftRight, Nat.shiftRight_eq_div_pow, Nat.pow_one, show (r.toNat : Int) / 2 = ((r.toNat / 2 : Nat) : Int) from by omega,
    show (3988292384 : Int) = ((3988292384 : Nat) : Int) from rfl, u32_xor_nat _ _ (by omega) (by omega)]
  rfl
theorem crcBit_even {r : BitVec 32} (h : r.toNat % 2 = 0) : (r.toNat : Int) / 2 = ((crcBit r).toNat : Int) := by
  have hc : ¬ r &&& 1#32 = 1#32 := by
    intro e
    have := congrArg BitVec.toNat e
    rw [BitVec.toNat_and, show (1#32).toNat = 1 from rfl, nat_mask1] at this
    omega
  unfold crcBit
  rw [if_neg hc, BitVec.toNat_ushiftRight, Nat.shiftRight_eq_div_pow, Nat.pow_one]; omega
theorem xor_byte (r : BitVec 32) (b : UInt8) : bits .xor .u32 (r.toNat : Int) (b.toNat : Int) = ((r ^^^ BitVec.ofNat 32 b.toNat).toNat : Int) := by
  have hb := b.toNat_lt
  rw [u32_xor_nat _ _ r.isLt (by omega), BitVec.toNat_xor, BitVec.toNat_ofNat, Nat.mod_eq_of_lt (by omega)]
theorem not_u32 (r : BitVec 32) : bits .xor .u32 IntKind.u32.max (r.toNat : Int) = ((~~~ r).toNat : Int) := by
  rw [show IntKind.u32.max = ((4294967295 : Nat) : Int) from by decide, u32_xor_nat _ _ (by omega) r.isLt, BitVec.not_def, BitVec.toNat_xor, BitVec.toNat_allOnes]
theorem crcReg_snoc (l : List UInt8) (b : UInt8) : crcReg (l ++ [b]) = crcByte (crcReg l) b := by unfold crcReg; rw [List.foldl_append]; rfl
set_option maxRecDepth 100000 in
set_option maxHeartbeats 1000000 in
theorem check_any {w : World} {v : Value} {ps : List (List UInt8)} (hp : Parts w v ps) :
    Calls Try.prog 118 #[v] w fun e w' => e = .returned (.int .u32 ((crc ps.flatten).toNat : Int)) ∧ w = w' := by
  obtain ⟨q, cap, rfl, hc1, hc2, h3⟩ := hp
  have H3 := Lib.hid h3
  clear h3
  unfold maxLen at hc2
  go_enter Try.func118, Try.ntmps118
  go_wp2
  go_loop [3, 11] (fun s i => ∃ (k : Nat) (r : BitVec 32), k ≤ ps.length ∧ i = .int .i64 k ∧ s = .int .u32 (r.toNat : Int) ∧ r = crcReg (ps.take k).flatten) (fun _ i => ps.length - (intOf i).toNat)
  case atStart => exact ⟨0, 0xffffffff#32, by omega, rfl, rfl, rfl⟩
  case round =>
    obtain ⟨k, r, hk, rfl, rfl, hr⟩ := hrel
    have Hr := Lib.hid hr
    clear hr
    by_cases hlt : k < ps.length
    · obtain ⟨l, hl⟩ : ∃ l, ps[k]? = some l := ⟨_, List.getElem?_eq_getElem hlt⟩
      obtain ⟨a, u, rfl, hcell, q2, cap2, rfl, hq1, hq2, h4⟩ := H3.out k l hl
      have H4 := Lib.hid h4
      have Hft := Lib.hid (flat_take hl)
      unfold maxLen at hq2
      clear h4 hl
      go_wp2
      clear hcell
      go_loop [3, 17] (fun s i => ∃ (j : Nat) (r' : BitVec 32), j ≤ l.length ∧ i = .int .i64 j ∧ s = .int .u32 (r'.toNat : Int) ∧ r' = crcReg ((ps.take k).flatten ++ l.take j)) (fun _ i => l.length - (intOf i).toNat)
      case atStart => exact ⟨0, r, by omega, rfl, rfl, by rw [Hr.out]; simp⟩
      case round =>
        obtain ⟨j, r', hj, rfl, rfl, hr'⟩ := hrel
        have Hr' := Lib.hid hr'
        clear hr'
        by_cases hjl : j < l.length
        · obtain ⟨b, hb⟩ : ∃ b, l[j]? = some b := ⟨_, List.getElem?_eq_getElem hjl⟩
          obtain ⟨a2, rfl, hcb⟩ := H4.out j b hb
          unfold byteV at hcb
          have hxb := xor_byte r' b
          have Htk : Hid (l.take (j + 1) = l.take j ++ [b]) := Lib.hid (by rw [List.take_add_one, hb]; rfl)
          generalize hr0 : r' ^^^ BitVec.ofNat 32 b.toNat = r0 at hxb
          have Hr0 := Lib.hid hr0
          have hbt := b.toNat_lt
          have hbi : (b.toNat : Int) < 256 := by omega
          clear hb hr0 hbt
          go_wp2
          clear hcb hxb
          go_loop [3, 25] (fun s i => ∃ (m : Nat) (r1 : BitVec 32), m ≤ 8 ∧ i = .int .i64 m ∧ s = .int .u32 (r1.toNat : Int) ∧ r1 = crcBits m r0) (fun _ i => 8 - (intOf i).toNat)
          case atStart => exact ⟨0, r0, by omega, rfl, rfl, rfl⟩
          case round =>
            obtain ⟨m, r1, hm, rfl, rfl, hr1⟩ := hrel
            have Hr1 := Lib.hid hr1
            clear hr1
            have hand := and1_u32 r1
            by_cases hm8 : m < 8
            · have Hsucc : Hid (crcBits (m + 1) r0 = crcBit r1) := Lib.hid (by rw [crcBits_succ, Hr1.out])
              by_cases hodd : r1.toNat % 2 = 1
              · rw [hodd] at hand
                have hx := crcBit_odd hodd
                clear hodd
                go_wp2
                go_round
                case rel => exact ⟨m + 1, crcBit r1, by omega, by go_num, rfl, Hsucc.out.symm⟩
                case measure => simp [intOf]; omega
              · have he : r1.toNat % 2 = 0 := by omega
                rw [he] at hand
                have hx := crcBit_even he
                clear hodd he
                go_wp2
                go_round
                case rel => exact ⟨m + 1, crcBit r1, by omega, by go_num, rfl, Hsucc.out.symm⟩
                case measure => simp [intOf]; omega
            · obtain rfl : m = 8 := by omega
              clear hand
              go_wp2
              go_round
              case rel => exact ⟨j + 1, r1, by omega, by go_num, rfl, by rw [Htk.out, ← List.append_assoc, crcReg_snoc, ← Hr'.out, Hr1.out, crcByte, Hr0.out]⟩
              case measure => simp [intOf]; omega
        · obtain rfl : j = l.length := by omega
          go_wp2
          go_round
          case rel => exact ⟨k + 1, r', by omega, by go_num, rfl, by rw [Hft.out, Hr'.out, List.take_length]⟩
          case measure => simp [intOf]; omega
    · obtain rfl : k = ps.length := by omega
      have Hn : Hid (bits .xor .u32 IntKind.u32.max (r.toNat : Int) = ((crc ps.flatten).toNat : Int)) := Lib.hid (by rw [not_u32]; unfold crc; rw [Hr.out, List.take_length])
      go_wp2
      go_ret
      exact ⟨by rw [← Hn.out]; rfl, rfl⟩
end Go.Proofs.Ytbaphjnglkocpaa
