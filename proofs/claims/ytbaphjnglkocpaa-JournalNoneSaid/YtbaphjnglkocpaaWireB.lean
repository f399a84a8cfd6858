import Derived.Test.YtbaphjnglkocpaaWireA
import Derived.Laws.ShiftsVarLaws
/-
  Numbers out of bytes: take.
-/
namespace Go.Proofs.Ytbaphjnglkocpaa
open Go.RowKit
def takeV (l : List UInt8) : Int × Nat := (takeN l).getD (0, 0)
theorem pow128 (k : Nat) : (2 : Nat) ^ (7 * k) = 128 ^ k := by rw [Nat.pow_mul]
theorem or_shift (n cm k : Nat) (hn : n < 128 ^ k) (hb : n + cm * 128 ^ k < 18446744073709551616) :
    bits .or .u64 (n : Int) (IntKind.u64.wrap ((cm : Int) * 2 ^ (7 * k))) = ((n + cm * 128 ^ k : Nat) : Int) := by
  have e : (cm : Int) * 2 ^ (7 * k) = ((cm * 128 ^ k : Nat) : Int) := by rw [← pow128]; simp
  rw [e, IntKind.wrap_u64, show ((cm * 128 ^ k : Nat) : Int) % 18446744073709551616 = ((cm * 128 ^ k : Nat) : Int) from by omega, u64_or_nat _ _ (by omega) (by omega), Nat.or_comm,
    nat_join (7 * k) _ n (by rw [← pow128]; exact Nat.mul_mod_left _ _) (by rw [pow128]; exact hn), Nat.add_comm]
theorem or_shift' (n cm k : Nat) (hn : n < 128 ^ k) (hb : n + cm * 128 ^ k < 18446744073709551616) :
    bits .or .u64 (n : Int) ((cm : Int) * 2 ^ (7 * k)) = ((n + cm * 128 ^ k : Nat) : Int) := by
  have e : (cm : Int) * 2 ^ (7 * k) = ((cm * 128 ^ k : Nat) : Int) := by rw [← pow128]; simp
  have h := or_shift n cm k hn hb
  rw [e, IntKind.wrap_u64, show ((cm * 128 ^ k : Nat) : Int) % 18446744073709551616 = ((cm * 128 ^ k : Nat) : Int) from by omega] at h
  rw [e, h]
theorem xor_i64 (a : Int) (h1 : 0 ≤ a) (h2 : a < 9223372036854775808) : bits .xor .i64 a 0 = a ∧ bits .xor .i64 a (-1) = -a - 1 := by
  obtain ⟨n, rfl⟩ : ∃ n : Nat, a = n := ⟨a.toNat, by omega⟩
  have hn : (BitVec.ofInt 64 (n : Int)).toNat = n := by rw [BitVec.toNat_ofInt]; omega
  constructor
  · show IntKind.i64.wrap ((BitVec.ofInt 64 (n : Int) ^^^ BitVec.ofInt 64 0).toNat : Nat) = n
    rw [BitVec.toNat_xor, hn, show (BitVec.ofInt 64 0).toNat = 0 from by decide, Nat.xor_zero, IntKind.wrap_i64]; omega
  · show IntKind.i64.wrap ((BitVec.ofInt 64 (n : Int) ^^^ BitVec.ofInt 64 (-1)).toNat : Nat) = _
    rw [BitVec.toNat_xor, hn, show (BitVec.ofInt 64 (-1)).toNat = 18446744073709551615 from by decide, xor_ones _ (by omega), IntKind.wrap_i64]; omega
theorem zag_bits (n : Nat) (h : n < 18446744073709551616) : bits .xor .i64 (wrap64 ((n : Int) / 2)) (wrap64 (-wrap64 (bits .and .u64 (n : Int) 1))) = zag n := by
  have e1 : wrap64 ((n : Int) / 2) = ((n / 2 : Nat) : Int) := by unfold wrap64; omega
  have e2 : bits .and .u64 (n : Int) 1 = ((n % 2 : Nat) : Int) := by
    rw [show (1 : Int) = ((1 : Nat) : Int) from rfl, u64_and_nat _ _ h (by omega), nat_mask1]
  have hx := xor_i64 ((n / 2 : Nat) : Int) (by omega) (by omega)
  rw [e1, e2]
  unfold zag
  by_cases hp : n % 2 = 0
  · rw [if_pos hp, hp, show wrap64 (-wrap64 ((0 : Nat) : Int)) = 0 from by unfold wrap64; omega]; exact hx.1
  · rw [if_neg hp, show n % 2 = 1 from by omega, show wrap64 (-wrap64 ((1 : Nat) : Int)) = -1 from by unfold wrap64; omega]; exact hx.2
theorem pow128_8 {k : Nat} (h : k ≤ 8) : (128 : Nat) ^ k ≤ 72057594037927936 := Nat.le_trans (Nat.pow_le_pow_right (by omega) h) (by decide)
theorem pow128_9 {k : Nat} (h : k = 9) : (128 : Nat) ^ k = 9223372036854775808 := by subst h; decide
theorem takeV_some {l : List UInt8} {n : Nat} {k : Nat} (h : takeF 0 0 l = some (n, k)) : takeV l = (zag n, k) := by unfold takeV takeN; rw [h]; rfl
theorem takeV_none {l : List UInt8} (h : takeF 0 0 l = none) : takeV l = (0, 0) := by unfold takeV takeN; rw [h]; rfl
theorem ret_two {a b : Int} {p : Int × Nat} (h : p = (a, b.toNat)) (hb : 0 ≤ b) : Ending.returned (.tuple #[.int .i64 a, .int .i64 b]) = .returned (.tuple #[.int .i64 p.1, .int .i64 (p.2 : Int)]) := by
  subst h; simp only []; rw [Int.toNat_of_nonneg hb]
set_option maxRecDepth 100000 in
set_option maxHeartbeats 4000000 in
theorem take_any {w : World} {v : Value} {l : List UInt8} (h : Bytes w v l) :
    Calls Try.prog 101 #[v] w fun e w' => e = .returned (.tuple #[.int .i64 (takeV l).1, .int .i64 ((takeV l).2 : Int)]) ∧ w = w' := by
  obtain ⟨q, cap, rfl, h1, h2, h3⟩ := h
  have H3 := Lib.hid h3
  clear h3
  unfold maxLen at h2
  go_enter Try.func101, Try.ntmps101
  obtain ⟨m, hm⟩ : ∃ m : Nat, min ((l.length : Nat) : Int) 10 = (m : Int) := ⟨min l.length 10, by omega⟩
  have hmx : max (m : Int) 0 = m := by omega
  have hm1 : m ≤ 10 := by omega
  have hm2 : m ≤ l.length := by omega
  have Hm3 : Hid (m = 10 ∨ m = l.length) := Lib.hid (by omega)
  go_wp2
  clear hm hmx
  go_loop [4, 13] (fun u i => ∃ k n : Nat, k ≤ m ∧ i = .int .i64 k ∧ u = .int .u64 n ∧ n < 128 ^ k ∧ takeF 0 0 l = takeF k n (l.drop k)) (fun _ i => m - (intOf i).toNat)
  case atStart => exact ⟨0, 0, Nat.zero_le _, rfl, rfl, by simp, rfl⟩
  case round =>
    obtain ⟨k, n, hk, rfl, rfl, hn, hf⟩ := hrel
    by_cases hlt : k < m
    · obtain ⟨c, hc⟩ : ∃ c, l[k]? = some c := ⟨_, List.getElem?_eq_getElem (by omega)⟩
      have hd : l.drop k = c :: l.drop (k + 1) := by
        rw [List.getElem?_eq_getElem (by omega)] at hc
        rw [List.drop_eq_getElem_cons (by omega)]; cases hc; rfl
      rw [hd] at hf
      simp only [takeF] at hf
      rw [if_neg (by omega)] at hf
      obtain ⟨a, rfl, hcell⟩ := H3.out k c hc
      unfold byteV at hcell
      obtain ⟨cm, hcm, hcm3⟩ : ∃ cm : Nat, bits .and .u8 (c.toNat : Int) 127 = (cm : Int) ∧ cm = c.toNat % 128 := ⟨_, u8_and_nat c.toNat 127 (by have := c.toNat_lt; omega) (by omega), nat_mask7 _⟩
      have hcm2 : (cm : Int) < 128 := by omega
      have Hn := Lib.hid hn
      have hcase : (k = 9 ∧ 1 < c.toNat) ∨ (((k : Int) == 9) = false ∧ ¬ (k = 9 ∧ 1 < c.toNat) ∧ n + cm * 128 ^ k < 18446744073709551616) ∨ ((((k : Int) == 9) = true ∧ ¬ (1 : Int) < (c.toNat : Int)) ∧ ¬ (k = 9 ∧ 1 < c.toNat) ∧ n + cm * 128 ^ k < 18446744073709551616) := by
        by_cases h9 : k = 9
        · by_cases h1 : 1 < c.toNat
          · exact .inl ⟨h9, h1⟩
          · refine .inr (.inr ⟨⟨by simp; omega, by omega⟩, fun e => h1 e.2, ?_⟩)
            rw [pow128_9 h9] at hn ⊢; omega
        · refine .inr (.inl ⟨by simp; omega, fun e => h9 e.1, ?_⟩)
          have hp := pow128_8 (k := k) (by omega)
          have : cm * 128 ^ k ≤ 127 * 128 ^ k := Nat.mul_le_mul_right _ (by omega)
          omega
      rcases hcase with ⟨h9, h1⟩ | hcase
      · rw [if_pos ⟨h9, h1⟩] at hf
        have h9' : ((k : Int) == 9) = true := by simp; omega
        have h1' : (1 : Int) < (c.toNat : Int) := by omega
        have Ht := Lib.hid (takeV_none hf)
        clear hf hn hd hc h9
        go_wp2
        go_ret2
        exact ⟨ret_two Ht.out (by omega), rfl⟩
      · have hor : ∃ n' : Nat, bits .or .u64 (n : Int) (IntKind.u64.wrap ((cm : Int) * 2 ^ (7 * k))) = (n' : Int) ∧ bits .or .u64 (n : Int) ((cm : Int) * 2 ^ (7 * k)) = (n' : Int) ∧ n' = n + cm * 128 ^ k ∧ n' < 18446744073709551616 := by
          rcases hcase with ⟨_, _, hb⟩ | ⟨_, _, hb⟩ <;> exact ⟨_, or_shift n cm k hn hb, or_shift' n cm k hn hb, rfl, hb⟩
        obtain ⟨n', hor, hor2, hn', hb'⟩ := hor
        have hno : ¬ (k = 9 ∧ 1 < c.toNat) := by rcases hcase with ⟨_, h, _⟩ | ⟨_, h, _⟩ <;> exact h
        rw [if_neg hno] at hf
        have Hb' := Lib.hid hb'
        have Hzb := Lib.hid (zag_bits n' hb')
        have hcase' : ((k : Int) == 9) = false ∨ (((k : Int) == 9) = true ∧ ¬ (1 : Int) < (c.toNat : Int)) := by
          rcases hcase with ⟨h, _⟩ | ⟨h, _⟩
          · exact .inl h
          · exact .inr h
        clear hcase hno hb'
        by_cases h128 : c.toNat < 128
        · have h128' : ((c.toNat : Int)) < 128 := by omega
          rw [if_pos h128] at hf
          have hcc : cm = c.toNat := by omega
          by_cases hc0 : c.toNat = 0 ∧ 0 < k
          · rw [if_pos hc0] at hf
            have Ht := Lib.hid (takeV_none hf)
            have hz : ((c.toNat : Int) == 0) = true := by simp; omega
            have hk0 : (0 : Int) < (k : Int) := by omega
            clear hf hn hd hc hn' hcm3 hc0 hcc
            rcases hcase' with h9 | ⟨h9, h1⟩
            all_goals
              go_wp2
              go_ret2
              exact ⟨ret_two Ht.out (by omega), rfl⟩
          · rw [if_neg hc0] at hf
            have Ht := Lib.hid (takeV_some (hf.trans (by rw [← hcc, ← hn'])))
            by_cases hz : c.toNat = 0
            · have hz' : ((c.toNat : Int) == 0) = true := by simp; omega
              have hk0 : ¬ (0 : Int) < (k : Int) := by omega
              clear hf hn hd hc hn' hcm3 hc0 hcc hz
              rcases hcase' with h9 | ⟨h9, h1⟩
              all_goals
                go_wp2
                go_ret2
                exact ⟨by rw [Hzb.out]; exact ret_two Ht.out (by omega), rfl⟩
            · have hz' : ((c.toNat : Int) == 0) = false := by simp; omega
              clear hf hn hd hc hn' hcm3 hc0 hcc hz
              rcases hcase' with h9 | ⟨h9, h1⟩
              all_goals
                go_wp2
                go_ret2
                exact ⟨by rw [Hzb.out]; exact ret_two Ht.out (by omega), rfl⟩
        · have h128' : ¬ ((c.toNat : Int)) < 128 := by omega
          rw [if_neg h128] at hf
          have Hf : Hid (takeF 0 0 l = takeF (k + 1) n' (l.drop (k + 1))) := Lib.hid (by rw [hf, hn', hcm3])
          have Hn' : Hid (n' < 128 ^ (k + 1)) := Lib.hid (by
            rw [hn', Nat.pow_succ]
            have : cm * 128 ^ k ≤ 127 * 128 ^ k := Nat.mul_le_mul_right _ (by omega)
            omega)
          clear hf hn hd hc hn' hcm3
          rcases hcase' with h9 | ⟨h9, h1⟩
          all_goals
            go_wp2
            go_round
            case rel => exact ⟨k + 1, n', by omega, by go_num, rfl, Hn'.out, Hf.out⟩
            case measure => simp [intOf]; omega
    · obtain rfl : k = m := by omega
      have hnone : takeF 0 0 l = none := by
        rw [hf]
        rcases Hm3.out with e | e
        · rw [e]
          cases h : l.drop 10 with
          | nil => rfl
          | cons c r => simp [takeF]
        · rw [e, List.drop_length]; rfl
      have Ht := Lib.hid (takeV_none hnone)
      clear hf hn hnone
      go_wp2
      go_ret2
      exact ⟨ret_two Ht.out (by omega), rfl⟩
end Go.Proofs.Ytbaphjnglkocpaa
