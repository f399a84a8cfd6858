import Derived.WalkKit
import Derived.Test.YtnficiohnhodiaaDev
import Derived.Laws.Bits128
import Derived.Laws.BitsAllLaws
import Derived.Laws.ShiftsVarLaws
import Derived.Deep.RegionHeld3
import Derived.Laws.OwnMore
import Derived.Lib.AppendZeros
import Derived.Test.YtnficiohnhodiaaShelf
import Derived.Lib.Strings
/-
  Numbers, rows and boxes as bytes: the plain law.
-/
namespace Go.Proofs.Ytnficiohnhodiaa
/-- a number with its sign lowest -/
def zig (n : Int) : Nat := if 0 ≤ n then (2 * n).toNat else (-2 * n - 1).toNat
def zag (u : Nat) : Int := if u % 2 = 0 then ((u / 2 : Nat) : Int) else -((u / 2 : Nat) : Int) - 1
theorem zag_zig (n : Int) : zag (zig n) = n := by
  unfold zig zag; split <;> split <;> omega
theorem zig_zag (u : Nat) : zig (zag u) = u := by
  unfold zig zag; split <;> split <;> omega
theorem zig_lt {n : Int} (h1 : -9223372036854775808 ≤ n) (h2 : n ≤ 9223372036854775807) : zig n < 18446744073709551616 := by
  unfold zig; split <;> omega
theorem zag_rng {u : Nat} (h : u < 18446744073709551616) : -9223372036854775808 ≤ zag u ∧ zag u ≤ 9223372036854775807 := by
  unfold zag; split <;> omega
def vint : Nat → Nat → List UInt8
  | 0, _ => []
  | f + 1, u => if u < 128 then [UInt8.ofNat u] else UInt8.ofNat (u % 128 + 128) :: vint f (u / 128)
def num (n : Int) : List UInt8 := vint 10 (zig n)
def nums (l : List Int) : List UInt8 := (l.map num).flatten
def rowB (r : List UInt8) : List UInt8 := num r.length ++ r
theorem nums_append (a b : List Int) : nums (a ++ b) = nums a ++ nums b := by unfold nums; simp
theorem nums_take {l : List Int} {k : Nat} {x : Int} (h : l[k]? = some x) : nums (l.take (k + 1)) = nums (l.take k) ++ num x := by
  rw [List.take_add_one, h, nums_append]; simp [nums]
theorem vint_len (f u : Nat) : (vint f u).length ≤ f := by
  induction f generalizing u with
  | zero => simp [vint]
  | succ f ih =>
    unfold vint; split
    · simp
    · have := ih (u / 128); simp; omega
theorem num_len (n : Int) : (num n).length ≤ 10 := vint_len 10 _
theorem vint_pos (f u : Nat) : 0 < (vint (f + 1) u).length := by unfold vint; split <;> simp
theorem num_pos (n : Int) : 0 < (num n).length := vint_pos 9 _
theorem nums_len (l : List Int) : (nums l).length ≤ 10 * l.length := by
  induction l with
  | nil => simp [nums]
  | cons x l ih =>
    have h := num_len x
    have e : nums (x :: l) = num x ++ nums l := rfl
    rw [e, List.length_append, List.length_cons]; omega
/-- the number that bytes begin with, from a place on -/
def takeF (i u : Nat) : List UInt8 → Option (Nat × Nat)
  | [] => none
  | c :: l => if 10 ≤ i then none else if i = 9 ∧ 1 < c.toNat then none else
    if c.toNat < 128 then (if c.toNat = 0 ∧ 0 < i then none else some (u + c.toNat * 128 ^ i, i + 1)) else takeF (i + 1) (u + c.toNat % 128 * 128 ^ i) l
def takeN (b : List UInt8) : Option (Int × Nat) := (takeF 0 0 b).map fun p => (zag p.1, p.2)
theorem ofNat_toNat {n : Nat} (h : n < 256) : (UInt8.ofNat n).toNat = n := by
  rw [UInt8.toNat_ofNat']; exact Nat.mod_eq_of_lt h
theorem takeF_vint (f : Nat) : ∀ (i u v : Nat) (rest : List UInt8), i + f ≤ 10 → 0 < f → (0 < i → 0 < u) → u < 128 ^ f → (u * 128 ^ i < 18446744073709551616) → takeF i v (vint f u ++ rest) = some (v + u * 128 ^ i, i + (vint f u).length) := by
  induction f with
  | zero => intro i u v rest _ h; omega
  | succ f ih =>
    intro i u v rest hi _ h0 hu hb
    unfold vint
    have h9 : i = 9 → u ≤ 1 := by
      intro e; subst e
      have : (128 : Nat) ^ 9 = 9223372036854775808 := by decide
      rw [this] at hb; omega
    by_cases h : u < 128
    · rw [if_pos h]
      simp only [List.cons_append, List.nil_append, takeF, List.length_cons, List.length_nil]
      rw [if_neg (by omega), ofNat_toNat (by omega), if_neg (by rintro ⟨a, b⟩; have := h9 a; omega), if_pos h, if_neg (by rintro ⟨a, b⟩; have := h0 b; omega)]
    · rw [if_neg h]
      simp only [List.cons_append, takeF, List.length_cons]
      have hn9 : i ≠ 9 := fun e => by have := h9 e; omega
      rw [if_neg (by omega), ofNat_toNat (by omega), if_neg (by rintro ⟨a, b⟩; exact hn9 a), if_neg (by omega)]
      have hm : (u % 128 + 128) % 128 = u % 128 := by omega
      have hp : u / 128 * 128 ^ (i + 1) + u % 128 * 128 ^ i = u * 128 ^ i := by
        rw [Nat.pow_succ, Nat.mul_comm (128 ^ i) 128, ← Nat.mul_assoc, ← Nat.add_mul]
        congr 1; omega
      rw [hm, ih (i + 1) (u / 128) _ rest (by omega) ?_ (by omega) ?_ ?_]
      · congr 1
        refine Prod.ext ?_ ?_ <;> simp only []
        · omega
        · omega
      · rcases f with _ | f
        · rw [Nat.zero_add, Nat.pow_one] at hu; omega
        · omega
      · rw [Nat.pow_succ] at hu; omega
      · omega
theorem takeN_num (n : Int) (rest : List UInt8) (h1 : -9223372036854775808 ≤ n) (h2 : n ≤ 9223372036854775807) : takeN (num n ++ rest) = some (n, (num n).length) := by
  unfold takeN num
  have hz := zig_lt h1 h2
  rw [takeF_vint 10 0 (zig n) 0 rest (by omega) (by omega) (by omega) (by have : (128 : Nat) ^ 10 = 1180591620717411303424 := by decide
                                                                          omega) (by omega)]
  simp [zag_zig]
theorem takeF_len (l : List UInt8) : ∀ (i u : Nat) (p : Nat × Nat), takeF i u l = some p → i < p.2 ∧ p.2 ≤ i + l.length ∧ p.2 ≤ 10 := by
  induction l with
  | nil => intro i u p h; cases h
  | cons c l ih =>
    intro i u p h
    simp only [takeF] at h
    split at h
    · cases h
    · split at h
      · cases h
      · split at h
        · split at h
          · cases h
          · cases h; simp; omega
        · have := ih _ _ _ h; simp; omega
theorem takeN_len {l : List UInt8} {n : Int} {k : Nat} (h : takeN l = some (n, k)) : 0 < k ∧ k ≤ l.length ∧ k ≤ 10 := by
  unfold takeN at h
  obtain ⟨p, hp, e⟩ := Option.map_eq_some_iff.1 h
  cases e
  have := takeF_len l _ _ _ hp; omega
theorem takeF_rng (l : List UInt8) : ∀ (i u : Nat) (p : Nat × Nat), i ≤ 10 → u < 128 ^ i → takeF i u l = some p → p.1 < 18446744073709551616 := by
  induction l with
  | nil => intro i u p _ _ h; cases h
  | cons c l ih =>
    intro i u p hi hu h
    simp only [takeF] at h
    split at h
    · cases h
    · split at h
      · cases h
      · rename_i h10 h9
        split at h
        · rename_i hc
          split at h
          · cases h
          · cases h
            simp only []
            have hle : c.toNat * 128 ^ i ≤ 127 * 128 ^ i := Nat.mul_le_mul_right _ (by omega)
            by_cases e : i = 9
            · subst e
              have : c.toNat ≤ 1 := by omega
              have e9 : (128 : Nat) ^ 9 = 9223372036854775808 := by decide
              rw [e9] at hu ⊢; omega
            · have h8 : (128 : Nat) ^ i ≤ 128 ^ 8 := Nat.pow_le_pow_right (by omega) (by omega)
              have e8 : (128 : Nat) ^ 8 = 72057594037927936 := by decide
              omega
        · refine ih (i + 1) _ p (by omega) ?_ h
          rw [Nat.pow_succ]
          have : c.toNat % 128 * 128 ^ i ≤ 127 * 128 ^ i := Nat.mul_le_mul_right _ (by omega)
          omega
theorem takeN_rng {l : List UInt8} {n : Int} {k : Nat} (h : takeN l = some (n, k)) : -9223372036854775808 ≤ n ∧ n ≤ 9223372036854775807 := by
  unfold takeN at h
  obtain ⟨p, hp, e⟩ := Option.map_eq_some_iff.1 h
  cases e
  exact zag_rng (takeF_rng l 0 0 p (by omega) (by omega) hp)
/-! CRC-32 -/
def crcBit (r : BitVec 32) : BitVec 32 := if r &&& 1#32 = 1#32 then (r >>> 1) ^^^ 0xedb88320#32 else r >>> 1
def crcBits : Nat → BitVec 32 → BitVec 32
  | 0, r => r
  | n + 1, r => crcBits n (crcBit r)
theorem crcBits_succ (n : Nat) (r : BitVec 32) : crcBits (n + 1) r = crcBit (crcBits n r) := by
  induction n generalizing r with
  | zero => rfl
  | succ n ih => rw [crcBits, ih]; rfl
def crcByte (r : BitVec 32) (b : UInt8) : BitVec 32 := crcBits 8 (r ^^^ BitVec.ofNat 32 b.toNat)
def crcReg (l : List UInt8) : BitVec 32 := l.foldl crcByte 0xffffffff#32
def crc (l : List UInt8) : BitVec 32 := ~~~ crcReg l
def crcBytes (c : BitVec 32) : List UInt8 := [UInt8.ofNat (c.toNat / 16777216), UInt8.ofNat (c.toNat / 65536), UInt8.ofNat (c.toNat / 256), UInt8.ofNat c.toNat]
/-! boxes -/
def boxBody (size : Nat) (l : List UInt8) : List UInt8 := UInt8.ofNat (l.length / 256) :: UInt8.ofNat l.length :: (l ++ List.replicate (size - 6 - l.length) 0)
def boxOf (size : Nat) (l : List UInt8) : List UInt8 := crcBytes (crc (boxBody size l)) ++ boxBody size l
def boxErr (size : Int) (l : List UInt8) : Int := if size < 6 ∨ 65536 < size then 1 else if size - 6 < l.length ∨ 65535 < l.length then 2 else 0
theorem boxBody_len {size : Nat} {l : List UInt8} (h : l.length + 6 ≤ size) : (boxBody size l).length = size - 4 := by unfold boxBody; simp; omega
theorem boxOf_len {size : Nat} {l : List UInt8} (h : l.length + 6 ≤ size) : (boxOf size l).length = size := by
  unfold boxOf; rw [List.length_append, boxBody_len h]; simp [crcBytes]; omega
def boxN (b : List UInt8) : Nat := (b.getD 4 0).toNat * 256 + (b.getD 5 0).toNat
def unbox (b : List UInt8) : Option (List UInt8) :=
  if b.length < 6 ∨ 65536 < b.length then none else if b.length - 6 < boxN b then none else
    if boxOf b.length ((b.drop 6).take (boxN b)) = b then some ((b.drop 6).take (boxN b)) else none
theorem boxN_of {size : Nat} {l : List UInt8} (h : l.length + 6 ≤ size) (hs : size ≤ 65536) : boxN (boxOf size l) = l.length := by
  unfold boxN boxOf boxBody crcBytes
  simp only [List.cons_append, List.nil_append, List.getD_cons_succ, List.getD_cons_zero]
  rw [ofNat_toNat (by omega), UInt8.toNat_ofNat']; omega
theorem box_in {size : Nat} {l : List UInt8} : ((boxOf size l).drop 6).take l.length = l := by
  unfold boxOf boxBody crcBytes
  simp
theorem unbox_box {size : Nat} {l : List UInt8} (h : l.length + 6 ≤ size) (hs : size ≤ 65536) : unbox (boxOf size l) = some l := by
  have hl := boxOf_len h
  unfold unbox
  rw [hl, boxN_of h hs, if_neg (by omega), if_neg (by omega), box_in, if_pos rfl]
theorem unbox_some {b l : List UInt8} (h : unbox b = some l) : l.length + 6 ≤ b.length ∧ b.length ≤ 65536 ∧ boxOf b.length l = b := by
  unfold unbox at h
  split at h
  · cases h
  · split at h
    · cases h
    · split at h
      · rename_i h1 h2 h3
        cases h
        refine ⟨?_, by omega, h3⟩
        rw [List.length_take, List.length_drop]; omega
      · cases h
end Go.Proofs.Ytnficiohnhodiaa


/-
  Numbers as bytes: turned, put, Put, PutRow.
-/
namespace Go.Proofs.Ytnficiohnhodiaa
open Go.RowKit
theorem xor_ones (a : Nat) (h : a < 18446744073709551616) : a ^^^ 18446744073709551615 = 18446744073709551615 - a := by
  have h1 := BitVec.toNat_not (x := BitVec.ofNat 64 a)
  rw [BitVec.not_def, BitVec.toNat_xor, BitVec.toNat_allOnes, BitVec.toNat_ofNat, Nat.mod_eq_of_lt h] at h1
  rw [Nat.xor_comm]
  exact h1
theorem turned_eq (n : Int) (h1 : -9223372036854775808 ≤ n) (h2 : n ≤ 9223372036854775807) :
    bits .xor .u64 (IntKind.u64.wrap (IntKind.u64.wrap n * 2)) (IntKind.u64.wrap (n / 9223372036854775808)) = (zig n : Nat) := by
  rw [IntKind.wrap_u64, IntKind.wrap_u64, IntKind.wrap_u64]
  unfold zig
  by_cases h : 0 ≤ n
  · rw [if_pos h, show n % 18446744073709551616 * 2 % 18446744073709551616 = (((2 * n).toNat : Nat) : Int) from by omega, show n / 9223372036854775808 % 18446744073709551616 = ((0 : Nat) : Int) from by omega,
      u64_xor_nat _ _ (by omega) (by omega), Nat.xor_zero]
  · rw [if_neg h, show n % 18446744073709551616 * 2 % 18446744073709551616 = (((2 * n + 18446744073709551616).toNat : Nat) : Int) from by omega, show n / 9223372036854775808 % 18446744073709551616 = ((18446744073709551615 : Nat) : Int) from by omega,
      u64_xor_nat _ _ (by omega) (by omega), xor_ones _ (by omega)]
    omega
theorem turned_any (n : Int) (w : World) (h1 : -9223372036854775808 ≤ n) (h2 : n ≤ 9223372036854775807) :
    Calls Try.prog 128 #[.int .i64 n] w fun e w' => e = .returned (.int .u64 (zig n : Nat)) ∧ w = w' := by
  have He := Lib.hid (turned_eq n h1 h2)
  go_enter Try.func128, Try.ntmps128
  go_wp2
  go_ret
  exact ⟨by rw [← He.out]; rfl, rfl⟩
/-- slices.Clone of bytes, of whatever memory -/
theorem clone_nil (w : World) (cap : Nat) : Calls Try.prog 59 #[.slice none 0 cap] w fun e w' => e = .returned (.slice none 0 0) ∧ w = w' := by
  have hq : (binOp .eql 52 (.slice none 0 cap) (.slice none 0 0)).run Try.prog w = .ok (.bool true) w := by kernel_rfl
  go_enter Try.func59, Try.ntmps59
  go_wp2
  go_ret
  exact ⟨rfl, rfl⟩
theorem clone_any {w : World} {v : Value} {l : List UInt8} (h : Bytes w v l) (hl : l.length ≤ 1000000000000) :
    Calls Try.prog 59 #[v] w fun e w' => ∃ v', e = .returned v' ∧ SubRow w' w.heap.size v' (bytesV l) ∧ Below w.heap.size w w' := by
  obtain ⟨q, cap, rfl, h1, h2, h3⟩ := h
  cases q with
  | none =>
    have : l = [] := by
      cases l with
      | nil => rfl
      | cons b l => obtain ⟨a, e, _⟩ := h3 0 b rfl; cases e
    subst this
    exact (clone_nil w cap).mono fun _ _ ⟨a, b⟩ => ⟨_, a, .inl ⟨rfl, rfl⟩, b ▸ Below.refl _ _⟩
  | some a => exact clone_bytes w a cap l hl (fun j b hb => by obtain ⟨a', e, hc⟩ := h3 j b hb; cases e; exact hc)
/-- the same, the result's shape told -/
theorem clone_form {w : World} {v : Value} {l : List UInt8} (h : Bytes w v l) (hl : l.length ≤ 1000000000000) :
    Calls Try.prog 59 #[v] w fun e w' => ∃ q n c, e = .returned (.slice q n c) ∧ SubRow w' w.heap.size (.slice q n c) (bytesV l) ∧ Below w.heap.size w w' :=
  (clone_any h hl).mono fun _ _ ⟨v', h1, h2, h3⟩ => by
    obtain ⟨q, c, rfl, _⟩ := h2.form
    exact ⟨q, _, c, h1, h2, h3⟩
theorem clone_len {w : World} {v : Value} {l : List UInt8} (h : Bytes w v l) (hl : l.length ≤ 1000000000000) :
    Calls Try.prog 59 #[v] w fun e w' => ∃ q c, e = .returned (.slice q l.length c) ∧ SubRow w' w.heap.size (.slice q l.length c) (bytesV l) ∧ Below w.heap.size w w' :=
  (clone_any h hl).mono fun _ _ ⟨v', h1, h2, h3⟩ => by
    obtain ⟨q, c, rfl, _⟩ := h2.form
    rw [bytesV_len] at h1 h2
    exact ⟨q, c, h1, h2, h3⟩
/-- a slice of one cell, as it is built ahead of an append -/
theorem src_one {P : Program} {w : World} {t e : TypeId} (ht : P.underlying t = some (.slice e)) (x : Value) (hx : x.oneCell' = true) (T : TypeId) : Src P 1 t (.slice (some ⟨w.heap.size, 0, none⟩) 1 1) [x].length [x] (w.alloc (.cells #[x] T)) := by
  refine Src.ofSlice _ ht ⟨w.heap.size, 0, none⟩ 1 1 _ (by simp) (fun j u hu => ?_) (fun u hu => by simp at hu; subst hu; exact hx)
  cases j with
  | zero => simp at hu; subst hu; exact cell_in (heap_alloc_new w _) rfl
  | succ j => simp at hu
theorem or128 : ∀ x : Fin 256, (x.val ||| 128) = x.val % 128 + 128 := by decide +kernel
theorem low_hi (m : Nat) : bits .or .u8 (IntKind.u8.wrap (m : Int)) 128 = ((m % 128 + 128 : Nat) : Int) := by
  rw [IntKind.wrap_u8, show (m : Int) % 256 = ((m % 256 : Nat) : Int) from by omega]
  rw [show (128 : Int) = ((128 : Nat) : Int) from rfl, u8_or_nat _ _ (by omega) (by omega), or128 ⟨m % 256, by omega⟩]
  simp only []
  omega
theorem byteV_of {n : Nat} (h : n < 256) : byteV (UInt8.ofNat n) = .int .u8 (n : Int) := by unfold byteV; rw [ofNat_toNat h]
theorem vint_lo {f u : Nat} (h : u < 128) : vint (f + 1) u = [UInt8.ofNat u] := by rw [vint, if_pos h]
theorem vint_hi {f u : Nat} (h : ¬ u < 128) : vint (f + 1) u = UInt8.ofNat (u % 128 + 128) :: vint f (u / 128) := by rw [vint, if_neg h]
def int64 (n : Int) : Prop := -9223372036854775808 ≤ n ∧ n ≤ 9223372036854775807
set_option maxRecDepth 100000 in
set_option maxHeartbeats 4000000 in
theorem put_own {w0 w : World} {v ns : Value} {l : List UInt8} {xs : List Int} (hb : Below w0.heap.size w0 w) (hv : SubRow w w0.heap.size v (bytesV l)) (hn : Ints w0 ns xs) (hx : ∀ x ∈ xs, int64 x) (hl : l.length ≤ 1000000000000) (hk : xs.length ≤ 1000000) :
    Calls Try.prog 118 #[v, ns] w fun e w' => ∃ v', e = .returned v' ∧ SubRow w' w0.heap.size v' (bytesV (l ++ nums xs)) ∧ Below w0.heap.size w0 w' := by
  obtain ⟨i0, hi, hz0, hz1, hz2⟩ := info_parts info8
  have Hn := Lib.hid hn
  obtain ⟨q, cap, rfl, hc1, hc2, _⟩ := hn
  have Hx := Lib.hid hx
  have Hl := Lib.hid hl
  have Hk := Lib.hid hk
  clear hx hl hk
  go_enter Try.func118, Try.ntmps118
  go_wp2
  go_loopw [0, 10] (fun o i wr => ∃ k : Nat, k ≤ xs.length ∧ i = .int .i64 k ∧ SubRow wr w0.heap.size o (bytesV (l ++ nums (xs.take k))) ∧ Below w0.heap.size w0 wr) (fun _ i _ => xs.length - (intOf i).toNat)
  case atStart => exact ⟨0, Nat.zero_le _, rfl, by simpa [nums] using hv, hb⟩
  case round =>
    clear hv hb
    obtain ⟨k, hk, rfl, hv, hb⟩ := hrel
    by_cases hlt : k < xs.length
    · obtain ⟨x, hx⟩ : ∃ x, xs[k]? = some x := ⟨_, List.getElem?_eq_getElem hlt⟩
      obtain ⟨q', cap', e, _, _, h3⟩ := Hn.out.below hb
      obtain ⟨nb, no, hq, hcell⟩ := h3 k x hx
      simp only [Value.slice.injEq] at e
      obtain rfl : q = some ⟨nb, no, none⟩ := e.1.trans hq
      have hx64 := Hx.out x (List.mem_of_getElem? hx)
      have Ht := Lib.hid (turned_any x wr hx64.1 hx64.2)
      have Hz := Lib.hid (zig_lt hx64.1 hx64.2)
      have Hnt := Lib.hid (nums_take hx)
      have hv0 := hv
      have hkb : (k : Int) ≤ 1000000 := by have := Hk.out; omega
      clear e hq h3 hx hx64
      go_wp2_with (go_at_call 128; (with_reducible refine Ht.out.mono ?_); rintro _ _ ⟨rfl, rfl⟩)
      clear hcell
      have hst : ∃ (f m : Nat) (done : List UInt8), 0 < f ∧ f ≤ 10 ∧ m < 128 ^ f ∧ Value.int .u64 (zig x : Nat) = .int .u64 m ∧ m < 18446744073709551616 ∧ l ++ nums (xs.take (k + 1)) = done ++ vint f m ∧ SubRow wr w0.heap.size u0 (bytesV done) ∧ Below w0.heap.size w0 wr :=
        ⟨10, zig x, l ++ nums (xs.take k), by omega, by omega, Nat.lt_trans Hz.out (by decide), rfl, Hz.out, by rw [Hnt.out, List.append_assoc]; rfl, hv, hb⟩
      clear hv hb hv0
      go_loopw [0, 7] (fun o u wr => ∃ (f m : Nat) (done : List UInt8), 0 < f ∧ f ≤ 10 ∧ m < 128 ^ f ∧ u = .int .u64 m ∧ m < 18446744073709551616 ∧ l ++ nums (xs.take (k + 1)) = done ++ vint f m ∧ SubRow wr w0.heap.size o (bytesV done) ∧ Below w0.heap.size w0 wr) (fun _ u _ => (intOf u).toNat)
      case atStart => exact hst
      case round =>
        clear hst
        obtain ⟨f, m, done, hf, hf10, hm, rfl, hm64, heq, hv, hb⟩ := hrel
        have hlen : done.length ≤ 1000010000000 := by
          have h1 := congrArg List.length heq
          rw [List.length_append, List.length_append] at h1
          have h2 := nums_len (xs.take (k + 1))
          rw [List.length_take] at h2
          have := Hl.out; have := Hk.out
          omega
        have Heq := Lib.hid heq
        have Hlen : Hid ((bytesV done).length ≤ 1000010000000) := Lib.hid (by rw [bytesV_len]; exact hlen)
        have hbs := hb.size
        have Hm := Lib.hid hm
        clear heq hlen hm
        by_cases h128 : m < 128
        · obtain ⟨g, rfl⟩ : ∃ g, f = g + 1 := ⟨f - 1, by omega⟩
          have Hvi : Hid (vint (g + 1) m = [UInt8.ofNat m]) := Lib.hid (vint_lo h128)
          have Hbv : Hid (bytesV done ++ [.int .u8 (m : Int)] = bytesV (done ++ [UInt8.ofNat m])) := Lib.hid (by unfold bytesV; rw [List.map_append, List.map_cons, byteV_of (by omega)]; rfl)
          go_wp2_with (at_builtin; refine wpList_append_sub _ rfl _ _ 52 rfl 5 i0 (.int .u8 0) 1 Try.underlying52 hi hz0 hz1 hz2 rfl w0.heap.size _ (bytesV done) rfl (hv.below ((Below.refl _ _).alloc (Nat.le_refl _) _)) _ rfl [.int .u8 (m : Int)] (src_one Try.underlying52 _ rfl _) (by have := Hlen.out; simp; unfold maxLen; omega) (by have := Hlen.out; simp; omega) (by simp; omega) ?_; intro v' w7 h7 hk7 hn7)
          have hlt7 := hv.lt
          have hb7 : Below w0.heap.size w0 w7 := (hb.alloc hbs _).trans (hk7.below (by simp; omega) (fun j hj e => by have := (hlt7 j e).1; omega))
          rw [Hbv.out, ← Hvi.out, ← Heq.out] at h7
          clear hk7 hn7 hlt7 hv hb
          go_roundw
          case rel => exact ⟨k + 1, by omega, by go_num, h7, hb7⟩
          case measure => simp [intOf]; omega
        · obtain ⟨g, rfl⟩ : ∃ g, f = g + 1 := ⟨f - 1, by omega⟩
          have Hvi : Hid (vint (g + 1) m = UInt8.ofNat (m % 128 + 128) :: vint g (m / 128)) := Lib.hid (vint_hi h128)
          have Hbv : Hid (bytesV done ++ [.int .u8 (bits .or .u8 (IntKind.u8.wrap (m : Int)) 128)] = bytesV (done ++ [UInt8.ofNat (m % 128 + 128)])) := Lib.hid (by unfold bytesV; rw [List.map_append, List.map_cons, byteV_of (by omega), low_hi]; rfl)
          go_wp2_with (at_builtin; refine wpList_append_sub _ rfl _ _ 52 rfl 5 i0 (.int .u8 0) 1 Try.underlying52 hi hz0 hz1 hz2 rfl w0.heap.size _ (bytesV done) rfl (hv.below ((Below.refl _ _).alloc (Nat.le_refl _) _)) _ rfl [.int .u8 (bits .or .u8 (IntKind.u8.wrap (m : Int)) 128)] (src_one Try.underlying52 _ rfl _) (by have := Hlen.out; simp; unfold maxLen; omega) (by have := Hlen.out; simp; omega) (by simp; omega) ?_; intro v' w7 h7 hk7 hn7)
          have hlt7 := hv.lt
          have hb7 : Below w0.heap.size w0 w7 := (hb.alloc hbs _).trans (hk7.below (by simp; omega) (fun j hj e => by have := (hlt7 j e).1; omega))
          rw [Hbv.out] at h7
          clear hk7 hn7 hlt7 hv hb
          go_wp2
          go_roundw
          case rel =>
            refine ⟨g, m / 128, _, ?_, by omega, ?_, by go_num, by omega, ?_, h7, hb7⟩
            · rcases g with _ | g
              · have := Hm.out; rw [Nat.zero_add, Nat.pow_one] at this; omega
              · omega
            · have := Hm.out; rw [Nat.pow_succ] at this; omega
            · rw [Heq.out, Hvi.out]; simp
          case measure => simp [intOf]; omega
    · obtain rfl : k = xs.length := by omega
      rw [List.take_length] at hv
      go_wp2
      go_ret
      exact ⟨_, rfl, hv, hb⟩
theorem ints_one {w : World} (n : Int) (T : TypeId) : Ints (w.alloc (.cells #[.int .i64 n] T)) (.slice (some ⟨w.heap.size, 0, none⟩) 1 1) [n] :=
  ⟨_, 1, rfl, Nat.le_refl _, by unfold maxLen; omega, fun j x hx => by
    cases j with
    | zero => simp at hx; subst hx; exact ⟨_, 0, rfl, cell_in (heap_alloc_new w _) rfl⟩
    | succ j => simp at hx⟩
theorem ints_three {w : World} (a b c : Int) (T : TypeId) : Ints (w.alloc (.cells #[.int .i64 a, .int .i64 b, .int .i64 c] T)) (.slice (some ⟨w.heap.size, 0, none⟩) 3 3) [a, b, c] :=
  ⟨_, 3, rfl, Nat.le_refl _, by unfold maxLen; omega, fun j x hx => by
    match j with
    | 0 => simp at hx; subst hx; exact ⟨_, 0, rfl, cell_in (heap_alloc_new w _) rfl⟩
    | 1 => simp at hx; subst hx; exact ⟨_, 0, rfl, cell_in (heap_alloc_new w _) rfl⟩
    | 2 => simp at hx; subst hx; exact ⟨_, 0, rfl, cell_in (heap_alloc_new w _) rfl⟩
    | j + 3 => simp at hx⟩
theorem Bytes.nil {w : World} : Bytes w (.slice none 0 0) [] := ⟨none, 0, rfl, Nat.le_refl _, Nat.zero_le _, fun j b hb => by simp at hb⟩
theorem Bytes.alloc {w : World} {v : Value} {l : List UInt8} (h : Bytes w v l) (o : Obj) : Bytes (w.alloc o) v l := h.below ((Below.refl _ _).alloc (Nat.le_refl _) _)
theorem put_any {w : World} {out ns : Value} {l : List UInt8} {xs : List Int} (ho : Bytes w out l) (hn : Ints w ns xs) (hx : ∀ x ∈ xs, int64 x) (hl : l.length ≤ 1000000000000) (hk : xs.length ≤ 1000000) :
    Calls Try.prog 97 #[out, ns] w fun e w' => ∃ v', e = .returned v' ∧ SubRow w' w.heap.size v' (bytesV (l ++ nums xs)) ∧ Below w.heap.size w w' := by
  have hc := clone_any ho hl
  have H : Hid ((∀ x ∈ xs, int64 x) ∧ l.length ≤ 1000000000000 ∧ xs.length ≤ 1000000 ∧ Ints w ns xs) := Lib.hid ⟨hx, hl, hk, hn⟩
  clear ho hn hx hl hk
  go_enter Try.func97, Try.ntmps97
  go_wp2_with (first
    | (go_at_call 59; (with_reducible refine hc.mono ?_); rintro _ w1 ⟨v1, rfl, s1, b1⟩; have hp := put_own b1 s1 H.out.2.2.2 H.out.1 H.out.2.1 H.out.2.2.1; clear hc)
    | (go_at_call 118; (with_reducible refine hp.mono ?_); rintro _ w2 ⟨v2, rfl, s2, b2⟩; clear hp))
  go_ret
  exact ⟨_, rfl, s2, b2⟩
theorem putRow_any {w : World} {out row : Value} {l r : List UInt8} (ho : Bytes w out l) (hr : Bytes w row r) (hl : l.length ≤ 1000000000) (hrl : r.length ≤ 1000000000) :
    Calls Try.prog 96 #[out, row] w fun e w' => ∃ v', e = .returned v' ∧ SubRow w' w.heap.size v' (bytesV (l ++ rowB r)) ∧ Below w.heap.size w w' := by
  obtain ⟨i0, hi, hz0, hz1, hz2⟩ := info_parts info8
  have Hr := Lib.hid hr
  obtain ⟨q, cap, rfl, hc1, hc2, _⟩ := hr
  have hp := put_any (ho.alloc (.cells #[.int .i64 (r.length : Int)] 3)) (ints_one (w := w) (r.length : Int) 3) (fun x hx => by simp at hx; subst hx; unfold int64; omega) (by omega) (by simp)
  have e1 : nums [(r.length : Int)] = num r.length := by simp [nums]
  rw [e1] at hp
  have Hl : Hid (l.length ≤ 1000000000 ∧ r.length ≤ 1000000000 ∧ (bytesV (l ++ num (r.length : Int))).length ≤ 1000000010 ∧ (bytesV r).length = r.length) := Lib.hid ⟨hl, hrl, by rw [bytesV_len, List.length_append]; have := num_len (r.length : Int); omega, bytesV_len r⟩
  clear ho hl hrl e1
  go_enter Try.func96, Try.ntmps96
  go_wp2_with (first
    | (go_at_call 97; (with_reducible refine hp.mono ?_); rintro _ w1 ⟨v1, rfl, s1, b1⟩; clear hp; have hb1 : Below w.heap.size w w1 := ((Below.refl _ w).alloc (Nat.le_refl _) _).trans (b1.mono (by simp)); have hs1 := s1.weaken (B' := w.heap.size) (by simp); have hbs := hb1.size; have hsrc := (Hr.out.below hb1).src; clear s1 b1)
    | (at_builtin; refine wpList_append_sub _ rfl _ _ 52 rfl 5 i0 (.int .u8 0) 1 Try.underlying52 hi hz0 hz1 hz2 rfl w.heap.size _ _ rfl hs1 _ rfl _ hsrc (by have := Hl.out; unfold maxLen; omega) (by have := Hl.out; omega) hbs ?_; intro v' w7 h7 hk7 hn7))
  go_ret
  have hlt := hs1.lt
  have hb7 : Below w.heap.size w w7 := hb1.trans (hk7.below hbs (fun j hj e => by have := (hlt j e).1; omega))
  refine ⟨_, rfl, ?_, hb7⟩
  rw [show bytesV (l ++ rowB r) = bytesV (l ++ num (r.length : Int)) ++ bytesV r from by unfold bytesV rowB; simp]
  exact h7
end Go.Proofs.Ytnficiohnhodiaa


/-
  Numbers out of bytes: take.
-/
namespace Go.Proofs.Ytnficiohnhodiaa
open Go.RowKit
def takeV (l : List UInt8) : Int × Nat := (takeN l).getD (0, 0)
theorem pow128 (k : Nat) : (2 : Nat) ^ (7 * k) = 128 ^ k := by rw [Nat.pow_mul]
theorem or_shift (n cm k : Nat) (hn : n < 128 ^ k) (hb : n + cm * 128 ^ k < 18446744073709551616) :
    bits .or .u64 (n : Int) (IntKind.u64.wrap ((cm : Int) * 2 ^ (7 * k))) = ((n + cm * 128 ^ k : Nat) : Int) := by
  have e : (cm : Int) * 2 ^ (7 * k) = ((cm * 128 ^ k : Nat) : Int) := by rw [← pow128]; simp
  rw [e, IntKind.wrap_u64, show ((cm * 128 ^ k : Nat) : Int) % 18446744073709551616 = ((cm * 128 ^ k : Nat) : Int) from by omega, u64_or_nat _ _ (by omega) (by omega), Nat.or_comm,
    nat_join (7 * k) _ n (by rw [← pow128]; exact Nat.mul_mod_left _ _) (by rw [pow128]; exact hn), Nat.add_comm]
theorem or_shift' (n cm k : Nat) (hn : n < 128 ^ k) (hb : n + cm * 128 ^ k < 18446744073709551616) :
    bits .or .u64 (n : Int) ((cm : Int) * 2 ^ (7 * k)) = ((n + cm * 128 ^ k : Nat) : Int) := by
  have e : (cm : Int) * 2 ^ (7 * k) = ((cm * 128 ^ k : Nat) : Int) := by rw [← pow128]; simp
  have h := or_shift n cm k hn hb
  rw [e, IntKind.wrap_u64, show ((cm * 128 ^ k : Nat) : Int) % 18446744073709551616 = ((cm * 128 ^ k : Nat) : Int) from by omega] at h
  rw [e, h]
theorem xor_i64 (a : Int) (h1 : 0 ≤ a) (h2 : a < 9223372036854775808) : bits .xor .i64 a 0 = a ∧ bits .xor .i64 a (-1) = -a - 1 := by
  obtain ⟨n, rfl⟩ : ∃ n : Nat, a = n := ⟨a.toNat, by omega⟩
  have hn : (BitVec.ofInt 64 (n : Int)).toNat = n := by rw [BitVec.toNat_ofInt]; omega
  constructor
  · show IntKind.i64.wrap ((BitVec.ofInt 64 (n : Int) ^^^ BitVec.ofInt 64 0).toNat : Nat) = n
    rw [BitVec.toNat_xor, hn, show (BitVec.ofInt 64 0).toNat = 0 from by decide, Nat.xor_zero, IntKind.wrap_i64]; omega
  · show IntKind.i64.wrap ((BitVec.ofInt 64 (n : Int) ^^^ BitVec.ofInt 64 (-1)).toNat : Nat) = _
    rw [BitVec.toNat_xor, hn, show (BitVec.ofInt 64 (-1)).toNat = 18446744073709551615 from by decide, xor_ones _ (by omega), IntKind.wrap_i64]; omega
theorem zag_bits (n : Nat) (h : n < 18446744073709551616) : bits .xor .i64 (wrap64 ((n : Int) / 2)) (wrap64 (-wrap64 (bits .and .u64 (n : Int) 1))) = zag n := by
  have e1 : wrap64 ((n : Int) / 2) = ((n / 2 : Nat) : Int) := by unfold wrap64; omega
  have e2 : bits .and .u64 (n : Int) 1 = ((n % 2 : Nat) : Int) := by
    rw [show (1 : Int) = ((1 : Nat) : Int) from rfl, u64_and_nat _ _ h (by omega), nat_mask1]
  have hx := xor_i64 ((n / 2 : Nat) : Int) (by omega) (by omega)
  rw [e1, e2]
  unfold zag
  by_cases hp : n % 2 = 0
  · rw [if_pos hp, hp, show wrap64 (-wrap64 ((0 : Nat) : Int)) = 0 from by unfold wrap64; omega]; exact hx.1
  · rw [if_neg hp, show n % 2 = 1 from by omega, show wrap64 (-wrap64 ((1 : Nat) : Int)) = -1 from by unfold wrap64; omega]; exact hx.2
theorem pow128_8 {k : Nat} (h : k ≤ 8) : (128 : Nat) ^ k ≤ 72057594037927936 := Nat.le_trans (Nat.pow_le_pow_right (by omega) h) (by decide)
theorem pow128_9 {k : Nat} (h : k = 9) : (128 : Nat) ^ k = 9223372036854775808 := by subst h; decide
theorem takeV_some {l : List UInt8} {n : Nat} {k : Nat} (h : takeF 0 0 l = some (n, k)) : takeV l = (zag n, k) := by unfold takeV takeN; rw [h]; rfl
theorem takeV_none {l : List UInt8} (h : takeF 0 0 l = none) : takeV l = (0, 0) := by unfold takeV takeN; rw [h]; rfl
theorem ret_two {a b : Int} {p : Int × Nat} (h : p = (a, b.toNat)) (hb : 0 ≤ b) : Ending.returned (.tuple #[.int .i64 a, .int .i64 b]) = .returned (.tuple #[.int .i64 p.1, .int .i64 (p.2 : Int)]) := by
  subst h; simp only []; rw [Int.toNat_of_nonneg hb]
set_option maxRecDepth 100000 in
set_option maxHeartbeats 4000000 in
theorem take_any {w : World} {v : Value} {l : List UInt8} (h : Bytes w v l) :
    Calls Try.prog 120 #[v] w fun e w' => e = .returned (.tuple #[.int .i64 (takeV l).1, .int .i64 ((takeV l).2 : Int)]) ∧ w = w' := by
  obtain ⟨q, cap, rfl, h1, h2, h3⟩ := h
  have H3 := Lib.hid h3
  clear h3
  unfold maxLen at h2
  go_enter Try.func120, Try.ntmps120
  obtain ⟨m, hm⟩ : ∃ m : Nat, min ((l.length : Nat) : Int) 10 = (m : Int) := ⟨min l.length 10, by omega⟩
  have hmx : max (m : Int) 0 = m := by omega
  have hm1 : m ≤ 10 := by omega
  have hm2 : m ≤ l.length := by omega
  have Hm3 : Hid (m = 10 ∨ m = l.length) := Lib.hid (by omega)
  go_wp2
  clear hm hmx
  go_loop [4, 13] (fun u i => ∃ k n : Nat, k ≤ m ∧ i = .int .i64 k ∧ u = .int .u64 n ∧ n < 128 ^ k ∧ takeF 0 0 l = takeF k n (l.drop k)) (fun _ i => m - (intOf i).toNat)
  case atStart => exact ⟨0, 0, Nat.zero_le _, rfl, rfl, by simp, rfl⟩
  case round =>
    obtain ⟨k, n, hk, rfl, rfl, hn, hf⟩ := hrel
    by_cases hlt : k < m
    · obtain ⟨c, hc⟩ : ∃ c, l[k]? = some c := ⟨_, List.getElem?_eq_getElem (by omega)⟩
      have hd : l.drop k = c :: l.drop (k + 1) := by
        rw [List.getElem?_eq_getElem (by omega)] at hc
        rw [List.drop_eq_getElem_cons (by omega)]; cases hc; rfl
      rw [hd] at hf
      simp only [takeF] at hf
      rw [if_neg (by omega)] at hf
      obtain ⟨a, rfl, hcell⟩ := H3.out k c hc
      unfold byteV at hcell
      obtain ⟨cm, hcm, hcm3⟩ : ∃ cm : Nat, bits .and .u8 (c.toNat : Int) 127 = (cm : Int) ∧ cm = c.toNat % 128 := ⟨_, u8_and_nat c.toNat 127 (by have := c.toNat_lt; omega) (by omega), nat_mask7 _⟩
      have hcm2 : (cm : Int) < 128 := by omega
      have Hn := Lib.hid hn
      have hcase : (k = 9 ∧ 1 < c.toNat) ∨ (((k : Int) == 9) = false ∧ ¬ (k = 9 ∧ 1 < c.toNat) ∧ n + cm * 128 ^ k < 18446744073709551616) ∨ ((((k : Int) == 9) = true ∧ ¬ (1 : Int) < (c.toNat : Int)) ∧ ¬ (k = 9 ∧ 1 < c.toNat) ∧ n + cm * 128 ^ k < 18446744073709551616) := by
        by_cases h9 : k = 9
        · by_cases h1 : 1 < c.toNat
          · exact .inl ⟨h9, h1⟩
          · refine .inr (.inr ⟨⟨by simp; omega, by omega⟩, fun e => h1 e.2, ?_⟩)
            rw [pow128_9 h9] at hn ⊢; omega
        · refine .inr (.inl ⟨by simp; omega, fun e => h9 e.1, ?_⟩)
          have hp := pow128_8 (k := k) (by omega)
          have : cm * 128 ^ k ≤ 127 * 128 ^ k := Nat.mul_le_mul_right _ (by omega)
          omega
      rcases hcase with ⟨h9, h1⟩ | hcase
      · rw [if_pos ⟨h9, h1⟩] at hf
        have h9' : ((k : Int) == 9) = true := by simp; omega
        have h1' : (1 : Int) < (c.toNat : Int) := by omega
        have Ht := Lib.hid (takeV_none hf)
        clear hf hn hd hc h9
        go_wp2
        go_ret2
        exact ⟨ret_two Ht.out (by omega), rfl⟩
      · have hor : ∃ n' : Nat, bits .or .u64 (n : Int) (IntKind.u64.wrap ((cm : Int) * 2 ^ (7 * k))) = (n' : Int) ∧ bits .or .u64 (n : Int) ((cm : Int) * 2 ^ (7 * k)) = (n' : Int) ∧ n' = n + cm * 128 ^ k ∧ n' < 18446744073709551616 := by
          rcases hcase with ⟨_, _, hb⟩ | ⟨_, _, hb⟩ <;> exact ⟨_, or_shift n cm k hn hb, or_shift' n cm k hn hb, rfl, hb⟩
        obtain ⟨n', hor, hor2, hn', hb'⟩ := hor
        have hno : ¬ (k = 9 ∧ 1 < c.toNat) := by rcases hcase with ⟨_, h, _⟩ | ⟨_, h, _⟩ <;> exact h
        rw [if_neg hno] at hf
        have Hb' := Lib.hid hb'
        have Hzb := Lib.hid (zag_bits n' hb')
        have hcase' : ((k : Int) == 9) = false ∨ (((k : Int) == 9) = true ∧ ¬ (1 : Int) < (c.toNat : Int)) := by
          rcases hcase with ⟨h, _⟩ | ⟨h, _⟩
          · exact .inl h
          · exact .inr h
        clear hcase hno hb'
        by_cases h128 : c.toNat < 128
        · have h128' : ((c.toNat : Int)) < 128 := by omega
          rw [if_pos h128] at hf
          have hcc : cm = c.toNat := by omega
          by_cases hc0 : c.toNat = 0 ∧ 0 < k
          · rw [if_pos hc0] at hf
            have Ht := Lib.hid (takeV_none hf)
            have hz : ((c.toNat : Int) == 0) = true := by simp; omega
            have hk0 : (0 : Int) < (k : Int) := by omega
            clear hf hn hd hc hn' hcm3 hc0 hcc
            rcases hcase' with h9 | ⟨h9, h1⟩
            all_goals
              go_wp2
              go_ret2
              exact ⟨ret_two Ht.out (by omega), rfl⟩
          · rw [if_neg hc0] at hf
            have Ht := Lib.hid (takeV_some (hf.trans (by rw [← hcc, ← hn'])))
            by_cases hz : c.toNat = 0
            · have hz' : ((c.toNat : Int) == 0) = true := by simp; omega
              have hk0 : ¬ (0 : Int) < (k : Int) := by omega
              clear hf hn hd hc hn' hcm3 hc0 hcc hz
              rcases hcase' with h9 | ⟨h9, h1⟩
              all_goals
                go_wp2
                go_ret2
                exact ⟨by rw [Hzb.out]; exact ret_two Ht.out (by omega), rfl⟩
            · have hz' : ((c.toNat : Int) == 0) = false := by simp; omega
              clear hf hn hd hc hn' hcm3 hc0 hcc hz
              rcases hcase' with h9 | ⟨h9, h1⟩
              all_goals
                go_wp2
                go_ret2
                exact ⟨by rw [Hzb.out]; exact ret_two Ht.out (by omega), rfl⟩
        · have h128' : ¬ ((c.toNat : Int)) < 128 := by omega
          rw [if_neg h128] at hf
          have Hf : Hid (takeF 0 0 l = takeF (k + 1) n' (l.drop (k + 1))) := Lib.hid (by rw [hf, hn', hcm3])
          have Hn' : Hid (n' < 128 ^ (k + 1)) := Lib.hid (by
            rw [hn', Nat.pow_succ]
            have : cm * 128 ^ k ≤ 127 * 128 ^ k := Nat.mul_le_mul_right _ (by omega)
            omega)
          clear hf hn hd hc hn' hcm3
          rcases hcase' with h9 | ⟨h9, h1⟩
          all_goals
            go_wp2
            go_round
            case rel => exact ⟨k + 1, n', by omega, by go_num, rfl, Hn'.out, Hf.out⟩
            case measure => simp [intOf]; omega
    · obtain rfl : k = m := by omega
      have hnone : takeF 0 0 l = none := by
        rw [hf]
        rcases Hm3.out with e | e
        · rw [e]
          cases h : l.drop 10 with
          | nil => rfl
          | cons c r => simp [takeF]
        · rw [e, List.drop_length]; rfl
      have Ht := Lib.hid (takeV_none hnone)
      clear hf hn hnone
      go_wp2
      go_ret2
      exact ⟨ret_two Ht.out (by omega), rfl⟩
end Go.Proofs.Ytnficiohnhodiaa


/-
  Numbers and rows out of bytes: Take, Takes, TakeRow.
-/
namespace Go.Proofs.Ytnficiohnhodiaa
open Go.RowKit
theorem Addr.add_add (a : Addr) (i j : Nat) (h : a.spot = none) : (a.add i).add j = a.add (i + j) := by
  obtain ⟨b, o, s⟩ := a; cases h
  rw [Addr.add_mid, Addr.add_mid, Addr.add_mid, Nat.add_assoc]
theorem spot_none {w : World} {a : Addr} {v : Value} (h : w.cell? a = some v) : a.spot = none := by
  unfold World.cell? at h
  split at h
  · split at h
    · cases h
    · rename_i hs; simpa using hs
  · cases h
theorem Bytes.spot {w : World} {a : Addr} {n cap : Nat} {l : List UInt8} (h : Bytes w (.slice (some a) n cap) l) (hl : 0 < l.length) : a.spot = none := by
  obtain ⟨q, c, e, _, _, h3⟩ := h
  obtain ⟨a', e', hc⟩ := h3 0 (l[0]'hl) (List.getElem?_eq_getElem hl)
  cases e; cases e'
  rw [show a.add 0 = a from by simp [Addr.add]] at hc
  exact spot_none hc
/-- 's[k:]' -/
theorem Bytes.from {w : World} {q : Option Addr} {cap : Nat} {l : List UInt8} (h : Bytes w (.slice q l.length cap) l) (k : Nat) (hk : k ≤ l.length) : Bytes w (.slice (Option.map (fun x => x.add k) q) (l.length - k) (cap - k)) (l.drop k) := by
  have hs := fun a (e : q = some a) => Bytes.spot (e ▸ h)
  obtain ⟨q', cap', e, h1, h2, h3⟩ := h
  cases e
  refine ⟨_, _, by rw [List.length_drop], by rw [List.length_drop]; omega, by omega, fun j b hb => ?_⟩
  rw [List.getElem?_drop] at hb
  obtain ⟨a, rfl, hc⟩ := h3 (k + j) b hb
  have hlt := (List.getElem?_eq_some_iff.1 hb).1
  exact ⟨a.add k, rfl, by rw [Addr.add_add _ _ _ (hs a rfl (by omega))]; exact hc⟩
/-- 's[k:]' at the slice's very end -/
theorem Bytes.none_left {w : World} {q : Option Addr} {n c : Nat} {l : List UInt8} (k : Nat) (hk : l.length ≤ k) (hn : n = 0) (hc : c ≤ maxLen) : Bytes w (.slice q n c) (l.drop k) := by
  rw [List.drop_eq_nil_of_le hk]
  subst hn
  exact ⟨q, c, rfl, Nat.zero_le _, hc, fun j b hb => by simp at hb⟩
/-- 's[:k]' -/
theorem Bytes.to {w : World} {q : Option Addr} {cap : Nat} {l : List UInt8} (h : Bytes w (.slice q l.length cap) l) (k : Nat) (hk : k ≤ l.length) : Bytes w (.slice q k cap) (l.take k) := by
  obtain ⟨q', cap', e, h1, h2, h3⟩ := h
  cases e
  have hlen : (l.take k).length = k := by rw [List.length_take]; omega
  refine ⟨_, _, by rw [hlen], by omega, h2, fun j b hb => ?_⟩
  have hlt := (List.getElem?_eq_some_iff.1 hb).1
  rw [List.getElem?_take, if_pos (by omega)] at hb
  exact h3 j b hb
/-- 's[k:]' and 's[k:k+n]' as a region that draws leaves them -/
theorem Bytes.sub {w : World} {q : Option Addr} {cap : Nat} {l : List UInt8} (h : Bytes w (.slice q l.length cap) l) (k n : Nat) (hk : k + n ≤ l.length) : Bytes w (.slice (if cap = k then q else Option.map (fun x => x.add k) q) n (cap - k)) ((l.drop k).take n) := by
  have hm : cap ≤ maxLen ∧ l.length ≤ cap := by obtain ⟨q', cap', e, h1, h2, _⟩ := h; cases e; exact ⟨h2, h1⟩
  by_cases e : cap = k
  · rw [if_pos e]
    have h0 : n = 0 := by omega
    subst h0
    rw [List.take_zero]
    exact ⟨q, cap - k, rfl, Nat.zero_le _, by omega, fun j b hb => by simp at hb⟩
  · rw [if_neg e]
    have h1 := h.from k (by omega)
    have h2 : Bytes w (.slice (Option.map (fun x => x.add k) q) (l.drop k).length (cap - k)) (l.drop k) := by rw [List.length_drop]; exact h1
    exact h2.to n (by rw [List.length_drop]; omega)
theorem Bytes.sub' {w : World} {q : Option Addr} {cap : Nat} {l : List UInt8} (h : Bytes w (.slice q l.length cap) l) (k : Nat) (hk : k ≤ l.length) : Bytes w (.slice (if cap = k then q else Option.map (fun x => x.add k) q) (l.length - k) (cap - k)) (l.drop k) := by
  have := h.sub k (l.length - k) (by omega)
  rwa [List.take_of_length_le (by rw [List.length_drop]; exact Nat.le_refl _)] at this
set_option maxRecDepth 100000 in
theorem Take_some {w : World} {v : Value} {l : List UInt8} {n : Int} {k : Nat} (h : Bytes w v l) (hl : l.length ≤ 1000000000000) (ht : takeN l = some (n, k)) :
    Calls Try.prog 99 #[v] w fun e w' => ∃ v', e = .returned (.tuple #[.int .i64 n, v', .nilIface]) ∧ SubRow w' w.heap.size v' (bytesV (l.drop k)) ∧ Below w.heap.size w w' := by
  have htk := take_any h
  have hkl := takeN_len ht
  have e1 : takeV l = (n, k) := by unfold takeV; rw [ht]; rfl
  rw [e1] at htk
  simp only [] at htk
  have hB := h
  obtain ⟨q, cap, rfl, h1, h2, h3⟩ := h
  have hk0 : ((k : Int) == 0) = false := by simp; omega
  have hkk : ((k : Nat) : Int) ≤ ((l.length : Nat) : Int) := by omega
  have hC1 := clone_any (hB.from k (by omega)) (by rw [List.length_drop]; omega)
  have hC2 : Hid (cap = k → Calls Try.prog 59 #[.slice q (l.length - k) 0] w fun e w' => ∃ v', e = .returned v' ∧ SubRow w' w.heap.size v' (bytesV (l.drop k)) ∧ Below w.heap.size w w') :=
    Lib.hid (fun e => clone_any (Bytes.none_left k (by omega) (by omega) (Nat.zero_le _)) (by rw [List.length_drop]; omega))
  unfold maxLen at h2
  clear e1 ht
  go_enter Try.func99, Try.ntmps99
  go_wp2_with (first
    | (go_at_call 120; (with_reducible refine htk.mono ?_); rintro _ _ ⟨rfl, rfl⟩; clear htk)
    | (go_at_call 59; (with_reducible refine hC1.mono ?_); rintro _ w1 ⟨v1, rfl, s1, b1⟩)
    | (go_at_call 59; (with_reducible refine (hC2.out (by omega)).mono ?_); rintro _ w1 ⟨v1, rfl, s1, b1⟩))
  all_goals
    go_ret3
    exact ⟨_, rfl, s1, b1⟩
theorem Take_none {w : World} {v : Value} {l : List UInt8} (h : Bytes w v l) (ht : takeN l = none) :
    Calls Try.prog 99 #[v] w fun e w' => e = .returned (.tuple #[.int .i64 0, .slice none 0 0, errV 4]) ∧ w = w' := by
  have htk := take_any h
  have hm := makeErr 4
  have e1 : takeV l = (0, 0) := by unfold takeV; rw [ht]; rfl
  rw [e1] at htk
  have htk : Calls Try.prog 120 #[v] w fun e w' => e = .returned (.tuple #[.int .i64 0, .int .i64 0]) ∧ w = w' := htk
  rw [errV_pos (by decide)]
  clear e1 ht h
  go_enter Try.func99, Try.ntmps99
  go_wp2_with (go_at_call 120; (with_reducible refine htk.mono ?_); rintro _ _ ⟨rfl, rfl⟩; clear htk)
  go_ret3
  exact ⟨rfl, rfl⟩
def takeRow (l : List UInt8) : Option (List UInt8 × List UInt8) :=
  match takeN l with
  | none => none
  | some (n, k) => if n < 0 ∨ (l.length : Int) - k < n then none else some ((l.drop k).take n.toNat, l.drop (k + n.toNat))
theorem takeRow_row (r rest : List UInt8) (h : r.length ≤ 1000000000000) : takeRow (rowB r ++ rest) = some (r, rest) := by
  unfold takeRow rowB
  rw [List.append_assoc, takeN_num _ _ (by omega) (by omega)]
  simp only []
  rw [if_neg (by simp; omega), Int.toNat_natCast]
  simp [List.drop_append]
set_option maxRecDepth 100000 in
set_option maxHeartbeats 4000000 in
theorem TakeRow_some {w : World} {v : Value} {l r rest : List UInt8} (h : Bytes w v l) (hl : l.length ≤ 1000000000000) (ht : takeRow l = some (r, rest)) :
    Calls Try.prog 100 #[v] w fun e w' => ∃ v1 v2, e = .returned (.tuple #[v1, v2, .nilIface]) ∧ SubRow w' w.heap.size v1 (bytesV r) ∧ SubRow w' w.heap.size v2 (bytesV rest) ∧ Below w.heap.size w w' := by
  have htk := take_any h
  unfold takeRow at ht
  split at ht
  · cases ht
  rename_i n k htn
  split at ht
  · cases ht
  rename_i hno
  cases ht
  have hkl := takeN_len htn
  obtain ⟨nn, rfl⟩ : ∃ nn : Nat, n = (nn : Int) := ⟨n.toNat, by omega⟩
  rw [Int.toNat_natCast]
  have e1 : takeV l = ((nn : Int), k) := by unfold takeV; rw [htn]; rfl
  rw [e1] at htk
  simp only [] at htk
  have hB := h
  obtain ⟨q, cap, rfl, h1, h2, h3⟩ := h
  have hk0 : ((k : Int) == 0) = false := by simp; omega
  have hn1 : ((nn : Nat) : Int) ≤ ((l.length : Nat) : Int) - (k : Int) := by omega
  have hlen : (l.drop (k + nn)).length ≤ 1000000000000 := by rw [List.length_drop]; omega
  have hkn : k + nn ≤ l.length := by omega
  have hw : Below w.heap.size w w.drew := (Below.refl _ w).drew
  have Hh : Hid ((l.drop (k + nn)).length ≤ 1000000000000 ∧ k + nn ≤ l.length ∧ Below w.heap.size w w.drew) := Lib.hid ⟨hlen, hkn, hw⟩
  have hl1 : ((l.drop k).take nn).length ≤ 1000000000000 := by rw [List.length_take, List.length_drop]; omega
  unfold maxLen at h2
  clear e1 htn hlen hkn hw
  have b1 : (0 : Int) ≤ (k : Int) := by omega
  have b2 : (k : Int) ≤ (k : Int) + (nn : Int) := by omega
  have b3 : (k : Int) + (nn : Int) ≤ (cap : Int) := by omega
  have b4 : (k : Int) + (nn : Int) ≤ (l.length : Int) := by omega
  have b5 : (k : Int) ≤ (l.length : Int) := by omega
  have b8 : (0 : Int) ≤ (k : Int) + (nn : Int) := by omega
  have b9 : ((k : Int) + (nn : Int)).toNat = k + nn := by omega
  have b10 : (l.length : Int) ≤ (cap : Int) := by omega
  have bw : IntKind.i64.wrap ((k : Int) + (nn : Int)) = (k : Int) + (nn : Int) := by rw [IntKind.wrap_i64]; omega
  obtain ⟨X1, hX1⟩ : ∃ X, (if cap = k then q else Option.map (fun x => x.add k) q) = X := ⟨_, rfl⟩
  obtain ⟨X2, hX2⟩ : ∃ X, (if cap = k + nn then q else Option.map (fun x => x.add (k + nn)) q) = X := ⟨_, rfl⟩
  have hB1 := hB.below ((Below.refl _ w).drew)
  have hC1 := clone_form (hB1.sub k nn Hh.out.2.1) hl1
  rw [hX1] at hC1
  have HX2 := Lib.hid hX2
  clear hB h3
  go_enter Try.func100, Try.ntmps100
  go_wp2_with (go_at_call 120; (with_reducible refine htk.mono ?_); rintro _ _ ⟨rfl, rfl⟩; clear htk)
  go_region_held3 (fun w' => Bytes w' (.slice q l.length cap) l) (first | exact hB1 | exact hB2 | exact hB3) (first
      | (go_at_call 59; (with_reducible refine hC1.mono ?_); rintro _ w1 ⟨q1, n1, cc1, rfl, s1, c1⟩; have hB2 := hB1.below c1; have hC2 := clone_form (hB2.sub' (k + nn) Hh.out.2.1) Hh.out.1; rw [HX2.out] at hC2)
      | (go_at_call 59; (with_reducible refine hC2.mono ?_); rintro _ w2 ⟨q2, n2, cc2, rfl, s2, c2⟩; have hB3 := hB2.below c2))
  clear hX1 hX2 bw
  go_wp2
  go_ret3
  exact ⟨_, _, rfl, s1.below c2, s2.weaken c1.size, Hh.out.2.2.trans (c1.trans (c2.mono c1.size))⟩
set_option maxRecDepth 100000 in
set_option maxHeartbeats 1000000 in
theorem TakeRow_none {w : World} {v : Value} {l : List UInt8} (h : Bytes w v l) (ht : takeRow l = none) :
    Calls Try.prog 100 #[v] w fun e w' => e = .returned (.tuple #[.slice none 0 0, .slice none 0 0, errV 4]) ∧ w = w' := by
  have htk := take_any h
  have hm := makeErr 4
  rw [errV_pos (by decide)]
  unfold takeRow at ht
  obtain ⟨q, cap, rfl, h1, h2, h3⟩ := h
  cases hn : takeN l with
  | none =>
    have e1 : takeV l = (0, 0) := by unfold takeV; rw [hn]; rfl
    rw [e1] at htk
    have htk : Calls Try.prog 120 #[.slice q l.length cap] w fun e w' => e = .returned (.tuple #[.int .i64 0, .int .i64 0]) ∧ w = w' := htk
    clear e1 ht hn h3
    go_enter Try.func100, Try.ntmps100
    go_wp2_with (go_at_call 120; (with_reducible refine htk.mono ?_); rintro _ _ ⟨rfl, rfl⟩; clear htk)
    go_ret3
    exact ⟨rfl, rfl⟩
  | some p =>
    obtain ⟨n, k⟩ := p
    rw [hn] at ht
    simp only [] at ht
    have e1 : takeV l = (n, k) := by unfold takeV; rw [hn]; rfl
    have hkl := takeN_len hn
    rw [e1] at htk
    simp only [] at htk
    have hk0 : ((k : Int) == 0) = false := by simp; omega
    have hor : n < 0 ∨ ¬ n < 0 ∧ (l.length : Int) - k < n := by
      by_cases h0 : n < 0
      · exact .inl h0
      · refine .inr ⟨h0, ?_⟩
        by_cases h5 : (l.length : Int) - k < n
        · exact h5
        · rw [if_neg (by omega)] at ht; cases ht
    clear e1 ht hn h3
    unfold maxLen at h2
    rcases hor with h0 | ⟨h0, h5⟩
    all_goals
      go_enter Try.func100, Try.ntmps100
      go_wp2_with (go_at_call 120; (with_reducible refine htk.mono ?_); rintro _ _ ⟨rfl, rfl⟩; clear htk)
      go_ret3
      exact ⟨rfl, rfl⟩
/-- so many numbers, and what is behind them -/
def takesM : Nat → List UInt8 → Option (List Int × List UInt8)
  | 0, l => some ([], l)
  | c + 1, l => match takeN l with
    | none => none
    | some (n, k) => match takesM c (l.drop k) with
      | none => none
      | some (ns, r) => some (n :: ns, r)
theorem takesM_nums (xs : List Int) (rest : List UInt8) (hx : ∀ x ∈ xs, int64 x) : takesM xs.length (nums xs ++ rest) = some (xs, rest) := by
  induction xs with
  | nil => rfl
  | cons x xs ih =>
    have e : nums (x :: xs) ++ rest = num x ++ (nums xs ++ rest) := by simp [nums]
    have h := hx x (List.mem_cons_self ..)
    rw [e, List.length_cons, takesM, takeN_num _ _ h.1 h.2]
    simp only [List.drop_left, ih (fun y hy => hx y (List.mem_cons_of_mem _ hy))]
theorem takesM_len {c : Nat} : ∀ {l : List UInt8} {ns : List Int} {r : List UInt8}, takesM c l = some (ns, r) → ns.length = c ∧ r.length ≤ l.length := by
  induction c with
  | zero => intro l ns r h; cases h; exact ⟨rfl, Nat.le_refl _⟩
  | succ c ih =>
    intro l ns r h
    rw [takesM] at h
    split at h
    · cases h
    · split at h
      · cases h
      · rename_i h2
        cases h
        have := ih h2
        rw [List.length_drop] at this
        exact ⟨by rw [List.length_cons, this.1], by omega⟩
theorem infoI : (Try.prog.info? 3).map (fun i => (i.zero, i.size, i.bytes)) = some (some (.int .i64 0), 1, 8) := by kernel_rfl
end Go.Proofs.Ytnficiohnhodiaa


/-
  Takes: bytes that are no such numbers.
-/
namespace Go.Proofs.Ytnficiohnhodiaa
open Go.RowKit
end Go.Proofs.Ytnficiohnhodiaa


/-
  CRC-32: Check.
-/
namespace Go.Proofs.Ytnficiohnhodiaa
open Go.RowKit
theorem and1_u32 (r : BitVec 32) : bits .and .u32 (r.toNat : Int) 1 = ((r.toNat % 2 : Nat) : Int) := by
  rw [show (1 : Int) = ((1 : Nat) : Int) from rfl, u32_and_nat _ _ r.isLt (by omega), nat_mask1]
theorem crcBit_odd {r : BitVec 32} (h : r.toNat % 2 = 1) : bits .xor .u32 ((r.toNat : Int) / 2) 3988292384 = ((crcBit r).toNat : Int) := by
  have hr := r.isLt
  have hc : r &&& 1#32 = 1#32 := by
    apply BitVec.eq_of_toNat_eq
    rw [BitVec.toNat_and, show (1#32).toNat = 1 from rfl, nat_mask1]; exact h
  unfold crcBit
  rw [if_pos hc, BitVec.toNat_xor, BitVec.toNat_ushiftRight, Nat.shiftRight_eq_div_pow, Nat.pow_one, show (r.toNat : Int) / 2 = ((r.toNat / 2 : Nat) : Int) from by omega,
    show (3988292384 : Int) = ((3988292384 : Nat) : Int) from rfl, u32_xor_nat _ _ (by omega) (by omega)]
  rfl
theorem crcBit_even {r : BitVec 32} (h : r.toNat % 2 = 0) : (r.toNat : Int) / 2 = ((crcBit r).toNat : Int) := by
  have hc : ¬ r &&& 1#32 = 1#32 := by
    intro e
    have := congrArg BitVec.toNat e
    rw [BitVec.toNat_and, show (1#32).toNat = 1 from rfl, nat_mask1] at this
    omega
  unfold crcBit
  rw [if_neg hc, BitVec.toNat_ushiftRight, Nat.shiftRight_eq_div_pow, Nat.pow_one]; omega
theorem xor_byte (r : BitVec 32) (b : UInt8) : bits .xor .u32 (r.toNat : Int) (b.toNat : Int) = ((r ^^^ BitVec.ofNat 32 b.toNat).toNat : Int) := by
  have hb := b.toNat_lt
  rw [u32_xor_nat _ _ r.isLt (by omega), BitVec.toNat_xor, BitVec.toNat_ofNat, Nat.mod_eq_of_lt (by omega)]
theorem not_u32 (r : BitVec 32) : bits .xor .u32 IntKind.u32.max (r.toNat : Int) = ((~~~ r).toNat : Int) := by
  rw [show IntKind.u32.max = ((4294967295 : Nat) : Int) from by decide, u32_xor_nat _ _ (by omega) r.isLt, BitVec.not_def, BitVec.toNat_xor, BitVec.toNat_allOnes]
theorem crcReg_snoc (l : List UInt8) (b : UInt8) : crcReg (l ++ [b]) = crcByte (crcReg l) b := by unfold crcReg; rw [List.foldl_append]; rfl
set_option maxRecDepth 100000 in
set_option maxHeartbeats 1000000 in
theorem check_any {w : World} {v : Value} {ps : List (List UInt8)} (hp : Parts w v ps) :
    Calls Try.prog 117 #[v] w fun e w' => e = .returned (.int .u32 ((crc ps.flatten).toNat : Int)) ∧ w = w' := by
  obtain ⟨q, cap, rfl, hc1, hc2, h3⟩ := hp
  have H3 := Lib.hid h3
  clear h3
  unfold maxLen at hc2
  go_enter Try.func117, Try.ntmps117
  go_wp2
  go_loop [3, 11] (fun s i => ∃ (k : Nat) (r : BitVec 32), k ≤ ps.length ∧ i = .int .i64 k ∧ s = .int .u32 (r.toNat : Int) ∧ r = crcReg (ps.take k).flatten) (fun _ i => ps.length - (intOf i).toNat)
  case atStart => exact ⟨0, 0xffffffff#32, by omega, rfl, rfl, rfl⟩
  case round =>
    obtain ⟨k, r, hk, rfl, rfl, hr⟩ := hrel
    have Hr := Lib.hid hr
    clear hr
    by_cases hlt : k < ps.length
    · obtain ⟨l, hl⟩ : ∃ l, ps[k]? = some l := ⟨_, List.getElem?_eq_getElem hlt⟩
      obtain ⟨a, u, rfl, hcell, q2, cap2, rfl, hq1, hq2, h4⟩ := H3.out k l hl
      have H4 := Lib.hid h4
      have Hft := Lib.hid (flat_take hl)
      unfold maxLen at hq2
      clear h4 hl
      go_wp2
      clear hcell
      go_loop [3, 17] (fun s i => ∃ (j : Nat) (r' : BitVec 32), j ≤ l.length ∧ i = .int .i64 j ∧ s = .int .u32 (r'.toNat : Int) ∧ r' = crcReg ((ps.take k).flatten ++ l.take j)) (fun _ i => l.length - (intOf i).toNat)
      case atStart => exact ⟨0, r, by omega, rfl, rfl, by rw [Hr.out]; simp⟩
      case round =>
        obtain ⟨j, r', hj, rfl, rfl, hr'⟩ := hrel
        have Hr' := Lib.hid hr'
        clear hr'
        by_cases hjl : j < l.length
        · obtain ⟨b, hb⟩ : ∃ b, l[j]? = some b := ⟨_, List.getElem?_eq_getElem hjl⟩
          obtain ⟨a2, rfl, hcb⟩ := H4.out j b hb
          unfold byteV at hcb
          have hxb := xor_byte r' b
          have Htk : Hid (l.take (j + 1) = l.take j ++ [b]) := Lib.hid (by rw [List.take_add_one, hb]; rfl)
          generalize hr0 : r' ^^^ BitVec.ofNat 32 b.toNat = r0 at hxb
          have Hr0 := Lib.hid hr0
          have hbt := b.toNat_lt
          have hbi : (b.toNat : Int) < 256 := by omega
          clear hb hr0 hbt
          go_wp2
          clear hcb hxb
          go_loop [3, 25] (fun s i => ∃ (m : Nat) (r1 : BitVec 32), m ≤ 8 ∧ i = .int .i64 m ∧ s = .int .u32 (r1.toNat : Int) ∧ r1 = crcBits m r0) (fun _ i => 8 - (intOf i).toNat)
          case atStart => exact ⟨0, r0, by omega, rfl, rfl, rfl⟩
          case round =>
            obtain ⟨m, r1, hm, rfl, rfl, hr1⟩ := hrel
            have Hr1 := Lib.hid hr1
            clear hr1
            have hand := and1_u32 r1
            by_cases hm8 : m < 8
            · have Hsucc : Hid (crcBits (m + 1) r0 = crcBit r1) := Lib.hid (by rw [crcBits_succ, Hr1.out])
              by_cases hodd : r1.toNat % 2 = 1
              · rw [hodd] at hand
                have hx := crcBit_odd hodd
                clear hodd
                go_wp2
                go_round
                case rel => exact ⟨m + 1, crcBit r1, by omega, by go_num, rfl, Hsucc.out.symm⟩
                case measure => simp [intOf]; omega
              · have he : r1.toNat % 2 = 0 := by omega
                rw [he] at hand
                have hx := crcBit_even he
                clear hodd he
                go_wp2
                go_round
                case rel => exact ⟨m + 1, crcBit r1, by omega, by go_num, rfl, Hsucc.out.symm⟩
                case measure => simp [intOf]; omega
            · obtain rfl : m = 8 := by omega
              clear hand
              go_wp2
              go_round
              case rel => exact ⟨j + 1, r1, by omega, by go_num, rfl, by rw [Htk.out, ← List.append_assoc, crcReg_snoc, ← Hr'.out, Hr1.out, crcByte, Hr0.out]⟩
              case measure => simp [intOf]; omega
        · obtain rfl : j = l.length := by omega
          go_wp2
          go_round
          case rel => exact ⟨k + 1, r', by omega, by go_num, rfl, by rw [Hft.out, Hr'.out, List.take_length]⟩
          case measure => simp [intOf]; omega
    · obtain rfl : k = ps.length := by omega
      have Hn : Hid (bits .xor .u32 IntKind.u32.max (r.toNat : Int) = ((crc ps.flatten).toNat : Int)) := Lib.hid (by rw [not_u32]; unfold crc; rw [Hr.out, List.take_length])
      go_wp2
      go_ret
      exact ⟨by rw [← Hn.out]; rfl, rfl⟩
end Go.Proofs.Ytnficiohnhodiaa


/-
  A row of the call's own whose block and room are known: what is stored, what is appended within its room.
-/
namespace Go.Proofs.Ytnficiohnhodiaa
open Go.RowKit
structure RowAt (w : World) (g cap : Nat) (xs : List Value) : Prop where
  len : xs.length ≤ cap
  there : ∀ j, j < cap → (w.cell? ⟨g, j, none⟩).isSome = true ∧ w.frozen? ⟨g, j, none⟩ = false
  at_ : ∀ j u, xs[j]? = some u → w.cell? ⟨g, j, none⟩ = some u
theorem RowAt.lt {w : World} {g cap : Nat} {xs : List Value} (h : RowAt w g cap xs) (hc : 0 < cap) : g < w.heap.size := by
  obtain ⟨u, hu⟩ := Option.isSome_iff_exists.1 (h.there 0 hc).1
  exact World.block_lt_of_cell? w ⟨g, 0, none⟩ hu
theorem RowAt.keeps {S : Nat → Prop} {w w' : World} {g cap : Nat} {xs : List Value} (h : RowAt w g cap xs) (hc : 0 < cap) (hk : Keeps S w w') (hs : ¬ S g) : RowAt w' g cap xs := by
  have hb := hk.block g (h.lt hc) hs
  refine ⟨h.len, fun j hj => ?_, fun j u hu => ?_⟩
  · rw [World.cell?_of_block (a := ⟨g, j, none⟩) hb, World.frozen?_of_block (a := ⟨g, j, none⟩) hb]; exact h.there j hj
  · rw [World.cell?_of_block (a := ⟨g, j, none⟩) hb]; exact h.at_ j u hu
theorem RowAt.below {w w' : World} {g cap : Nat} {xs : List Value} (h : RowAt w g cap xs) (hc : 0 < cap) (hb : Below w.heap.size w w') : RowAt w' g cap xs := h.keeps (S := fun _ => False) hc (Keeps.of_below hb) (fun e => e)
theorem RowAt.of_block {w : World} {g : Nat} {xs more : List Value} {T : TypeId} (h : w.heap[g]? = some (.cells (xs ++ more).toArray T (0, 0))) : RowAt w g (xs ++ more).length xs := by
  refine ⟨by rw [List.length_append]; omega, fun j hj => ⟨?_, free_in h⟩, fun j u hu => cell_in h ?_⟩
  · rw [cell_in (u := (xs ++ more)[j]'hj) h (by simp [List.getElem?_eq_getElem hj])]; rfl
  · rw [List.getElem?_toArray, List.getElem?_append_left (List.getElem?_eq_some_iff.1 hu).1]; exact hu
theorem RowAt.set {w : World} {g cap : Nat} {xs : List Value} (h : RowAt w g cap xs) (i : Nat) (hi : i < xs.length) (v : Value) : RowAt (w.setCell ⟨g, i, none⟩ v) g cap (xs.set i v) := by
  have hic := h.at_ i (xs[i]'hi) (List.getElem?_eq_getElem hi)
  refine ⟨by rw [List.length_set]; exact h.len, fun j hj => ?_, fun j u hu => ?_⟩
  · rw [World.frozen?_setCell]
    by_cases e : i = j
    · subst e; rw [World.cell?_setCell_same _ _ _ hic]; exact ⟨rfl, (h.there i hj).2⟩
    · rw [World.cell?_setCell_other _ _ _ _ (by simp)]; exact h.there j hj
  · rw [List.getElem?_set] at hu
    by_cases e : i = j
    · subst e; rw [if_pos rfl, if_pos hi] at hu; cases hu; exact World.cell?_setCell_same _ _ _ hic
    · rw [if_neg e] at hu; rw [World.cell?_setCell_other _ _ _ _ (by simp)]; exact h.at_ j u hu
theorem RowAt.app {w : World} {g cap : Nat} {xs : List Value} (h : RowAt w g cap xs) (news : List Value) (hr : xs.length + news.length ≤ cap) : RowAt (w.setCells g xs.length news) g cap (xs ++ news) := by
  refine ⟨by rw [List.length_append]; exact hr, fun j hj => ⟨World.isSome_setCells _ _ _ _ _ (h.there j hj).1, by rw [World.frozen?_setCells]; exact (h.there j hj).2⟩, fun j u hu => ?_⟩
  by_cases hj : j < xs.length
  · rw [List.getElem?_append_left hj] at hu
    rw [World.cell?_setCells_out _ _ _ _ _ (fun _ _ => .inl hj)]; exact h.at_ j u hu
  · have hj2 := (List.getElem?_eq_some_iff.1 hu).1
    rw [List.length_append] at hj2
    rw [List.getElem?_append_right (by omega)] at hu
    have hin := World.cell?_setCells_in g news xs.length w (fun i hi => (h.there _ (by omega)).1) (j - xs.length) (by omega)
    rw [show xs.length + (j - xs.length) = j from by omega] at hin
    rw [hin, ← hu, List.getElem?_eq_getElem (by omega)]
theorem RowAt.sub {w : World} {B g cap : Nat} {xs : List Value} (h : RowAt w g cap xs) (hc : 0 < cap) (hm : cap ≤ maxLen) (hB : B ≤ g) : SubRow w B (.slice (some ⟨g, 0, none⟩) xs.length cap) xs :=
  .inr ⟨g, 0, cap, rfl, hB, h.lt hc, h.len, hm, fun j hj => by rw [Nat.zero_add]; exact h.there j hj, fun j u hu => by rw [Nat.zero_add]; exact h.at_ j u hu⟩
theorem RowAt.bytes {w : World} {g cap : Nat} {l : List UInt8} (h : RowAt w g cap (bytesV l)) (hm : cap ≤ maxLen) : Bytes w (.slice (some ⟨g, 0, none⟩) l.length cap) l := by
  have hl := h.len
  rw [bytesV_len] at hl
  exact ⟨_, cap, rfl, hl, hm, fun j b hb => ⟨_, rfl, by rw [Addr.add_mid, Nat.zero_add]; exact h.at_ j _ (by unfold bytesV; rw [List.getElem?_map, hb]; rfl)⟩⟩
section
variable {P : Program}
theorem run_append_in {w : World} {t ty e : TypeId} {i : TypeInfo} (ht : P.underlying t = some (.slice e)) (hi : P.info? e = some i) (hs1 : i.size = 1) {g cap : Nat} {xs : List Value} (h : RowAt w g cap xs) (n : Nat) (hn : n = xs.length)
    {x : Value} {news : List Value} (hs : Src P 1 t x news.length news w) (hr : xs.length + news.length ≤ cap) :
    (Builtin.append_ #[t, t] ty #[.slice (some ⟨g, 0, none⟩) n cap, x]).run P w = .ok (.slice (some ⟨g, 0, none⟩) (n + news.length) cap) (w.setCells g n news) := by
  subst hn
  have := run_append_room_src (P := P) w t t ty e i ht hi g 0 xs.length cap x news.length news (by rw [hs1]; exact hs) hr (fun j hj => by rw [hs1, Nat.zero_add, Nat.mul_one]; exact (h.there _ (by omega)).1) (fun j hj => by rw [hs1, Nat.zero_add, Nat.mul_one]; exact (h.there _ (by omega)).2)
  rwa [hs1, Nat.zero_add, Nat.mul_one] at this
/-- 'append(s, make([]T, k)...)' within the room -/
theorem run_append_zeros_in {w : World} {t tn ty e : TypeId} {i : TypeInfo} {z : Value} {kn : IntKind} (ht : P.underlying t = some (.slice e)) (htn : P.underlying tn = some (.int kn)) (hi : P.info? e = some i) (hz : i.zero = some z) (hs1 : i.size = 1) (hb : i.bytes ≤ 8) (hzc : z.cells = #[z]) (hz1 : z.oneCell' = true)
    {g cap : Nat} {xs : List Value} (h : RowAt w g cap xs) (n : Nat) (hn : n = xs.length) (k : Nat) (hr : xs.length + k ≤ cap) (hk : k ≤ 1000000000000) :
    (Builtin.append_ #[t, tn] ty #[.slice (some ⟨g, 0, none⟩) n cap, .int .i64 (k : Int)]).run P w = .ok (.slice (some ⟨g, 0, none⟩) (n + k) cap) (w.setCells g n (List.replicate k z)) := by
  subst hn
  have hst := run_storeCells_cells (P := P) g xs.length (List.replicate k z) 0 w (fun j hj => by rw [List.length_replicate] at hj; rw [Nat.add_zero]; exact (h.there _ (by omega)).1) (fun j hj => by rw [List.length_replicate] at hj; rw [Nat.add_zero]; exact (h.there _ (by omega)).2) (fun v hv => by rw [List.eq_of_mem_replicate hv]; exact hz1)
  simp only [Nat.add_zero] at hst
  have hw : IntKind.i64.wrap (k : Int) = k := by rw [IntKind.wrap_i64]; omega
  have hneg : ¬ ((k : Int) < 0) := by omega
  have h48i : ¬ (281474976710656 < (k : Int) * (i.bytes : Int)) := by
    rw [← Int.natCast_mul]
    have : k * i.bytes ≤ 1000000000000 * 8 := Nat.mul_le_mul hk hb
    omega
  have hzs : Builtin.zeroCells z.cells k = (List.replicate k z).toArray := by
    apply Array.ext'
    rw [hzc]
    show (madeCells #[z] (k * 1)).toList = _
    rw [Nat.mul_one, toList_madeCells_one]
  by_cases hk0 : k = 0
  · subst hk0
    have hw0 : IntKind.i64.wrap 0 = 0 := by decide
    simp [hw0, Builtin.append_, run_underlying ht, run_underlying htn, sizeOf, typeInfo, zeroValue, hi, hz, asInt, asIntOf, storeCells, World.setCells, h.len]
  · simp [Builtin.append_, run_underlying ht, run_underlying htn, sizeOf, typeInfo, zeroValue, hi, hz, hs1, asInt, asIntOf, hw, hneg, h48i, hr, hk0, hzs, Addr.add_lit, hst]
end
end Go.Proofs.Ytnficiohnhodiaa


/-
  Boxes: Box.
-/
namespace Go.Proofs.Ytnficiohnhodiaa
open Go.RowKit
theorem byteV_mod (n : Nat) : byteV (UInt8.ofNat n) = .int .u8 ((n : Int) % 256) := by
  unfold byteV; rw [UInt8.toNat_ofNat']; congr 1
theorem byteV_div (n : Nat) : byteV (UInt8.ofNat (n / 256)) = .int .u8 ((n : Int) / 256 % 256) := by rw [byteV_mod]; rfl
def hdrB (n : Nat) : List UInt8 := [0, 0, 0, 0, UInt8.ofNat (n / 256), UInt8.ofNat n]
theorem make_box (sz : Nat) (h6 : 6 ≤ sz) (hs : sz ≤ 65536) (w : World) : ∃ cs : Array Value, (Instr.makeSlice 52 (.int .i64 6) (.int .i64 (sz : Int))).run Try.prog w = .ok (.slice (some ⟨w.heap.size, 0, none⟩) 6 sz) (w.alloc (.cells cs 5)) ∧
    RowAt (w.alloc (.cells cs 5)) w.heap.size sz (bytesV [0, 0, 0, 0, 0, 0]) := by
  obtain ⟨i0, hi, hz0, hz1, hz2⟩ := info_parts info8
  have hr := run_make (P := Try.prog) w 52 5 i0 (.int .u8 0) Try.underlying52 hi hz0 .i64 .i64 6 (sz : Int) (by omega) (by omega) (by rw [hz2]; omega) (by omega)
  rw [hz1, Nat.mul_one, Int.toNat_natCast] at hr
  refine ⟨_, hr, ?_⟩
  have e : madeCells (Value.int .u8 0).cells sz = (bytesV [0, 0, 0, 0, 0, 0] ++ List.replicate (sz - 6) (Value.int .u8 0)).toArray := by
    apply Array.ext'
    show (madeCells #[Value.int .u8 0] sz).toList = _
    have h66 : sz = 6 + (sz - 6) := by omega
    rw [toList_madeCells_one]
    conv => lhs; rw [h66]
    rw [← List.replicate_append_replicate]
    rfl
  rw [e]
  have := RowAt.of_block (w := w.alloc (.cells (bytesV [0, 0, 0, 0, 0, 0] ++ List.replicate (sz - 6) (Value.int .u8 0)).toArray 5)) (g := w.heap.size) (xs := bytesV [0, 0, 0, 0, 0, 0]) (more := List.replicate (sz - 6) (Value.int .u8 0)) (T := 5) (heap_alloc_new _ _)
  rwa [List.length_append, bytesV_len, List.length_replicate, show [0, 0, 0, 0, 0, (0 : UInt8)].length + (sz - 6) = sz from by simp; omega] at this
theorem byteV_wrap (n : Nat) : byteV (UInt8.ofNat n) = .int .u8 (IntKind.u8.wrap (n : Int)) := by
  unfold byteV
  rw [UInt8.toNat_ofNat', IntKind.wrap_u8]; congr 1
set_option maxRecDepth 100000 in
set_option maxHeartbeats 1000000 in
theorem Box_ok {w : World} {v : Value} {ps : List (List UInt8)} {sz : Nat} (hp : Parts w v ps) (h6 : 6 ≤ sz) (hs : sz ≤ 65536) (hl : ps.flatten.length + 6 ≤ sz) (hn : ps.length ≤ 1000000) :
    Calls Try.prog 95 #[.int .i64 (sz : Int), v] w fun e w' => ∃ g, e = .returned (.tuple #[.slice (some ⟨g, 0, none⟩) sz sz, .nilIface]) ∧ w.heap.size ≤ g ∧ RowAt w' g sz (bytesV (boxOf sz ps.flatten)) ∧ Below w.heap.size w w' := by
  obtain ⟨i0, hi, hz0, hz1, hz2⟩ := info_parts info8
  have Hp := Lib.hid hp
  obtain ⟨q, cap, rfl, hc1, hc2, h3⟩ := hp
  have H3 := Lib.hid h3
  have Hl := Lib.hid hl
  unfold maxLen at hc2
  have hs1 : ((sz : Nat) : Int) ≤ 65536 := by omega
  have h61 : ¬ ((sz : Nat) : Int) < 6 := by omega
  clear h3 hl
  go_enter Try.func95, Try.ntmps95
  go_wp2
  go_loop [6, 22] (fun s i => ∃ k : Nat, k ≤ ps.length ∧ i = .int .i64 k ∧ s = .int .i64 (tot ps k)) (fun _ i => ps.length - (intOf i).toNat)
  case atStart => exact ⟨0, by omega, rfl, rfl⟩
  case round =>
    obtain ⟨k, hk, rfl, rfl⟩ := hrel
    by_cases hlt : k < ps.length
    · obtain ⟨l, hl⟩ : ∃ l, ps[k]? = some l := ⟨_, List.getElem?_eq_getElem hlt⟩
      obtain ⟨a, u, rfl, hcell, hu⟩ := H3.out k l hl
      obtain ⟨q2, cap2, rfl, hq1, hq2, _⟩ := hu
      have hft := tot_succ hl
      have hle := tot_le ps (k + 1)
      have Hft := Lib.hid hft
      have hlL : (tot ps k : Int) + (l.length : Int) ≤ (sz : Int) - 6 := by have := Hl.out; omega
      clear hft hl hle
      go_wp2
      go_round
      case rel => exact ⟨k + 1, by omega, by go_num, by rw [Hft.out]; go_num⟩
      case measure => simp [intOf]; omega
    · obtain rfl : k = ps.length := by omega
      have Htot : Hid (tot ps ps.length = ps.flatten.length) := Lib.hid (by unfold tot; rw [List.take_length])
      obtain ⟨cs, hmk, hrow⟩ := make_box sz h6 hs w
      have Hrow := Lib.hid hrow
      have hg0 : Hid (w.heap.size < (w.alloc (.cells cs 5)).heap.size) := Lib.hid (by simp)
      have hb0 : Hid (Below w.heap.size w (w.alloc (.cells cs 5))) := Lib.hid ((Below.refl _ _).alloc (Nat.le_refl _) _)
      clear hrow
      generalize htl : tot ps ps.length = L at Htot ⊢
      have Htl := Lib.hid htl
      clear htl
      go_upto_region 12 with fail
      clear hmk
      generalize w.alloc (.cells cs 5) = w1 at Hrow hg0 hb0 ⊢
      have hbg : ¬ w.heap.size = w.heap.size + 1 := by omega
      clear hbg
      have c4 := Hrow.out.at_ 4 _ (by rfl)
      have c5 := Hrow.out.at_ 5 _ (by rfl)
      have f4 := (Hrow.out.there 4 (by omega)).2
      have f5 := (Hrow.out.there 5 (by omega)).2
      go_upto_region 13 with fail
      have hr2 := (Hrow.out.set 4 (by rw [bytesV_len]; simp) (byteV (UInt8.ofNat (L / 256)))).set 5 (by rw [List.length_set, bytesV_len]; simp) (byteV (UInt8.ofNat L))
      rw [show ((bytesV [0, 0, 0, 0, 0, 0]).set 4 (byteV (UInt8.ofNat (L / 256)))).set 5 (byteV (UInt8.ofNat L)) = bytesV (hdrB L ++ (ps.take 0).flatten) from rfl, byteV_div, byteV_mod] at hr2
      have hb2 : Below w.heap.size w ((w1.setCell ⟨w.heap.size, 4, none⟩ (.int .u8 ((L : Int) / 256 % 256))).setCell ⟨w.heap.size, 5, none⟩ (.int .u8 ((L : Int) % 256))) := (hb0.out.setCell (Nat.le_refl _) _).setCell (Nat.le_refl _) _
      have Hr2 := Lib.hid hr2
      have Hb2 := Lib.hid hb2
      clear c4 c5 f4 f5 hr2 hb2 hb0 Hrow hg0
      generalize (w1.setCell ⟨w.heap.size, 4, none⟩ (.int .u8 ((L : Int) / 256 % 256))).setCell ⟨w.heap.size, 5, none⟩ (.int .u8 ((L : Int) % 256)) = w2 at Hr2 Hb2 ⊢
      go_wp2
      go_loopw [9, 53] (fun b i wr => ∃ k n : Nat, k ≤ ps.length ∧ i = .int .i64 k ∧ b = .slice (some ⟨w.heap.size, 0, none⟩) n sz ∧ n = 6 + tot ps k ∧ RowAt wr w.heap.size sz (bytesV (hdrB L ++ (ps.take k).flatten)) ∧ Below w.heap.size w wr) (fun _ i _ => ps.length - (intOf i).toNat)
      case atStart => exact ⟨0, 6, by omega, rfl, rfl, by simp [tot], Hr2.out, Hb2.out⟩
      case round =>
        clear Hr2 Hb2
        obtain ⟨k, n, hk, rfl, rfl, hn6, hrow, hb⟩ := hrel
        have hlen : (bytesV (hdrB L ++ (ps.take k).flatten)).length = n := by rw [bytesV_len, List.length_append, hn6]; rfl
        have htle := tot_le ps k
        have hll := Hl.out
        by_cases hlt : k < ps.length
        · obtain ⟨l, hl⟩ : ∃ l, ps[k]? = some l := ⟨_, List.getElem?_eq_getElem hlt⟩
          obtain ⟨q', cap', e, _, _, h3'⟩ := Hp.out.below hb
          simp only [Value.slice.injEq, true_and] at e
          obtain ⟨a, u, hqa, hcell, hu⟩ := h3' k l hl
          obtain rfl : q = some a := e.1.trans hqa
          have hsrc := hu.src
          have hts := tot_succ hl
          have htl2 := tot_le ps (k + 1)
          have hrm : (bytesV (hdrB L ++ (ps.take k).flatten)).length + (bytesV l).length ≤ sz := by rw [hlen, bytesV_len]; omega
          have hr := fun ty => run_append_in (P := Try.prog) (ty := ty) Try.underlying52 hi hz1 hrow n hlen.symm hsrc hrm
          have happ := hrow.app (bytesV l) hrm
          rw [hlen] at happ
          rw [bytesV_len] at hr
          have Hn6 := Lib.hid hn6
          have Happ : Hid (RowAt (wr.setCells w.heap.size n (bytesV l)) w.heap.size sz (bytesV (hdrB L ++ (ps.take (k + 1)).flatten))) := Lib.hid (by
            have e : bytesV (hdrB L ++ (ps.take (k + 1)).flatten) = bytesV (hdrB L ++ (ps.take k).flatten) ++ bytesV l := by rw [flat_take hl]; unfold bytesV; simp
            rw [e]; exact happ)
          have Hbb : Hid (Below w.heap.size w (wr.setCells w.heap.size n (bytesV l))) := Lib.hid (hb.trans ((Keeps.setCells (w := wr) w.heap.size n (bytesV l)).below hb.size (fun j hj e => by omega)))
          have Hts : Hid (n + l.length = 6 + tot ps (k + 1)) := Lib.hid (by rw [hn6, hts]; omega)
          have Hr := Lib.hid hr
          obtain ⟨q2, cap2, rfl, hq1, hq2, _⟩ := hu
          clear happ hr hrow hb hlen hn6 h3' e hqa hl hsrc hts htl2 hrm
          go_wp2_with (at_builtin; refine Lib.wpList_append_run _ rfl _ _ _ _ rfl _ _ rfl rfl _ _ (Hr.out _) ?_)
          go_roundw
          case rel => exact ⟨k + 1, n + l.length, by omega, by go_num, rfl, Hts.out, Happ.out, Hbb.out⟩
          case measure => simp [intOf]; omega
        · obtain rfl : k = ps.length := by omega
          rw [List.take_length] at hrow hlen
          have htl := Htl.out
          obtain ⟨m, hm⟩ : ∃ m : Nat, (sz : Int) - (n : Int) = (m : Int) := ⟨sz - n, by omega⟩
          have hnm : n + m = sz := by omega
          have hr := fun ty => run_append_zeros_in (P := Try.prog) (ty := ty) Try.underlying52 Try.underlying3 hi hz0 hz1 (by omega) rfl rfl hrow n hlen.symm m (by omega) (by omega)
          have happ := hrow.app (List.replicate m (.int .u8 0)) (by rw [List.length_replicate]; omega)
          rw [hlen] at happ
          rw [hnm] at hr
          have Hbody : Hid (bytesV (hdrB L ++ ps.flatten) ++ List.replicate m (.int .u8 0) = bytesV ([0, 0, 0, 0] ++ boxBody sz ps.flatten)) := Lib.hid (by
            have hL : L = ps.flatten.length := by rw [← Htot.out]
            have hm2 : m = sz - 6 - ps.flatten.length := by omega
            unfold hdrB boxBody
            rw [hm2, hL]
            unfold bytesV
            simp only [List.map_append, List.map_cons, List.map_replicate, List.cons_append, List.nil_append]
            rfl)
          rw [Hbody.out] at happ
          have Happ := Lib.hid happ
          have Hbb : Hid (Below w.heap.size w (wr.setCells w.heap.size n (List.replicate m (.int .u8 0)))) := Lib.hid (hb.trans ((Keeps.setCells (w := wr) w.heap.size n (List.replicate m (.int .u8 0))).below hb.size (fun j hj e => by omega)))
          have Hr := Lib.hid hr
          have hnb : ((n : Nat) : Int) ≤ 65536 := by omega
          clear happ hr hrow hb hlen hn6 hnm htle hll htl
          go_upto_region 19 with (at_builtin; refine Lib.wpList_append_run _ rfl _ _ _ _ rfl _ _ rfl rfl _ _ (Hr.out _) ?_)
          clear hm
          generalize wr.setCells w.heap.size n (List.replicate m (.int .u8 0)) = w3 at Happ Hbb ⊢
          have hB4 : Bytes w3 (.slice (some ⟨w.heap.size, 4, none⟩) (sz - 4) (sz - 4)) (boxBody sz ps.flatten) := by
            have := Bytes.from (Happ.out.bytes (by unfold maxLen; omega) : Bytes w3 (.slice (some ⟨w.heap.size, 0, none⟩) ([0, 0, 0, 0] ++ boxBody sz ps.flatten).length sz) _) 4 (by simp)
            have hlb : ([0, 0, 0, 0] ++ boxBody sz ps.flatten).length = sz := by rw [List.length_append, boxBody_len (by have := Hl.out; omega)]; simp; omega
            rw [hlb] at this
            have e : Option.map (fun x => x.add 4) (some (⟨w.heap.size, 0, none⟩ : Addr)) = some ⟨w.heap.size, 4, none⟩ := by rw [Option.map_some, Addr.add_mid]
            rw [e] at this
            exact this
          have hck := check_any (one_part hB4 52)
          rw [show [boxBody sz ps.flatten].flatten = boxBody sz ps.flatten from by simp] at hck
          have hs4 : ¬ sz = 4 := by omega
          have hs4' : (4 : Int) ≤ (sz : Int) := by omega
          clear hB4
          go_upto_region 20 with (go_at_call 117; (with_reducible refine hck.mono ?_); rintro _ _ ⟨rfl, rfl⟩; clear hck)
          have hal : Below w3.heap.size w3 (w3.alloc (.cells #[.slice (some ⟨w.heap.size, 4, none⟩) (sz - 4) (sz - 4)] 52)) := (Below.refl _ _).alloc (Nat.le_refl _) _
          have H4 := Lib.hid (Happ.out.below (by omega) hal)
          have Hb4 := Lib.hid (Hbb.out.trans (hal.mono Hbb.out.size))
          have hC := (crc (boxBody sz ps.flatten)).isLt
          have Hbx : Hid (boxOf sz ps.flatten = crcBytes (crc (boxBody sz ps.flatten)) ++ boxBody sz ps.flatten) := Lib.hid rfl
          have Hlen4 : Hid (4 ≤ ([0, 0, 0, 0] ++ boxBody sz ps.flatten).length) := Lib.hid (by simp)
          clear hal Happ Hbb
          generalize w3.alloc (.cells #[.slice (some ⟨w.heap.size, 4, none⟩) (sz - 4) (sz - 4)] 52) = w4 at H4 Hb4 ⊢
          unfold crcBytes at Hbx
          generalize (crc (boxBody sz ps.flatten)).toNat = C at hC Hbx ⊢
          generalize boxBody sz ps.flatten = bb at H4 Hbx Hlen4 ⊢
          have c0 := H4.out.at_ 0 _ (by rfl)
          have c1 := H4.out.at_ 1 _ (by rfl)
          have c2 := H4.out.at_ 2 _ (by rfl)
          have c3 := H4.out.at_ 3 _ (by rfl)
          have f0 := (H4.out.there 0 (by omega)).2
          have f1 := (H4.out.there 1 (by omega)).2
          have f2 := (H4.out.there 2 (by omega)).2
          have f3 := (H4.out.there 3 (by omega)).2
          have hlt0 : (0 : Int) < (sz : Int) := by omega
          have hlt1 : (1 : Int) < (sz : Int) := by omega
          have hlt2 : (2 : Int) < (sz : Int) := by omega
          have hlt3 : (3 : Int) < (sz : Int) := by omega
          go_wp2
          go_ret2
          have hl4 : 4 ≤ (bytesV ([0, 0, 0, 0] ++ bb)).length := by rw [bytesV_len]; exact Hlen4.out
          have e0 : Value.int .u8 ((C : Int) / 16777216) = byteV (UInt8.ofNat (C / 16777216)) := by rw [byteV_of (by omega)]; rfl
          have e1 : Value.int .u8 ((C : Int) / 65536 % 256) = byteV (UInt8.ofNat (C / 65536)) := by rw [byteV_mod]; rfl
          have e2 : Value.int .u8 ((C : Int) / 256 % 256) = byteV (UInt8.ofNat (C / 256)) := by rw [byteV_mod]; rfl
          have e3 : Value.int .u8 ((C : Int) % 256) = byteV (UInt8.ofNat C) := by rw [byteV_mod]
          refine ⟨w.heap.size, rfl, Nat.le_refl _, ?_, (((Hb4.out.setCell (Nat.le_refl _) _).setCell (Nat.le_refl _) _).setCell (Nat.le_refl _) _).setCell (Nat.le_refl _) _⟩
          rw [e0, e1, e2, e3, Hbx.out]
          exact (((H4.out.set 0 (by omega) _).set 1 (by rw [List.length_set]; omega) _).set 2 (by rw [List.length_set, List.length_set]; omega) _).set 3 (by rw [List.length_set, List.length_set, List.length_set]; omega) _
end Go.Proofs.Ytnficiohnhodiaa


/-
  Boxes: Unbox.
-/
namespace Go.Proofs.Ytnficiohnhodiaa
open Go.RowKit
theorem or_hi_lo (a b : Nat) (ha : a < 256) (hb : b < 256) : bits .or .i64 ((a : Int) * 256) (b : Int) = ((a * 256 + b : Nat) : Int) := by
  have hk : ∀ n : Int, 0 ≤ n → n < 2 ^ 62 → IntKind.i64.wrap n = n := fun n h0 h1 => by rw [IntKind.wrap_i64]; omega
  have h := (bits_nat .i64 62 (by decide) hk (a * 256) b (by omega) (by omega)).2
  rw [show (a : Int) * 256 = ((a * 256 : Nat) : Int) from by omega, h, nat_join 8 (a * 256) b (by omega) (by omega)]
theorem or_hi_lo' (a b : Nat) (ha : a < 256) (hb : b < 256) : bits .or .i64 (wrap64 (wrap64 (a : Int) * 256)) (wrap64 (b : Int)) = ((a * 256 + b : Nat) : Int) := by
  rw [show wrap64 (a : Int) = a from by unfold wrap64; omega, show wrap64 (b : Int) = b from by unfold wrap64; omega, show wrap64 ((a : Int) * 256) = (a : Int) * 256 from by unfold wrap64; omega, or_hi_lo a b ha hb]
theorem equal_any {w : World} {v1 v2 : Value} {a b : List UInt8} (h1 : Bytes w v1 a) (h2 : Bytes w v2 b) : Calls Try.prog 119 #[v1, v2] w fun e w' => e = .returned (.bool (a == b)) ∧ w = w' :=
  (Try.bytes_Equal_strs v1 v2 _ _ w (conv_bytes h1) (conv_bytes h2)).mono fun _ _ ⟨x, y⟩ => ⟨by rw [x]; unfold strB; rw [ByteArray.toList_mk, ByteArray.toList_mk], y.symm⟩
theorem Bytes.cell {w : World} {a : Addr} {n c : Nat} {l : List UInt8} (h : Bytes w (.slice (some a) n c) l) {j : Nat} {b : UInt8} (hb : l[j]? = some b) : w.cell? (a.add j) = some (.int .u8 (b.toNat : Int)) := by
  obtain ⟨q, cap, e, _, _, h3⟩ := h
  obtain ⟨a', e', hc⟩ := h3 j b hb
  cases e; cases e'; exact hc
def UnboxPost (l : List UInt8) (w : World) (e : Ending) (w' : World) : Prop :=
  (unbox l = none ∧ e = .returned (.tuple #[.slice none 0 0, .iface 74 (.int .i64 4)]) ∨ ∃ x q c, unbox l = some x ∧ e = .returned (.tuple #[.slice q x.length c, .nilIface]) ∧ SubRow w' w.heap.size (.slice q x.length c) (bytesV x)) ∧ Below w.heap.size w w'
set_option maxRecDepth 100000 in
set_option maxHeartbeats 1000000 in
theorem Unbox_any {w : World} {v : Value} {l : List UInt8} (h : Bytes w v l) : Calls Try.prog 98 #[v] w (UnboxPost l w) := by
  have hm := makeErr 4
  have hB := h
  obtain ⟨q, cap, rfl, h1, h2, h3⟩ := h
  have h2' := h2
  unfold maxLen at h2
  by_cases hbad : l.length < 6 ∨ 65536 < l.length
  · have hu : unbox l = none := by unfold unbox; rw [if_pos hbad]
    have Hu := Lib.hid hu
    have hor : ((l.length : Nat) : Int) < 6 ∨ ¬ ((l.length : Nat) : Int) < 6 ∧ (65536 : Int) < ((l.length : Nat) : Int) := by omega
    clear hB h3 hu
    rcases hor with h6 | ⟨h6, h6'⟩
    all_goals
      go_enter Try.func98, Try.ntmps98
      go_wp2
      go_ret2
      exact ⟨.inl ⟨Hu.out, rfl⟩, Below.refl _ _⟩
  · have h6 : ¬ ((l.length : Nat) : Int) < 6 := by omega
    have h6' : ¬ (65536 : Int) < ((l.length : Nat) : Int) := by omega
    obtain ⟨b4, hb4⟩ : ∃ b, l[4]? = some b := ⟨_, List.getElem?_eq_getElem (by omega)⟩
    obtain ⟨b5, hb5⟩ : ∃ b, l[5]? = some b := ⟨_, List.getElem?_eq_getElem (by omega)⟩
    obtain ⟨a, rfl, _⟩ := h3 4 b4 hb4
    have hsp := hB.spot (by omega)
    obtain ⟨ab, ao, sp⟩ := a
    cases hsp
    have c4 := hB.cell hb4
    have c5 := hB.cell hb5
    rw [Addr.add_mid] at c4 c5
    have f4 : w.drew.cell? ⟨ab, ao + 4, none⟩ = some (.int .u8 (b4.toNat : Int)) := c4
    have hN : boxN l = b4.toNat * 256 + b5.toNat := by unfold boxN; rw [List.getD_eq_getElem?_getD, List.getD_eq_getElem?_getD, hb4, hb5]; rfl
    have hor := or_hi_lo' b4.toNat b5.toNat b4.toNat_lt b5.toNat_lt
    have hl1 : (4 : Int) < ((l.length : Nat) : Int) := by omega
    have hl2 : (5 : Int) < ((l.length : Nat) : Int) := by omega
    rw [← hN] at hor
    clear h3 hb4 hb5 hN
    go_enter Try.func98, Try.ntmps98
    go_wp2
    go_quiet (fail)
    have hbd : Below w.heap.size w (w.drewN nq) := (Below.refl _ w).trans ⟨rfl, rfl, rfl, Nat.le_refl _, fun _ _ => rfl⟩
    have hB1 := hB.below hbd
    have hbd2 := Lib.hid hbd
    clear hor c4 c5 f4 hbd
    generalize hNN : boxN l = N
    generalize w.drewN nq = w1 at hB1 hbd2 ⊢
    by_cases hbig : l.length - 6 < N
    · have hu : unbox l = none := by unfold unbox; rw [if_neg hbad, if_pos (by rw [hNN]; exact hbig)]
      have hb' : ((l.length : Nat) : Int) - 6 < (N : Int) := by omega
      have Hu := Lib.hid hu
      clear hNN hbad hu hB hB1
      go_wp2
      go_ret2
      exact ⟨.inl ⟨Hu.out, rfl⟩, hbd2.out⟩
    · have hle : (N : Int) ≤ ((l.length : Nat) : Int) - 6 := by omega
      have hlt : ((l.drop 6).take N).length = N := by rw [List.length_take, List.length_drop]; omega
      have Hu : Hid (unbox l = if boxOf l.length ((l.drop 6).take N) = l then some ((l.drop 6).take N) else none) := Lib.hid (by unfold unbox; rw [if_neg hbad, if_neg (by rw [hNN]; omega), hNN])
      have hS := hB1.sub 6 N (by omega)
      have hcl : ∀ v, v = Value.slice (if cap = 6 then some ⟨ab, ao, none⟩ else some ⟨ab, ao + 6, none⟩) N (cap - 6) → Calls Try.prog 59 #[v] w1 fun e w' => ∃ q c, e = .returned (.slice q N c) ∧ SubRow w' w1.heap.size (.slice q N c) (bytesV ((l.drop 6).take N)) ∧ Below w1.heap.size w1 w' := by
        rintro v rfl
        have e : (Option.map (fun x => x.add 6) (some (⟨ab, ao, none⟩ : Addr))) = some ⟨ab, ao + 6, none⟩ := by rw [Option.map_some, Addr.add_mid]
        rw [e] at hS
        refine (clone_any hS (by omega)).mono fun _ _ ⟨v', h1, h2, h3⟩ => ?_
        obtain ⟨q', c', rfl, _⟩ := h2.form
        rw [bytesV_len, hlt] at h1 h2
        exact ⟨q', c', h1, h2, h3⟩
      have Hh : Hid (N + 6 ≤ l.length ∧ l.length ≤ 65536 ∧ 6 ≤ l.length ∧ ((l.drop 6).take N).length = N) := Lib.hid ⟨by omega, by omega, by omega, hlt⟩
      have HB1 := Lib.hid hB1
      have Hcl := Lib.hid hcl
      clear hNN hbad hB hB1 hS hlt hcl
      generalize hin : (l.drop 6).take N = x at Hu Hcl Hh
      clear hin
      have hC := Hcl.out _ rfl
      clear Hcl
      obtain ⟨X1, hX1⟩ : ∃ X, (if cap = 6 then some (⟨ab, ao, none⟩ : Addr) else some ⟨ab, ao + 6, none⟩) = X := ⟨_, rfl⟩
      rw [hX1] at hC
      go_upto_region 7 with (go_at_call 59; (with_reducible refine hC.mono ?_); rintro _ w2 ⟨q2, cc2, rfl, s2, b2⟩; clear hC)
      have hbox := Box_ok (sz := l.length) (one_part (Bytes.of_sub (by rw [← Hh.out.2.2.2] at s2; exact s2)) 52) Hh.out.2.2.1 Hh.out.2.1 (by have := Hh.out; simp; omega) (by simp)
      rw [show [x].flatten = x from by simp, Hh.out.2.2.2] at hbox
      have HS := Lib.hid s2
      have Hb2 := Lib.hid (hbd2.out.trans (b2.mono hbd2.out.size))
      have HB2 := Lib.hid (HB1.out.below b2)
      clear s2 b2
      go_upto_region 8 with (go_at_call 95; (with_reducible refine hbox.mono ?_); rintro _ w3 ⟨g, rfl, hg, hrow, b3⟩; clear hbox)
      have ba : Below w2.heap.size w2 w3 := ((Below.refl _ w2).alloc (Nat.le_refl _) _).trans (b3.mono (by simp))
      have heq := equal_any (w := w3) (hrow.bytes (by have := Hh.out; unfold maxLen; omega) : Bytes w3 (.slice (some ⟨g, 0, none⟩) (boxOf l.length x).length l.length) _) (HB2.out.below ba)
      rw [boxOf_len (by have := Hh.out; omega)] at heq
      have HS3 := Lib.hid (HS.out.below ba)
      have Hb3 := Lib.hid (Hb2.out.trans (ba.mono Hb2.out.size))
      have Hsz := Lib.hid hbd2.out.size
      clear ba b3 hrow hg
      by_cases hE : boxOf l.length x = l
      · have hu : unbox l = some x := by rw [Hu.out, if_pos hE]
        have hE' : (boxOf l.length x == l) = true := by simpa using hE
        rw [hE'] at heq
        have Hux := Lib.hid hu
        clear hE hE' hu
        go_wp2_with (go_at_call 119; (with_reducible refine heq.mono ?_); rintro _ _ ⟨rfl, rfl⟩; clear heq)
        go_ret2
        refine ⟨.inr ⟨x, q2, cc2, Hux.out, ?_, ?_⟩, Hb3.out⟩
        · rw [Hh.out.2.2.2]; rfl
        · rw [Hh.out.2.2.2]; exact HS3.out.weaken Hsz.out
      · have hu : unbox l = none := by rw [Hu.out, if_neg hE]
        have hE' : (boxOf l.length x == l) = false := by simpa using hE
        rw [hE'] at heq
        have Hux := Lib.hid hu
        clear hE hE' hu
        go_wp2_with (go_at_call 119; (with_reducible refine heq.mono ?_); rintro _ _ ⟨rfl, rfl⟩; clear heq)
        go_ret2
        exact ⟨.inl ⟨Hux.out, rfl⟩, Hb3.out⟩
end Go.Proofs.Ytnficiohnhodiaa
