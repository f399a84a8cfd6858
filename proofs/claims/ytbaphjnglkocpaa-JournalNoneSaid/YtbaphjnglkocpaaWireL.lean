import Derived.WalkKit
/-
  Numbers, rows and boxes as bytes: the plain law.
-/
namespace Go.Proofs.Ytbaphjnglkocpaa
/-- a number with its sign lowest -/
def zig (n : Int) : Nat := if 0 ≤ n then (2 * n).toNat else (-2 * n - 1).toNat
def zag (u : Nat) : Int := if u % 2 = 0 then ((u / 2 : Nat) : Int) else -((u / 2 : Nat) : Int) - 1
theorem zag_zig (n : Int) : zag (zig n) = n := by
  unfold zig zag; split <;> split <;> omega
theorem zig_zag (u : Nat) : zig (zag u) = u := by
  unfold zig zag; split <;> split <;> omega
theorem zig_lt {n : Int} (h1 : -9223372036854775808 ≤ n) (h2 : n ≤ 9223372036854775807) : zig n < 18446744073709551616 := by
  unfold zig; split <;> omega
theorem zag_rng {u : Nat} (h : u < 18446744073709551616) : -9223372036854775808 ≤ zag u ∧ zag u ≤ 9223372036854775807 := by
  unfold zag; split <;> omega
def vint : Nat → Nat → List UInt8
  | 0, _ => []
  | f + 1, u => if u < 128 then [UInt8.ofNat u] else UInt8.ofNat (u % 128 + 128) :: vint f (u / 128)
def num (n : Int) : List UInt8 := vint 10 (zig n)
def nums (l : List Int) : List UInt8 := (l.map num).flatten
def rowB (r : List UInt8) : List UInt8 := num r.length ++ r
theorem nums_append (a b : List Int) : nums (a ++ b) = nums a ++ nums b := by unfold nums; simp
theorem nums_take {l : List Int} {k : Nat} {x : Int} (h : l[k]? = some x) : nums (l.take (k + 1)) = nums (l.take k) ++ num x := by
  rw [List.take_add_one, h, nums_append]; simp [nums]
theorem vint_len (f u : Nat) : (vint f u).length ≤ f := by
  induction f generalizing u with
  | zero => simp [vint]
  | succ f ih =>
    unfold vint; split
    · simp
    · have := ih (u / 128); simp; omega
theorem num_len (n : Int) : (num n).length ≤ 10 := vint_len 10 _
theorem vint_pos (f u : Nat) : 0 < (vint (f + 1) u).length := by unfold vint; split <;> simp
theorem num_pos (n : Int) : 0 < (num n).length := vint_pos 9 _
theorem nums_len (l : List Int) : (nums l).length ≤ 10 * l.length := by
  induction l with
  | nil => simp [nums]
  | cons x l ih =>
    have h := num_len x
    have e : nums (x :: l) = num x ++ nums l := rfl
    rw [e, List.length_append, List.length_cons]; omega
/-- the number that bytes begin with, from a place on -/
def takeF (i u : Nat) : List UInt8 → Option (Nat × Nat)
  | [] => none
  | c :: l => if 10 ≤ i then none else if i = 9 ∧ 1 < c.toNat then none else
    if c.toNat < 128 then (if c.toNat = 0 ∧ 0 < i then none else some (u + c.toNat * 128 ^ i, i + 1)) else takeF (i + 1) (u + c.toNat % 128 * 128 ^ i) l
def takeN (b : List UInt8) : Option (Int × Nat) := (takeF 0 0 b).map fun p => (zag p.1, p.2)
theorem ofNat_toNat {n : Nat} (h : n < 256) : (UInt8.ofNat n).toNat = n := by
  rw [UInt8.toNat_ofNat']; exact Nat.mod_eq_of_lt h
theorem takeF_vint (f : Nat) : ∀ (i u v : Nat) (rest : List UInt8), i + f ≤ 10 → 0 < f → (0 < i → 0 < u) → u < 128 ^ f → (u * 128 ^ i < 18446744073709551616) → takeF i v (vint f u ++ rest) = some (v + u * 128 ^ i, i + (vint f u).length) := by
  induction f with
  | zero => intro i u v rest _ h; omega
  | succ f ih =>
    intro i u v rest hi _ h0 hu hb
    unfold vint
    have h9 : i = 9 → u ≤ 1 := by
      intro e; subst e
      have : (128 : Nat) ^ 9 = 9223372036854775808 := by decide
      rw [this] at hb; omega
    by_cases h : u < 128
    · rw [if_pos h]
      simp only [List.cons_append, List.nil_append, takeF, List.length_cons, List.length_nil]
      rw [if_neg (by omega), ofNat_toNat (by omega), if_neg (by rintro ⟨a, b⟩; have := h9 a; omega), if_pos h, if_neg (by rintro ⟨a, b⟩; have := h0 b; omega)]
    · rw [if_neg h]
      simp only [List.cons_append, takeF, List.length_cons]
      have hn9 : i ≠ 9 := fun e => by have := h9 e; omega
      rw [if_neg (by omega), ofNat_toNat (by omega), if_neg (by rintro ⟨a, b⟩; exact hn9 a), if_neg (by omega)]
      have hm : (u % 128 + 128) % 128 = u % 128 := by omega
      have hp : u / 128 * 128 ^ (i + 1) + u % 128 * 128 ^ i = u * 128 ^ i := by
        rw [Nat.pow_succ, Nat.mul_comm (128 ^ i) 128, ← Nat.mul_assoc, ← Nat.add_mul]
        congr 1; omega
      rw [hm, ih (i + 1) (u / 128) _ rest (by omega) ?_ (by omega) ?_ ?_]
      · congr 1
        refine Prod.ext ?_ ?_ <;> simp only []
        · omega
        · omega
      · rcases f with _ | f
        · rw [Nat.zero_add, Nat.pow_one] at hu; omega
        · omega
      · rw [Nat.pow_succ] at hu; omega
      · omega
theorem takeN_num (n : Int) (rest : List UInt8) (h1 : -9223372036854775808 ≤ n) (h2 : n ≤ 9223372036854775807) : takeN (num n ++ rest) = some (n, (num n).length) := by
  unfold takeN num
  have hz := zig_lt h1 h2
  rw [takeF_vint 10 0 (zig n) 0 rest (by omega) (by omega) (by omega) (by have : (128 : Nat) ^ 10 = 1180591620717411303424 := by decide
                                                                          omega) (by omega)]
  simp [zag_zig]
theorem takeF_len (l : List UInt8) : ∀ (i u : Nat) (p : Nat × Nat), takeF i u l = some p → i < p.2 ∧ p.2 ≤ i + l.length ∧ p.2 ≤ 10 := by
  induction l with
  | nil => intro i u p h; cases h
  | cons c l ih =>
    intro i u p h
    simp only [takeF] at h
    split at h
    · cases h
    · split at h
      · cases h
      · split at h
        · split at h
          · cases h
          · cases h; simp; omega
        · have := ih _ _ _ h; simp; omega
theorem takeN_len {l : List UInt8} {n : Int} {k : Nat} (h : takeN l = some (n, k)) : 0 < k ∧ k ≤ l.length ∧ k ≤ 10 := by
  unfold takeN at h
  obtain ⟨p, hp, e⟩ := Option.map_eq_some_iff.1 h
  cases e
  have := takeF_len l _ _ _ hp; omega
theorem takeF_rng (l : List UInt8) : ∀ (i u : Nat) (p : Nat × Nat), i ≤ 10 → u < 128 ^ i → takeF i u l = some p → p.1 < 18446744073709551616 := by
  induction l with
  | nil => intro i u p _ _ h; cases h
  | cons c l ih =>
    intro i u p hi hu h
    simp only [takeF] at h
    split at h
    · cases h
    · split at h
      · cases h
      · rename_i h10 h9
        split at h
        · rename_i hc
          split at h
          · cases h
          · cases h
            simp only []
            have hle : c.toNat * 128 ^ i ≤ 127 * 128 ^ i := Nat.mul_le_mul_right _ (by omega)
            by_cases e : i = 9
            · subst e
              have : c.toNat ≤ 1 := by omega
              have e9 : (128 : Nat) ^ 9 = 9223372036854775808 := by decide
              rw [e9] at hu ⊢; omega
            · have h8 : (128 : Nat) ^ i ≤ 128 ^ 8 := Nat.pow_le_pow_right (by omega) (by omega)
              have e8 : (128 : Nat) ^ 8 = 72057594037927936 := by decide
              omega
        · refine ih (i + 1) _ p (by omega) ?_ h
          rw [Nat.pow_succ]
          have : c.toNat % 128 * 128 ^ i ≤ 127 * 128 ^ i := Nat.mul_le_mul_right _ (by omega)
          omega
theorem takeN_rng {l : List UInt8} {n : Int} {k : Nat} (h : takeN l = some (n, k)) : -9223372036854775808 ≤ n ∧ n ≤ 9223372036854775807 := by
  unfold takeN at h
  obtain ⟨p, hp, e⟩ := Option.map_eq_some_iff.1 h
  cases e
  exact zag_rng (takeF_rng l 0 0 p (by omega) (by omega) hp)
/-! CRC-32 -/
def crcBit (r : BitVec 32) : BitVec 32 := if r &&& 1#32 = 1#32 then (r >>> 1) ^^^ 0xedb88320#32 else r >>> 1
def crcBits : Nat → BitVec 32 → BitVec 32
  | 0, r => r
  | n + 1, r => crcBits n (crcBit r)
theorem crcBits_succ (n : Nat) (r : BitVec 32) : crcBits (n + 1) r = crcBit (crcBits n r) := by
  induction n generalizing r with
  | zero => rfl
  | succ n ih => rw [crcBits, ih]; rfl
def crcByte (r : BitVec 32) (b : UInt8) : BitVec 32 := crcBits 8 (r ^^^ BitVec.ofNat 32 b.toNat)
def crcReg (l : List UInt8) : BitVec 32 := l.foldl crcByte 0xffffffff#32
def crc (l : List UInt8) : BitVec 32 := ~~~ crcReg l
def crcBytes (c : BitVec 32) : List UInt8 := [UInt8.ofNat (c.toNat / 16777216), UInt8.ofNat (c.toNat / 65536), UInt8.ofNat (c.toNat / 256), UInt8.ofNat c.toNat]
/-! boxes -/
def boxBody (size : Nat) (l : List UInt8) : List UInt8 := UInt8.ofNat (l.length / 256) :: UInt8.ofNat l.length :: (l ++ List.replicate (size - 6 - l.length) 0)
def boxOf (size : Nat) (l : List UInt8) : List UInt8 := crcBytes (crc (boxBody size l)) ++ boxBody size l
def boxErr (size : Int) (l : List UInt8) : Int := if size < 6 ∨ 65536 < size then 1 else if size - 6 < l.length ∨ 65535 < l.length then 2 else 0
theorem boxBody_len {size : Nat} {l : List UInt8} (h : l.length + 6 ≤ size) : (boxBody size l).length = size - 4 := by unfold boxBody; simp; omega
theorem boxOf_len {size : Nat} {l : List UInt8} (h : l.length + 6 ≤ size) : (boxOf size l).length = size := by
  unfold boxOf; rw [List.length_append, boxBody_len h]; simp [crcBytes]; omega
def boxN (b : List UInt8) : Nat := (b.getD 4 0).toNat * 256 + (b.getD 5 0).toNat
def unbox (b : List UInt8) : Option (List UInt8) :=
  if b.length < 6 ∨ 65536 < b.length then none else if b.length - 6 < boxN b then none else
    if boxOf b.length ((b.drop 6).take (boxN b)) = b then some ((b.drop 6).take (boxN b)) else none
theorem boxN_of {size : Nat} {l : List UInt8} (h : l.length + 6 ≤ size) (hs : size ≤ 65536) : boxN (boxOf size l) = l.length := by
  unfold boxN boxOf boxBody crcBytes
  simp only [List.cons_append, List.nil_append, List.getD_cons_succ, List.getD_cons_zero]
  rw [ofNat_toNat (by omega), UInt8.toNat_ofNat']; omega
theorem box_in {size : Nat} {l : List UInt8} : ((boxOf size l).drop 6).take l.length = l := by
  unfold boxOf boxBody crcBytes
  simp
theorem unbox_box {size : Nat} {l : List UInt8} (h : l.length + 6 ≤ size) (hs : size ≤ 65536) : unbox (boxOf size l) = some l := by
  have hl := boxOf_len h
  unfold unbox
  rw [hl, boxN_of h hs, if_neg (by omega), if_neg (by omega), box_in, if_pos rfl]
theorem unbox_some {b l : List UInt8} (h : unbox b = some l) : l.length + 6 ≤ b.length ∧ b.length ≤ 65536 ∧ boxOf b.length l = b := by
  unfold unbox at h
  split at h
  · cases h
  · split at h
    · cases h
    · split at h
      · rename_i h1 h2 h3
        cases h
        refine ⟨?_, by omega, h3⟩
        rw [List.length_take, List.length_drop]; omega
      · cases h
end Go.Proofs.Ytbaphjnglkocpaa
