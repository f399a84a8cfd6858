import Derived.Test.YtbaphjnglkocpaaDev
import Derived.Test.YtbaphjnglkocpaaWireL
import Derived.Laws.Bits128
import Derived.Laws.BitsAllLaws
/-
  Numbers as bytes: turned, put, Put, PutRow.
-/
namespace Go.Proofs.Ytbaphjnglkocpaa
open Go.RowKit
theorem xor_ones (a : Nat) (h : a < 18446744073709551616) : a ^^^ 18446744073709551615 = 18446744073709551615 - a := by
  have h1 := BitVec.toNat_not (x := BitVec.ofNat 64 a)
  rw [BitVec.not_def, BitVec.toNat_xor, BitVec.toNat_allOnes, BitVec.toNat_ofNat, Nat.mod_eq_of_lt h] at h1
  rw [Nat.xor_comm]
  exact h1
theorem turned_eq (n : Int) (h1 : -9223372036854775808 ≤ n) (h2 : n ≤ 9223372036854775807) :
    bits .xor .u64 (IntKind.u64.wrap (IntKind.u64.wrap n * 2)) (IntKind.u64.wrap (n / 9223372036854775808)) = (zig n : Nat) := by
  rw [IntKind.wrap_u64, IntKind.wrap_u64, IntKind.wrap_u64]
  unfold zig
  by_cases h : 0 ≤ n
  · rw [if_pos h, show n % 18446744073709551616 * 2 % 18446744073709551616 = (((2 * n).toNat : Nat) : Int) from by omega, show n / 9223372036854775808 % 18446744073709551616 = ((0 : Nat) : Int) from by omega,
      u64_xor_nat _ _ (by omega) (by omega), Nat.xor_zero]
  · rw [if_neg h, show n % 18446744073709551616 * 2 % 18446744073709551616 = (((2 * n + 18446744073709551616).toNat : Nat) : Int) from by omega, show n / 9223372036854775808 % 18446744073709551616 = ((18446744073709551615 : Nat) : Int) from by omega,
      u64_xor_nat _ _ (by omega) (by omega), xor_ones _ (by omega)]
    omega
theorem turned_any (n : Int) (w : World) (h1 : -9223372036854775808 ≤ n) (h2 : n ≤ 9223372036854775807) :
    Calls Try.prog 124 #[.int .i64 n] w fun e w' => e = .returned (.int .u64 (zig n : Nat)) ∧ w = w' := by
  have He := Lib.hid (turned_eq n h1 h2)
  go_enter Try.func124, Try.ntmps124
  go_wp2
  go_ret
  exact ⟨by rw [← He.out]; rfl, rfl⟩
/-- slices.Clone of bytes, of whatever memory -/
theorem clone_nil (w : World) (cap : Nat) : Calls Try.prog 55 #[.slice none 0 cap] w fun e w' => e = .returned (.slice none 0 0) ∧ w = w' := by
  have hq : (binOp .eql 39 (.slice none 0 cap) (.slice none 0 0)).run Try.prog w = .ok (.bool true) w := by kernel_rfl
  go_enter Try.func55, Try.ntmps55
  go_wp2
  go_ret
  exact ⟨rfl, rfl⟩
theorem clone_any {w : World} {v : Value} {l : List UInt8} (h : Bytes w v l) (hl : l.length ≤ 1000000000000) :
    Calls Try.prog 55 #[v] w fun e w' => ∃ v', e = .returned v' ∧ SubRow w' w.heap.size v' (bytesV l) ∧ Below w.heap.size w w' := by
  obtain ⟨q, cap, rfl, h1, h2, h3⟩ := h
  cases q with
  | none =>
    have : l = [] := by
      cases l with
      | nil => rfl
      | cons b l => obtain ⟨a, e, _⟩ := h3 0 b rfl; cases e
    subst this
    exact (clone_nil w cap).mono fun _ _ ⟨a, b⟩ => ⟨_, a, .inl ⟨rfl, rfl⟩, b ▸ Below.refl _ _⟩
  | some a => exact clone_bytes w a cap l hl (fun j b hb => by obtain ⟨a', e, hc⟩ := h3 j b hb; cases e; exact hc)
/-- the same, the result's shape told -/
theorem clone_form {w : World} {v : Value} {l : List UInt8} (h : Bytes w v l) (hl : l.length ≤ 1000000000000) :
    Calls Try.prog 55 #[v] w fun e w' => ∃ q n c, e = .returned (.slice q n c) ∧ SubRow w' w.heap.size (.slice q n c) (bytesV l) ∧ Below w.heap.size w w' :=
  (clone_any h hl).mono fun _ _ ⟨v', h1, h2, h3⟩ => by
    obtain ⟨q, c, rfl, _⟩ := h2.form
    exact ⟨q, _, c, h1, h2, h3⟩
theorem clone_len {w : World} {v : Value} {l : List UInt8} (h : Bytes w v l) (hl : l.length ≤ 1000000000000) :
    Calls Try.prog 55 #[v] w fun e w' => ∃ q c, e = .returned (.slice q l.length c) ∧ SubRow w' w.heap.size (.slice q l.length c) (bytesV l) ∧ Below w.heap.size w w' :=
  (clone_any h hl).mono fun _ _ ⟨v', h1, h2, h3⟩ => by
    obtain ⟨q, c, rfl, _⟩ := h2.form
    rw [bytesV_len] at h1 h2
    exact ⟨q, c, h1, h2, h3⟩
/-- a slice of one cell, as it is built ahead of an append -/
theorem src_one {P : Program} {w : World} {t e : TypeId} (ht : P.underlying t = some (.slice e)) (x : Value) (hx : x.oneCell' = true) (T : TypeId) : Src P 1 t (.slice (some ⟨w.heap.size, 0, none⟩) 1 1) [x].length [x] (w.alloc (.cells #[x] T)) := by
  refine Src.ofSlice _ ht ⟨w.heap.size, 0, none⟩ 1 1 _ (by simp) (fun j u hu => ?_) (fun u hu => by simp at hu; subst hu; exact hx)
  cases j with
  | zero => simp at hu; subst hu; exact cell_in (heap_alloc_new w _) rfl
  | succ j => simp at hu
theorem or128 : ∀ x : Fin 256, (x.val ||| 128) = x.val % 128 + 128 := by decide +kernel
theorem low_hi (m : Nat) : bits .or .u8 (IntKind.u8.wrap (m : Int)) 128 = ((m % 128 + 128 : Nat) : Int) := by
  rw [IntKind.wrap_u8, show (m : Int) % 256 = ((m % 256 : Nat) : Int) from by omega]
  rw [show (128 : Int) = ((128 : Nat) : Int) from rfl, u8_or_nat _ _ (by omega) (by omega), or128 ⟨m % 256, by omega⟩]
  simp only []
  omega
theorem byteV_of {n : Nat} (h : n < 256) : byteV (UInt8.ofNat n) = .int .u8 (n : Int) := by unfold byteV; rw [ofNat_toNat h]
theorem vint_lo {f u : Nat} (h : u < 128) : vint (f + 1) u = [UInt8.ofNat u] := by rw [vint, if_pos h]
theorem vint_hi {f u : Nat} (h : ¬ u < 128) : vint (f + 1) u = UInt8.ofNat (u % 128 + 128) :: vint f (u / 128) := by rw [vint, if_neg h]
def int64 (n : Int) : Prop := -9223372036854775808 ≤ n ∧ n ≤ 9223372036854775807
set_option maxRecDepth 100000 in
set_option maxHeartbeats 4000000 in
theorem put_own {w0 w : World} {v ns : Value} {l : List UInt8} {xs : List Int} (hb : Below w0.heap.size w0 w) (hv : SubRow w w0.heap.size v (bytesV l)) (hn : Ints w0 ns xs) (hx : ∀ x ∈ xs, int64 x) (hl : l.length ≤ 1000000000000) (hk : xs.length ≤ 1000000) :
    Calls Try.prog 110 #[v, ns] w fun e w' => ∃ v', e = .returned v' ∧ SubRow w' w0.heap.size v' (bytesV (l ++ nums xs)) ∧ Below w0.heap.size w0 w' := by
  obtain ⟨i0, hi, hz0, hz1, hz2⟩ := info_parts info8
  have Hn := Lib.hid hn
  obtain ⟨q, cap, rfl, hc1, hc2, _⟩ := hn
  have Hx := Lib.hid hx
  have Hl := Lib.hid hl
  have Hk := Lib.hid hk
  clear hx hl hk
  go_enter Try.func110, Try.ntmps110
  go_wp2
  go_loopw [0, 10] (fun o i wr => ∃ k : Nat, k ≤ xs.length ∧ i = .int .i64 k ∧ SubRow wr w0.heap.size o (bytesV (l ++ nums (xs.take k))) ∧ Below w0.heap.size w0 wr) (fun _ i _ => xs.length - (intOf i).toNat)
  case atStart => exact ⟨0, Nat.zero_le _, rfl, by simpa [nums] using hv, hb⟩
  case round =>
    clear hv hb
    obtain ⟨k, hk, rfl, hv, hb⟩ := hrel
    by_cases hlt : k < xs.length
    · obtain ⟨x, hx⟩ : ∃ x, xs[k]? = some x := ⟨_, List.getElem?_eq_getElem hlt⟩
      obtain ⟨q', cap', e, _, _, h3⟩ := Hn.out.below hb
      obtain ⟨nb, no, hq, hcell⟩ := h3 k x hx
      simp only [Value.slice.injEq] at e
      obtain rfl : q = some ⟨nb, no, none⟩ := e.1.trans hq
      have hx64 := Hx.out x (List.mem_of_getElem? hx)
      have Ht := Lib.hid (turned_any x wr hx64.1 hx64.2)
      have Hz := Lib.hid (zig_lt hx64.1 hx64.2)
      have Hnt := Lib.hid (nums_take hx)
      have hv0 := hv
      have hkb : (k : Int) ≤ 1000000 := by have := Hk.out; omega
      clear e hq h3 hx hx64
      go_wp2_with (go_at_call 124; (with_reducible refine Ht.out.mono ?_); rintro _ _ ⟨rfl, rfl⟩)
      clear hcell
      have hst : ∃ (f m : Nat) (done : List UInt8), 0 < f ∧ f ≤ 10 ∧ m < 128 ^ f ∧ Value.int .u64 (zig x : Nat) = .int .u64 m ∧ m < 18446744073709551616 ∧ l ++ nums (xs.take (k + 1)) = done ++ vint f m ∧ SubRow wr w0.heap.size u0 (bytesV done) ∧ Below w0.heap.size w0 wr :=
        ⟨10, zig x, l ++ nums (xs.take k), by omega, by omega, Nat.lt_trans Hz.out (by decide), rfl, Hz.out, by rw [Hnt.out, List.append_assoc]; rfl, hv, hb⟩
      clear hv hb hv0
      go_loopw [0, 7] (fun o u wr => ∃ (f m : Nat) (done : List UInt8), 0 < f ∧ f ≤ 10 ∧ m < 128 ^ f ∧ u = .int .u64 m ∧ m < 18446744073709551616 ∧ l ++ nums (xs.take (k + 1)) = done ++ vint f m ∧ SubRow wr w0.heap.size o (bytesV done) ∧ Below w0.heap.size w0 wr) (fun _ u _ => (intOf u).toNat)
      case atStart => exact hst
      case round =>
        clear hst
        obtain ⟨f, m, done, hf, hf10, hm, rfl, hm64, heq, hv, hb⟩ := hrel
        have hlen : done.length ≤ 1000010000000 := by
          have h1 := congrArg List.length heq
          rw [List.length_append, List.length_append] at h1
          have h2 := nums_len (xs.take (k + 1))
          rw [List.length_take] at h2
          have := Hl.out; have := Hk.out
          omega
        have Heq := Lib.hid heq
        have Hlen : Hid ((bytesV done).length ≤ 1000010000000) := Lib.hid (by rw [bytesV_len]; exact hlen)
        have hbs := hb.size
        have Hm := Lib.hid hm
        clear heq hlen hm
        by_cases h128 : m < 128
        · obtain ⟨g, rfl⟩ : ∃ g, f = g + 1 := ⟨f - 1, by omega⟩
          have Hvi : Hid (vint (g + 1) m = [UInt8.ofNat m]) := Lib.hid (vint_lo h128)
          have Hbv : Hid (bytesV done ++ [.int .u8 (m : Int)] = bytesV (done ++ [UInt8.ofNat m])) := Lib.hid (by unfold bytesV; rw [List.map_append, List.map_cons, byteV_of (by omega)]; rfl)
          go_wp2_with (at_builtin; refine wpList_append_sub _ rfl _ _ 39 rfl 5 i0 (.int .u8 0) 1 Try.underlying39 hi hz0 hz1 hz2 rfl w0.heap.size _ (bytesV done) rfl (hv.below ((Below.refl _ _).alloc (Nat.le_refl _) _)) _ rfl [.int .u8 (m : Int)] (src_one Try.underlying39 _ rfl _) (by have := Hlen.out; simp; unfold maxLen; omega) (by have := Hlen.out; simp; omega) (by simp; omega) ?_; intro v' w7 h7 hk7 hn7)
          have hlt7 := hv.lt
          have hb7 : Below w0.heap.size w0 w7 := (hb.alloc hbs _).trans (hk7.below (by simp; omega) (fun j hj e => by have := (hlt7 j e).1; omega))
          rw [Hbv.out, ← Hvi.out, ← Heq.out] at h7
          clear hk7 hn7 hlt7 hv hb
          go_roundw
          case rel => exact ⟨k + 1, by omega, by go_num, h7, hb7⟩
          case measure => simp [intOf]; omega
        · obtain ⟨g, rfl⟩ : ∃ g, f = g + 1 := ⟨f - 1, by omega⟩
          have Hvi : Hid (vint (g + 1) m = UInt8.ofNat (m % 128 + 128) :: vint g (m / 128)) := Lib.hid (vint_hi h128)
          have Hbv : Hid (bytesV done ++ [.int .u8 (bits .or .u8 (IntKind.u8.wrap (m : Int)) 128)] = bytesV (done ++ [UInt8.ofNat (m % 128 + 128)])) := Lib.hid (by unfold bytesV; rw [List.map_append, List.map_cons, byteV_of (by omega), low_hi]; rfl)
          go_wp2_with (at_builtin; refine wpList_append_sub _ rfl _ _ 39 rfl 5 i0 (.int .u8 0) 1 Try.underlying39 hi hz0 hz1 hz2 rfl w0.heap.size _ (bytesV done) rfl (hv.below ((Below.refl _ _).alloc (Nat.le_refl _) _)) _ rfl [.int .u8 (bits .or .u8 (IntKind.u8.wrap (m : Int)) 128)] (src_one Try.underlying39 _ rfl _) (by have := Hlen.out; simp; unfold maxLen; omega) (by have := Hlen.out; simp; omega) (by simp; omega) ?_; intro v' w7 h7 hk7 hn7)
          have hlt7 := hv.lt
          have hb7 : Below w0.heap.size w0 w7 := (hb.alloc hbs _).trans (hk7.below (by simp; omega) (fun j hj e => by have := (hlt7 j e).1; omega))
          rw [Hbv.out] at h7
          clear hk7 hn7 hlt7 hv hb
          go_wp2
          go_roundw
          case rel =>
            refine ⟨g, m / 128, _, ?_, by omega, ?_, by go_num, by omega, ?_, h7, hb7⟩
            · rcases g with _ | g
              · have := Hm.out; rw [Nat.zero_add, Nat.pow_one] at this; omega
              · omega
            · have := Hm.out; rw [Nat.pow_succ] at this; omega
            · rw [Heq.out, Hvi.out]; simp
          case measure => simp [intOf]; omega
    · obtain rfl : k = xs.length := by omega
      rw [List.take_length] at hv
      go_wp2
      go_ret
      exact ⟨_, rfl, hv, hb⟩
theorem ints_one {w : World} (n : Int) (T : TypeId) : Ints (w.alloc (.cells #[.int .i64 n] T)) (.slice (some ⟨w.heap.size, 0, none⟩) 1 1) [n] :=
  ⟨_, 1, rfl, Nat.le_refl _, by unfold maxLen; omega, fun j x hx => by
    cases j with
    | zero => simp at hx; subst hx; exact ⟨_, 0, rfl, cell_in (heap_alloc_new w _) rfl⟩
    | succ j => simp at hx⟩
theorem ints_three {w : World} (a b c : Int) (T : TypeId) : Ints (w.alloc (.cells #[.int .i64 a, .int .i64 b, .int .i64 c] T)) (.slice (some ⟨w.heap.size, 0, none⟩) 3 3) [a, b, c] :=
  ⟨_, 3, rfl, Nat.le_refl _, by unfold maxLen; omega, fun j x hx => by
    match j with
    | 0 => simp at hx; subst hx; exact ⟨_, 0, rfl, cell_in (heap_alloc_new w _) rfl⟩
    | 1 => simp at hx; subst hx; exact ⟨_, 0, rfl, cell_in (heap_alloc_new w _) rfl⟩
    | 2 => simp at hx; subst hx; exact ⟨_, 0, rfl, cell_in (heap_alloc_new w _) rfl⟩
    | j + 3 => simp at hx⟩
theorem Bytes.nil {w : World} : Bytes w (.slice none 0 0) [] := ⟨none, 0, rfl, Nat.le_refl _, Nat.zero_le _, fun j b hb => by simp at hb⟩
theorem Bytes.alloc {w : World} {v : Value} {l : List UInt8} (h : Bytes w v l) (o : Obj) : Bytes (w.alloc o) v l := h.below ((Below.refl _ _).alloc (Nat.le_refl _) _)
theorem put_any {w : World} {out ns : Value} {l : List UInt8} {xs : List Int} (ho : Bytes w out l) (hn : Ints w ns xs) (hx : ∀ x ∈ xs, int64 x) (hl : l.length ≤ 1000000000000) (hk : xs.length ≤ 1000000) :
    Calls Try.prog 89 #[out, ns] w fun e w' => ∃ v', e = .returned v' ∧ SubRow w' w.heap.size v' (bytesV (l ++ nums xs)) ∧ Below w.heap.size w w' := by
  have hc := clone_any ho hl
  have H : Hid ((∀ x ∈ xs, int64 x) ∧ l.length ≤ 1000000000000 ∧ xs.length ≤ 1000000 ∧ Ints w ns xs) := Lib.hid ⟨hx, hl, hk, hn⟩
  clear ho hn hx hl hk
  go_enter Try.func89, Try.ntmps89
  go_wp2_with (first
    | (go_at_call 55; (with_reducible refine hc.mono ?_); rintro _ w1 ⟨v1, rfl, s1, b1⟩; have hp := put_own b1 s1 H.out.2.2.2 H.out.1 H.out.2.1 H.out.2.2.1; clear hc)
    | (go_at_call 110; (with_reducible refine hp.mono ?_); rintro _ w2 ⟨v2, rfl, s2, b2⟩; clear hp))
  go_ret
  exact ⟨_, rfl, s2, b2⟩
theorem putRow_any {w : World} {out row : Value} {l r : List UInt8} (ho : Bytes w out l) (hr : Bytes w row r) (hl : l.length ≤ 1000000000) (hrl : r.length ≤ 1000000000) :
    Calls Try.prog 88 #[out, row] w fun e w' => ∃ v', e = .returned v' ∧ SubRow w' w.heap.size v' (bytesV (l ++ rowB r)) ∧ Below w.heap.size w w' := by
  obtain ⟨i0, hi, hz0, hz1, hz2⟩ := info_parts info8
  have Hr := Lib.hid hr
  obtain ⟨q, cap, rfl, hc1, hc2, _⟩ := hr
  have hp := put_any (ho.alloc (.cells #[.int .i64 (r.length : Int)] 3)) (ints_one (w := w) (r.length : Int) 3) (fun x hx => by simp at hx; subst hx; unfold int64; omega) (by omega) (by simp)
  have e1 : nums [(r.length : Int)] = num r.length := by simp [nums]
  rw [e1] at hp
  have Hl : Hid (l.length ≤ 1000000000 ∧ r.length ≤ 1000000000 ∧ (bytesV (l ++ num (r.length : Int))).length ≤ 1000000010 ∧ (bytesV r).length = r.length) := Lib.hid ⟨hl, hrl, by rw [bytesV_len, List.length_append]; have := num_len (r.length : Int); omega, bytesV_len r⟩
  clear ho hl hrl e1
  go_enter Try.func88, Try.ntmps88
  go_wp2_with (first
    | (go_at_call 89; (with_reducible refine hp.mono ?_); rintro _ w1 ⟨v1, rfl, s1, b1⟩; clear hp; have hb1 : Below w.heap.size w w1 := ((Below.refl _ w).alloc (Nat.le_refl _) _).trans (b1.mono (by simp)); have hs1 := s1.weaken (B' := w.heap.size) (by simp); have hbs := hb1.size; have hsrc := (Hr.out.below hb1).src; clear s1 b1)
    | (at_builtin; refine wpList_append_sub _ rfl _ _ 39 rfl 5 i0 (.int .u8 0) 1 Try.underlying39 hi hz0 hz1 hz2 rfl w.heap.size _ _ rfl hs1 _ rfl _ hsrc (by have := Hl.out; unfold maxLen; omega) (by have := Hl.out; omega) hbs ?_; intro v' w7 h7 hk7 hn7))
  go_ret
  have hlt := hs1.lt
  have hb7 : Below w.heap.size w w7 := hb1.trans (hk7.below hbs (fun j hj e => by have := (hlt j e).1; omega))
  refine ⟨_, rfl, ?_, hb7⟩
  rw [show bytesV (l ++ rowB r) = bytesV (l ++ num (r.length : Int)) ++ bytesV r from by unfold bytesV rowB; simp]
  exact h7
end Go.Proofs.Ytbaphjnglkocpaa
