import Derived.Test.YtnficiohnhodiaaSlotR
import Derived.Test.YtnficiohnhodiaaRefL
/-
  The document's wire: Number.
-/
namespace Go.Proofs.Ytnficiohnhodiaa
open Go.RowKit
theorem zig_pos {n : Int} (h : 0 ≤ n) : ((zig n : Nat) : Int) = n * 2 := by unfold zig; rw [if_pos h]; omega
theorem zig_neg {n : Int} (h : n < 0) : ((zig n : Nat) : Int) = -(n + 1) * 2 + 1 := by unfold zig; rw [if_neg (by omega)]; omega
set_option maxRecDepth 100000 in
set_option maxHeartbeats 1000000 in
theorem rnumber_any (n : Int) (h1 : -9223372036854775808 ≤ n) (h2 : n ≤ 9223372036854775807) (w : World) : Calls Try.prog 102 #[.int .i64 n] w fun e w' => ∃ v, e = .returned v ∧ SubRow w' w.heap.size v (bytesV (num n)) ∧ Below w.heap.size w w' := by
  obtain ⟨i0, hi, hz0, hz1, hz2⟩ := info_parts info8
  have hzl := zig_lt h1 h2
  by_cases h0 : 0 ≤ n
  · have e0 : ¬ n < 0 := by omega
    have hz := zig_pos h0
    go_enter Try.func102, Try.ntmps102
    go_wp2
    go_loopw [3, 4] (fun v3 v4 wr => ∃ (f u : Nat) (p : List UInt8), v3 = .int .u64 u ∧ f ≤ 9 ∧ u < 18446744073709551616 ∧ SubRow wr w.heap.size v4 (bytesV p) ∧ Below w.heap.size w wr ∧ Hid (u < 128 ^ (f + 1) ∧ p ++ vint (f + 1) u = num n)) (fun v3 _ _ => (intOf v3).toNat)
    case atStart => exact ⟨9, zig n, [], by rw [hz], Nat.le_refl _, hzl, .inl ⟨rfl, rfl⟩, Below.refl _ _, Lib.hid ⟨Nat.lt_of_lt_of_le hzl (by decide), rfl⟩⟩
    case round =>
      obtain ⟨f, u, p, rfl, hf, hu, hO, hb, Hu⟩ := hrel
      have hs0 := hb.size
      have Hlen : Hid (p.length ≤ 1000) := Lib.hid (by have h1 := congrArg List.length Hu.out.2; rw [List.length_append] at h1; have h2 := num_len n; omega)
      have hlt7 := hO.lt
      clear hz hzl
      by_cases hlt : u < 128
      · have g1 : ((u : Int) / 128 == 0) = true := by simp; omega
        have hby : Value.int .u8 ((u : Int) % 128) = byteV (UInt8.ofNat u) := by unfold byteV; rw [ofNat_toNat (by omega)]; congr 1; omega
        have Hby := Lib.hid hby
        have hend : p ++ [UInt8.ofNat u] = num n := by rw [← Hu.out.2]; unfold vint; rw [if_pos hlt]
        have Hend := Lib.hid hend
        clear hby hend
        go_wp2_with (at_builtin; refine wpList_append_sub _ rfl _ _ 52 rfl 5 i0 (.int .u8 0) 1 Try.underlying52 hi hz0 hz1 hz2 rfl w.heap.size _ (bytesV p) rfl (SubRow.below hO ((Below.refl _ _).alloc (Nat.le_refl _) _)) _ rfl [.int .u8 ((u : Int) % 128)] (src_cell Try.underlying52 _ rfl _) (by have := Hlen.out; simp only [List.length_cons, List.length_nil, bytesV_len]; unfold maxLen; omega) (by have := Hlen.out; simp only [List.length_cons, List.length_nil, bytesV_len]; omega) (by simp; omega) ?_; intro v7 w7 h7 hk7 hn7)
        have hb7 : Below w.heap.size w w7 := (hb.alloc hs0 _).trans (hk7.below (by simp; omega) (fun j hj e => by have := (hlt7 j e).1; omega))
        have h7' : SubRow w7 w.heap.size v7 (bytesV (num n)) := by rw [← Hend.out]; unfold bytesV; rw [List.map_append]; rw [Hby.out] at h7; exact h7
        clear hk7 hn7 h7 hO
        go_wp2
        go_ret
        exact ⟨_, rfl, h7', hb7⟩
      · have g1 : ((u : Int) / 128 == 0) = false := by simp; omega
        have hby : Value.int .u8 ((u : Int) % 128 + 128) = byteV (UInt8.ofNat (u % 128 + 128)) := by unfold byteV; rw [ofNat_toNat (by omega)]; congr 1
        have Hby := Lib.hid hby
        have hf1 : 1 ≤ f := by
          rcases Nat.eq_zero_or_pos f with e | e
          · subst e; have := Hu.out.1; omega
          · exact e
        have Hnx : Hid (u / 128 < 128 ^ (f - 1 + 1) ∧ (p ++ [UInt8.ofNat (u % 128 + 128)]) ++ vint (f - 1 + 1) (u / 128) = num n) := by
          refine Lib.hid ⟨?_, ?_⟩
          · rw [show f - 1 + 1 = f from by omega]
            have := Hu.out.1
            rw [Nat.pow_succ] at this
            exact Nat.div_lt_of_lt_mul (by rw [Nat.mul_comm]; exact this)
          · rw [← Hu.out.2, show f - 1 + 1 = f from by omega, List.append_assoc]
            congr 1
            conv => rhs; unfold vint
            rw [if_neg hlt]; rfl
        clear hby
        go_wp2_with (at_builtin; refine wpList_append_sub _ rfl _ _ 52 rfl 5 i0 (.int .u8 0) 1 Try.underlying52 hi hz0 hz1 hz2 rfl w.heap.size _ (bytesV p) rfl (SubRow.below hO ((Below.refl _ _).alloc (Nat.le_refl _) _)) _ rfl [.int .u8 ((u : Int) % 128 + 128)] (src_cell Try.underlying52 _ rfl _) (by have := Hlen.out; simp only [List.length_cons, List.length_nil, bytesV_len]; unfold maxLen; omega) (by have := Hlen.out; simp only [List.length_cons, List.length_nil, bytesV_len]; omega) (by simp; omega) ?_; intro v7 w7 h7 hk7 hn7)
        have hb7 : Below w.heap.size w w7 := (hb.alloc hs0 _).trans (hk7.below (by simp; omega) (fun j hj e => by have := (hlt7 j e).1; omega))
        have h7' : SubRow w7 w.heap.size v7 (bytesV (p ++ [UInt8.ofNat (u % 128 + 128)])) := by unfold bytesV; rw [List.map_append]; rw [Hby.out] at h7; exact h7
        clear hk7 hn7 h7 hO
        go_wp2
        go_roundw
        case rel => exact ⟨f - 1, u / 128, _, by congr 1, by omega, by omega, h7', hb7, Hnx⟩
        case measure => simp [intOf]; omega
  · have e0 : n < 0 := by omega
    have hz := zig_neg e0
    go_enter Try.func102, Try.ntmps102
    go_wp2
    go_loopw [3, 4] (fun v3 v4 wr => ∃ (f u : Nat) (p : List UInt8), v3 = .int .u64 u ∧ f ≤ 9 ∧ u < 18446744073709551616 ∧ SubRow wr w.heap.size v4 (bytesV p) ∧ Below w.heap.size w wr ∧ Hid (u < 128 ^ (f + 1) ∧ p ++ vint (f + 1) u = num n)) (fun v3 _ _ => (intOf v3).toNat)
    case atStart => exact ⟨9, zig n, [], by rw [hz], Nat.le_refl _, hzl, .inl ⟨rfl, rfl⟩, Below.refl _ _, Lib.hid ⟨Nat.lt_of_lt_of_le hzl (by decide), rfl⟩⟩
    case round =>
      obtain ⟨f, u, p, rfl, hf, hu, hO, hb, Hu⟩ := hrel
      have hs0 := hb.size
      have Hlen : Hid (p.length ≤ 1000) := Lib.hid (by have h1 := congrArg List.length Hu.out.2; rw [List.length_append] at h1; have h2 := num_len n; omega)
      have hlt7 := hO.lt
      clear hz hzl
      by_cases hlt : u < 128
      · have g1 : ((u : Int) / 128 == 0) = true := by simp; omega
        have hby : Value.int .u8 ((u : Int) % 128) = byteV (UInt8.ofNat u) := by unfold byteV; rw [ofNat_toNat (by omega)]; congr 1; omega
        have Hby := Lib.hid hby
        have hend : p ++ [UInt8.ofNat u] = num n := by rw [← Hu.out.2]; unfold vint; rw [if_pos hlt]
        have Hend := Lib.hid hend
        clear hby hend
        go_wp2_with (at_builtin; refine wpList_append_sub _ rfl _ _ 52 rfl 5 i0 (.int .u8 0) 1 Try.underlying52 hi hz0 hz1 hz2 rfl w.heap.size _ (bytesV p) rfl (SubRow.below hO ((Below.refl _ _).alloc (Nat.le_refl _) _)) _ rfl [.int .u8 ((u : Int) % 128)] (src_cell Try.underlying52 _ rfl _) (by have := Hlen.out; simp only [List.length_cons, List.length_nil, bytesV_len]; unfold maxLen; omega) (by have := Hlen.out; simp only [List.length_cons, List.length_nil, bytesV_len]; omega) (by simp; omega) ?_; intro v7 w7 h7 hk7 hn7)
        have hb7 : Below w.heap.size w w7 := (hb.alloc hs0 _).trans (hk7.below (by simp; omega) (fun j hj e => by have := (hlt7 j e).1; omega))
        have h7' : SubRow w7 w.heap.size v7 (bytesV (num n)) := by rw [← Hend.out]; unfold bytesV; rw [List.map_append]; rw [Hby.out] at h7; exact h7
        clear hk7 hn7 h7 hO
        go_wp2
        go_ret
        exact ⟨_, rfl, h7', hb7⟩
      · have g1 : ((u : Int) / 128 == 0) = false := by simp; omega
        have hby : Value.int .u8 ((u : Int) % 128 + 128) = byteV (UInt8.ofNat (u % 128 + 128)) := by unfold byteV; rw [ofNat_toNat (by omega)]; congr 1
        have Hby := Lib.hid hby
        have hf1 : 1 ≤ f := by
          rcases Nat.eq_zero_or_pos f with e | e
          · subst e; have := Hu.out.1; omega
          · exact e
        have Hnx : Hid (u / 128 < 128 ^ (f - 1 + 1) ∧ (p ++ [UInt8.ofNat (u % 128 + 128)]) ++ vint (f - 1 + 1) (u / 128) = num n) := by
          refine Lib.hid ⟨?_, ?_⟩
          · rw [show f - 1 + 1 = f from by omega]
            have := Hu.out.1
            rw [Nat.pow_succ] at this
            exact Nat.div_lt_of_lt_mul (by rw [Nat.mul_comm]; exact this)
          · rw [← Hu.out.2, show f - 1 + 1 = f from by omega, List.append_assoc]
            congr 1
            conv => rhs; unfold vint
            rw [if_neg hlt]; rfl
        clear hby
        go_wp2_with (at_builtin; refine wpList_append_sub _ rfl _ _ 52 rfl 5 i0 (.int .u8 0) 1 Try.underlying52 hi hz0 hz1 hz2 rfl w.heap.size _ (bytesV p) rfl (SubRow.below hO ((Below.refl _ _).alloc (Nat.le_refl _) _)) _ rfl [.int .u8 ((u : Int) % 128 + 128)] (src_cell Try.underlying52 _ rfl _) (by have := Hlen.out; simp only [List.length_cons, List.length_nil, bytesV_len]; unfold maxLen; omega) (by have := Hlen.out; simp only [List.length_cons, List.length_nil, bytesV_len]; omega) (by simp; omega) ?_; intro v7 w7 h7 hk7 hn7)
        have hb7 : Below w.heap.size w w7 := (hb.alloc hs0 _).trans (hk7.below (by simp; omega) (fun j hj e => by have := (hlt7 j e).1; omega))
        have h7' : SubRow w7 w.heap.size v7 (bytesV (p ++ [UInt8.ofNat (u % 128 + 128)])) := by unfold bytesV; rw [List.map_append]; rw [Hby.out] at h7; exact h7
        clear hk7 hn7 h7 hO
        go_wp2
        go_roundw
        case rel => exact ⟨f - 1, u / 128, _, by congr 1, by omega, by omega, h7', hb7, Hnx⟩
        case measure => simp [intOf]; omega
set_option maxRecDepth 100000 in
set_option maxHeartbeats 1000000 in
theorem rrow_any {w : World} {v : Value} {l : List UInt8} (hv : Bytes w v l) (hl : l.length ≤ 1000000000) : Calls Try.prog 103 #[v] w fun e w' => ∃ v', e = .returned v' ∧ SubRow w' w.heap.size v' (bytesV (rowB l)) ∧ Below w.heap.size w w' := by
  obtain ⟨i0, hi, hz0, hz1, hz2⟩ := info_parts info8
  have Hv := Lib.hid hv
  obtain ⟨q, c, rfl, hc, hm, _⟩ := hv
  have hnu := rnumber_any (l.length : Int) (by omega) (by omega) w
  have Hl := Lib.hid hl
  obtain ⟨N, hN⟩ : ∃ N, l.length = N := ⟨_, rfl⟩
  have HN := Lib.hid hN
  have Hnl := Lib.hid (num_len (l.length : Int))
  rw [hN] at hnu hl ⊢
  clear hN hc hm
  go_enter Try.func103, Try.ntmps103
  go_wp2_with (first
    | (go_at_call 102; (with_reducible refine hnu.mono ?_); rintro _ w1 ⟨v1, rfl, h1, b1⟩; clear hnu; have H1 := Lib.hid h1; have HB1 := Lib.hid b1; have hs1 := b1.size; have hv1 : Bytes w1 (.slice q N c) l := (by rw [← HN.out]; exact Hv.out.below b1); have hsrc := hv1.src; (obtain ⟨q1, c1, e1, _, _⟩ := h1.form); subst e1; clear h1 b1 hv1)
    | (at_builtin; refine wpList_append_sub _ rfl _ _ 52 rfl 5 i0 (.int .u8 0) 1 Try.underlying52 hi hz0 hz1 hz2 rfl w.heap.size _ (bytesV (num (N : Int))) rfl H1.out _ rfl (bytesV l) hsrc (by have := Hl.out; have := Hnl.out; rw [HN.out] at this; rw [bytesV_len, bytesV_len]; unfold maxLen; omega) (by have := Hl.out; have := Hnl.out; rw [HN.out] at this; rw [bytesV_len, bytesV_len]; omega) (by omega) ?_; intro v7 w7 h7 hk7 hn7))
  have hb7 : Below w.heap.size w w7 := HB1.out.trans (hk7.below HB1.out.size (fun j hj e => by have := (H1.out.lt j e).1; omega))
  have h7' : SubRow w7 w.heap.size v7 (bytesV (rowB l)) := by unfold rowB; rw [HN.out]; unfold bytesV; rw [List.map_append]; exact h7
  clear hk7 hn7 h7
  go_wp2
  go_ret
  exact ⟨_, rfl, h7', hb7⟩
end Go.Proofs.Ytnficiohnhodiaa


/-
  The document's wire: Take (plain).
-/
namespace Go.Proofs.Ytnficiohnhodiaa
open Go.RowKit
theorem takeF_canon (l : List UInt8) : ∀ (i u : Nat) (p : Nat × Nat), takeF i u l = some p → ∃ w, p.1 = u + w * 128 ^ i ∧ l.take (p.2 - i) = vint (10 - i) w ∧ (0 < i → 0 < w) ∧ i < p.2 ∧ p.2 ≤ 10 := by
  induction l with
  | nil => intro i u p h; simp [takeF] at h
  | cons c l ih =>
    intro i u p h
    unfold takeF at h
    split at h
    · cases h
    · rename_i h10
      split at h
      · cases h
      · rename_i h9
        split at h
        · rename_i hc
          split at h
          · cases h
          · rename_i h0
            cases h
            refine ⟨c.toNat, rfl, ?_, fun hi => ?_, Nat.lt_succ_self _, by omega⟩
            · rw [show i + 1 - i = 1 from by omega, show 10 - i = (9 - i) + 1 from by omega]
              unfold vint
              rw [if_pos hc]
              simp
            · omega
        · rename_i hc
          obtain ⟨w, h1, h2, h3, h4, h5⟩ := ih _ _ _ h
          have hw := h3 (by omega)
          refine ⟨c.toNat % 128 + 128 * w, ?_, ?_, fun _ => by omega, by omega, h5⟩
          · rw [h1, Nat.add_mul, Nat.pow_succ]
            have : 128 * w * 128 ^ i = w * (128 ^ i * 128) := by rw [Nat.mul_comm 128 w, Nat.mul_assoc, Nat.mul_comm 128]
            omega
          · rw [show p.2 - i = (p.2 - (i + 1)) + 1 from by omega, show 10 - i = (10 - (i + 1)) + 1 from by omega, List.take_succ_cons, h2]
            conv => rhs; unfold vint
            have hcl : c.toNat < 256 := c.toNat_lt
            rw [if_neg (by omega)]
            congr 1
            · have : (c.toNat % 128 + 128 * w) % 128 + 128 = c.toNat := by omega
              rw [this]; simp
            · congr 1; omega
theorem takeN_canon {l : List UInt8} {v : Int} {k : Nat} (h : takeN l = some (v, k)) : ∃ w, v = zag w ∧ w < 18446744073709551616 ∧ l.take k = vint 10 w ∧ num v = vint 10 w ∧ 0 < k ∧ k ≤ 10 := by
  unfold takeN at h
  obtain ⟨p, hp, e⟩ := Option.map_eq_some_iff.1 h
  injection e with e1 e2
  subst e1 e2
  obtain ⟨w, h1, h2, _, h4, h5⟩ := takeF_canon l 0 0 p hp
  have hr := takeF_rng l 0 0 p (by omega) (by decide) hp
  have hw : p.1 = w := by rw [h1]; simp
  subst hw
  refine ⟨p.1, rfl, hr, by simpa using h2, ?_, by omega, h5⟩
  unfold num; rw [zig_zag]
/-- the bytes' low parts as a number -/
def valB : List UInt8 → Nat
  | [] => 0
  | b :: l => b.toNat % 128 + 128 * valB l
theorem valB_vint (f : Nat) : ∀ u, u < 128 ^ f → valB (vint f u) = u := by
  induction f with
  | zero => intro u h; simp at h; subst h; rfl
  | succ f ih =>
    intro u h
    unfold vint
    split
    · rename_i hu
      show (UInt8.ofNat u).toNat % 128 + 128 * 0 = u
      rw [ofNat_toNat (by omega)]; omega
    · show (UInt8.ofNat (u % 128 + 128)).toNat % 128 + 128 * valB (vint f (u / 128)) = u
      rw [ofNat_toNat (by omega), ih _ (by rw [Nat.pow_succ] at h; exact Nat.div_lt_of_lt_mul (by rw [Nat.mul_comm]; exact h))]
      omega
/-- all but the last are great -/
theorem vint_at (f : Nat) : ∀ u, u < 128 ^ f → ∀ (i : Nat) (b : UInt8), (vint f u)[i]? = some b → (128 ≤ b.toNat ↔ i + 1 < (vint f u).length) := by
  induction f with
  | zero => intro u h i b hb; simp [vint] at hb
  | succ f ih =>
    intro u h i b hb
    unfold vint at hb ⊢
    split at hb
    · rename_i hu
      rw [if_pos hu]
      cases i with
      | zero => simp at hb; subst hb; rw [ofNat_toNat (by omega)]; simp; omega
      | succ i => simp at hb
    · rename_i hu
      rw [if_neg hu]
      have hlt : u / 128 < 128 ^ f := by rw [Nat.pow_succ] at h; exact Nat.div_lt_of_lt_mul (by rw [Nat.mul_comm]; exact h)
      have hf : 0 < f := by
        rcases Nat.eq_zero_or_pos f with e | e
        · subst e; simp at h; omega
        · exact e
      cases i with
      | zero =>
        have hb2 : some (UInt8.ofNat (u % 128 + 128)) = some b := hb
        injection hb2 with hb2; subst hb2; rw [ofNat_toNat (by omega)]
        have hp : 0 < (vint f (u / 128)).length := by
          obtain ⟨g, rfl⟩ : ∃ g, f = g + 1 := ⟨f - 1, by omega⟩
          exact vint_pos g _
        simp only [List.length_cons]; omega
      | succ i =>
        have := ih (u / 128) hlt i b (by simpa using hb)
        simp only [List.length_cons]; omega
/-- the bytes from i to n - 1 are great -/
def Great (l : List UInt8) (n : Nat) : Prop := ∀ (i : Nat) (b : UInt8), i < n → l[i]? = some b → 128 ≤ b.toNat
theorem take_end {l : List UInt8} {v : Int} {k n : Nat} (h : takeN l = some (v, k)) (hg : Great l n) (hn : n ≤ l.length) : n + 1 ≤ k := by
  obtain ⟨w, _, h2, h3, _, h5, h6⟩ := takeN_canon h
  have hk := (takeN_len h).2.1
  have hlen : (vint 10 w).length = k := by rw [← h3, List.length_take]; omega
  by_cases hc : n + 1 ≤ k
  · exact hc
  · exfalso
    obtain ⟨b, hb⟩ : ∃ b, l[k - 1]? = some b := ⟨_, List.getElem?_eq_getElem (by omega)⟩
    have h7 := hg (k - 1) b (by omega) hb
    have hb2 : (vint 10 w)[k - 1]? = some b := by rw [← h3, List.getElem?_take, if_pos (by omega)]; exact hb
    have := (vint_at 10 w (Nat.lt_of_lt_of_le h2 (by decide)) (k - 1) b hb2).1 h7
    omega
theorem take_at {l : List UInt8} {v : Int} {k n : Nat} {b : UInt8} (h : takeN l = some (v, k)) (hg : Great l n) (hb : l[n]? = some b) (hs : b.toNat < 128) : k = n + 1 := by
  have hn := (List.getElem?_eq_some_iff.1 hb).1
  have h1 := take_end h hg (by omega)
  obtain ⟨w, _, h2, h3, _, h5, h6⟩ := takeN_canon h
  have hk := (takeN_len h).2.1
  have hlen : (vint 10 w).length = k := by rw [← h3, List.length_take]; omega
  by_cases hc : k = n + 1
  · exact hc
  · exfalso
    have hb2 : (vint 10 w)[n]? = some b := by rw [← h3, List.getElem?_take, if_pos (by omega)]; exact hb
    have := (vint_at 10 w (Nat.lt_of_lt_of_le h2 (by decide)) n b hb2).2 (by omega)
    omega
theorem take_nothing {l : List UInt8} {n : Nat} (hg : Great l n) (hn : n ≤ l.length) (he : n = l.length ∨ 10 ≤ n) : takeN l = none := by
  cases h : takeN l with
  | none => rfl
  | some p =>
    obtain ⟨v, k⟩ := p
    have h1 := take_end h hg hn
    have h2 := takeN_len h
    omega
/-- what the document's Take reckons -/
theorem take_iff {l : List UInt8} {n : Nat} {b : UInt8} (hg : Great l n) (hb : l[n]? = some b) (hs : b.toNat < 128) (U : Nat) (hU : U = valB (l.take (n + 1)) % 18446744073709551616) : takeN l = if num (zag U) = l.take (n + 1) then some (zag U, n + 1) else none := by
  split
  · rename_i he
    have hUl : U < 18446744073709551616 := by rw [hU]; exact Nat.mod_lt _ (by decide)
    have hr := zag_rng hUl
    have h1 := takeN_num (zag U) (l.drop (n + 1)) hr.1 hr.2
    rw [he, List.take_append_drop] at h1
    rw [h1, List.length_take]
    have := (List.getElem?_eq_some_iff.1 hb).1
    congr 2; omega
  · rename_i he
    cases h : takeN l with
    | none => rfl
    | some p =>
      obtain ⟨v, k⟩ := p
      have hk := take_at h hg hb hs
      subst hk
      obtain ⟨w, h1, h2, h3, h4, _, _⟩ := takeN_canon h
      have hv : valB (l.take (n + 1)) = w := by rw [h3]; exact valB_vint 10 w (Nat.lt_of_lt_of_le h2 (by decide))
      rw [hv, Nat.mod_eq_of_lt h2] at hU
      subst hU
      exact absurd (by rw [← h1, h4, h3]) he
theorem valB_take {l : List UInt8} {i m : Nat} {b : UInt8} (hb : l[i]? = some b) (hm : i < m) : valB ((l.take m).drop i) = b.toNat % 128 + 128 * valB ((l.take m).drop (i + 1)) := by
  have h : (l.take m)[i]? = some b := by rw [List.getElem?_take, if_pos hm]; exact hb
  obtain ⟨hi, he⟩ := List.getElem?_eq_some_iff.1 h
  rw [List.drop_eq_getElem_cons hi, he]; rfl
end Go.Proofs.Ytnficiohnhodiaa


/-
  The document's wire: Take (walk).
-/
namespace Go.Proofs.Ytnficiohnhodiaa
open Go.RowKit
def takeW (l : List UInt8) : Int × Nat := (takeN l).getD (0, 0)
theorem slice_inj0 {N : Nat} : ∀ x y : Option Addr × Nat, Value.slice x.1 N x.2 = Value.slice y.1 N y.2 → x = y := fun x y h => by
  obtain ⟨x1, x2⟩ := x; obtain ⟨y1, y2⟩ := y
  injection h with h1 _ h2
  simp only at h1 h2
  rw [h1, h2]
theorem wrapU (a : Int) : IntKind.u64.wrap a = a % 18446744073709551616 := by
  show a % (2 ^ IntKind.u64.bits : Int) = _
  rfl
set_option maxRecDepth 100000 in
set_option maxHeartbeats 4000000 in
theorem rtake_any {w : World} {v : Value} {l : List UInt8} (hv : Bytes w v l) (hl : l.length ≤ 1000000000) : Calls Try.prog 105 #[v] w fun e w' => e = .returned (.tuple #[.int .i64 (takeW l).1, .int .i64 ((takeW l).2 : Int)]) ∧ Below w.heap.size w w' := by
  have Hv := Lib.hid hv
  obtain ⟨q, c, rfl, hc, hm, h3⟩ := hv
  have Hat : Hid (∀ j b, l[j]? = some b → ∃ g o, q = some ⟨g, o, none⟩ ∧ w.cell? ⟨g, o + j, none⟩ = some (.int .u8 (b.toNat : Int))) := Lib.hid (fun j b hb => by
    obtain ⟨a, e, hcell⟩ := h3 j b hb
    have h0 : ∃ b0, l[0]? = some b0 := ⟨_, List.getElem?_eq_getElem (by have := (List.getElem?_eq_some_iff.1 hb).1; omega)⟩
    obtain ⟨b0, hb0⟩ := h0
    obtain ⟨a0, e0, hc0⟩ := h3 0 b0 hb0
    have ha : a0 = a := by rw [e] at e0; injection e0 with e0; exact e0.symm
    subst ha
    have hz : a0.add 0 = a0 := by simp [Addr.add]
    rw [hz] at hc0
    have hsp := spot_none hc0
    obtain ⟨g, o, sp⟩ := a0
    cases hsp
    refine ⟨g, o, e, ?_⟩
    rw [Addr.add_mid] at hcell
    exact hcell)
  unfold maxLen at hm
  clear h3
  go_enter Try.func105, Try.ntmps105
  go_wp2
  go_loop [4] (fun i => ∃ n : Nat, i = .int .i64 n ∧ n ≤ l.length ∧ n ≤ 10 ∧ Hid (Great l n)) (fun i => 10 - (intOf i).toNat)
  case atStart => exact ⟨0, rfl, Nat.zero_le _, Nat.zero_le _, Lib.hid (fun i b hi => absurd hi (Nat.not_lt_zero _))⟩
  case round =>
    obtain ⟨n, rfl, hn, hn10, Hg⟩ := hrel
    by_cases hlt : n < l.length
    · obtain ⟨b, hb⟩ : ∃ b, l[n]? = some b := ⟨_, List.getElem?_eq_getElem hlt⟩
      obtain ⟨g, o, rfl, hcell⟩ := Hat.out n b hb
      have Hb := Lib.hid hb
      have hnl : (n : Int) < (l.length : Int) := by omega
      have hbl : b.toNat < 256 := b.toNat_lt
      clear hb
      by_cases h10 : n < 10
      · by_cases hgr : 128 ≤ b.toNat
        · have hgI : (128 : Int) ≤ (b.toNat : Int) := by omega
          have Hg2 : Hid (Great l (n + 1)) := Lib.hid (fun i x hi hx => by
            by_cases e : i = n
            · subst e; have e2 := Hb.out.symm.trans hx; injection e2 with e2; subst e2; exact hgr
            · exact Hg.out i x (by omega) hx)
          go_wp2
          go_round
          case rel => exact ⟨n + 1, by go_num, by omega, by omega, Hg2⟩
          case measure => simp [intOf]; omega
        · have hgI : ¬ (128 : Int) ≤ (b.toNat : Int) := by omega
          have hgI2 : (b.toNat : Int) < 128 := by omega
          go_wp2
          go_loop [5, 6] (fun v5 v6 => ∃ i : Nat, v6 = .int .i64 ((i : Int) - 1) ∧ i ≤ n + 1 ∧ v5 = .int .u64 ((valB ((l.take (n + 1)).drop i) % 18446744073709551616 : Nat) : Int)) (fun _ v6 => (intOf v6 + 1).toNat)
          case atStart => exact ⟨n + 1, by congr 1; omega, Nat.le_refl _, by rw [List.drop_eq_nil_of_le (by rw [List.length_take]; omega)]; rfl⟩
          case round =>
            obtain ⟨i, rfl, hi, rfl⟩ := hrel
            obtain ⟨U, hU⟩ : ∃ U, valB ((l.take (n + 1)).drop i) % 18446744073709551616 = U := ⟨_, rfl⟩
            have hUl : U < 18446744073709551616 := by rw [← hU]; exact Nat.mod_lt _ (by decide)
            rw [hU]
            by_cases hi0 : i = 0
            · subst hi0
              have hfin := take_iff Hg.out Hb.out (by omega) U (by rw [← hU, List.drop_zero])
              have Hfin := Lib.hid hfin
              have hzr := zag_rng hUl
              have Hzr := Lib.hid hzr
              clear hU hfin hzr
              by_cases hod : U % 2 = 0
              · have hze : ((U : Int) / 2) = zag U := by unfold zag; rw [if_pos hod]; omega
                have hb2 : ((U : Int) % 2 == 1) = false := by simp; omega
                have hw2 : (U : Int) / 2 < 9223372036854775808 := by omega
                go_upto_region 14 with fail
                clear hze hb2 hw2 hcell
                generalize hzv : zag U = z at Hfin Hzr ⊢
                obtain ⟨N, hN⟩ : ∃ N, (num z).length = N := ⟨_, rfl⟩
                have HN := Lib.hid hN
                by_cases e : num z = l.take (n + 1)
                · have he2 : Hid (takeW l = (z, n + 1)) := Lib.hid (by unfold takeW; rw [Hfin.out, if_pos e]; rfl)
                  obtain ⟨s1, hs1⟩ : ∃ s, strB (num z) = s := ⟨_, rfl⟩
                  have hs2 : strB (l.take (n + 1)) = s1 := by rw [← e]; exact hs1
                  clear e Hfin
                  have hwr : IntKind.i64.wrap ((n : Int) + 1) = (n : Int) + 1 := by rw [IntKind.wrap_i64]; omega
                  have hwr2 : (n : Int) + 1 ≤ (c : Int) := by omega
                  have hwr3 : 0 ≤ (n : Int) + 1 := by omega
                  have Hs1 := Lib.hid hs1
                  have Hs2 := Lib.hid hs2
                  have hn1c : n + 1 ≤ c := by omega
                  have hzr := Hzr.out
                  have Hbt : Hid (∀ w', Keeps (fun _ => False) w w' → Bytes w' (.slice (some ⟨g, o, none⟩) (n + 1) c) (l.take (n + 1))) := Lib.hid (fun w' k => (Hv.out.keeps k (fun _ _ e => e)).to (n + 1) (by omega))
                  have Hll := Lib.hid hl
                  clear hN hs1 hs2 hzv
                  refine wp_region_text [1] (fun _ => False) (fun w' => Keeps (fun _ => False) w w') 9 (by kernel_rfl) (fun _ _ h k => h.trans k) (by kernel_rfl) (Keeps.refl _ _).drew ?_
                  simp only [List.take_succ_cons, List.take_zero, List.drop_succ_cons, List.drop_zero]
                  repeat (first | (refine text_pure (v := ?_) (by rfl) (fun w' => ?_) ?_; rotate_left; (focus ( go_simp; first | done | with_reducible rfl)); simp only [Act.put, List.setIfInBounds_toArray, List.set_cons_zero, List.set_cons_succ]) | (refine text_skip (by rfl) ?_; simp only [Act.put, List.setIfInBounds_toArray, List.set_cons_zero, List.set_cons_succ]))
                  refine text_call (f := 102) (args := #[.int .i64 z]) (fun x : Option Addr × Nat => .slice x.1 N x.2) (fun x w' => SubRow w' w.heap.size (.slice x.1 N x.2) (bytesV (num z))) (by rfl) (by kernel_rfl) (by kernel_rfl) (by kernel_rfl) slice_inj0
                    (fun x => keepStable fun wa wb h k => h.block_keeps k (fun _ _ e => e)) (fun w' => ?_) (fun w' hB hm => ?_) (fun x1 => ?_)
                  · go_simp
                  · refine (rnumber_any z hzr.1 hzr.2 w').mono fun e w'' ⟨v, he, ho, hb⟩ => ?_
                    obtain ⟨q1, c1, rfl, _⟩ := ho.form
                    rw [bytesV_len, HN.out] at he ho
                    exact ⟨(q1, c1), he, Keeps.of_below hb, ho.weaken hB.size⟩
                  simp only [Act.put, List.setIfInBounds_toArray, List.set_cons_zero, List.set_cons_succ]
                  (refine text_read (v := ?_) (by rfl) (by kernel_rfl) (fun w' hB hm => ?_) ?_; rotate_left; (focus (have hcv := conv_bytes (Bytes.of_sub (hm.1 (by kernel_rfl))); rw [Hs1.out] at hcv; (try clear hm); (try clear hB); go_simp; first | done | with_reducible rfl)); simp only [Act.put, List.setIfInBounds_toArray, List.set_cons_zero, List.set_cons_succ])
                  repeat (first | (refine text_pure (v := ?_) (by rfl) (fun w' => ?_) ?_; rotate_left; (focus ( go_simp; first | done | with_reducible rfl)); simp only [Act.put, List.setIfInBounds_toArray, List.set_cons_zero, List.set_cons_succ]) | (refine text_skip (by rfl) ?_; simp only [Act.put, List.setIfInBounds_toArray, List.set_cons_zero, List.set_cons_succ]))
                  (refine text_read (v := ?_) (by rfl) (by kernel_rfl) (fun w' hB hm => ?_) ?_; rotate_left; (focus (have hcv2 := conv_bytes (Hbt.out w' hB); rw [Hs2.out] at hcv2; (try clear hm); (try clear hB); go_simp; first | done | with_reducible rfl)); simp only [Act.put, List.setIfInBounds_toArray, List.set_cons_zero, List.set_cons_succ])
                  repeat (first | (refine text_pure (v := ?_) (by rfl) (fun w' => ?_) ?_; rotate_left; (focus ( go_simp; first | done | with_reducible rfl)); simp only [Act.put, List.setIfInBounds_toArray, List.set_cons_zero, List.set_cons_succ]) | (refine text_skip (by rfl) ?_; simp only [Act.put, List.setIfInBounds_toArray, List.set_cons_zero, List.set_cons_succ]))
                  refine text_nil fun w8 hB hF => ?_
                  have hb8 : Below w.heap.size w w8 := hB.below (Nat.le_refl _) (fun _ _ e => e)
                  have Hb8 := Lib.hid hb8
                  clear hF hB hb8 Hbt
                  go_wp2
                  refine Calm.normal ?_
                  go_wp2
                  go_ret2
                  exact ⟨by rw [he2.out]; rfl, Hb8.out⟩
                · have he2 : Hid (takeW l = (0, 0)) := Lib.hid (by unfold takeW; rw [Hfin.out, if_neg e]; rfl)
                  obtain ⟨s1, hs1⟩ : ∃ s, strB (num z) = s := ⟨_, rfl⟩
                  obtain ⟨s2, hs2⟩ : ∃ s, strB (l.take (n + 1)) = s := ⟨_, rfl⟩
                  have hsn : (s1.toList == s2.toList) = false := by
                    rw [← hs1, ← hs2]
                    unfold strB
                    rw [ByteArray.toList_mk, ByteArray.toList_mk]
                    simpa using e
                  clear e Hfin
                  have hwr : IntKind.i64.wrap ((n : Int) + 1) = (n : Int) + 1 := by rw [IntKind.wrap_i64]; omega
                  have hwr2 : (n : Int) + 1 ≤ (c : Int) := by omega
                  have hwr3 : 0 ≤ (n : Int) + 1 := by omega
                  have Hs1 := Lib.hid hs1
                  have Hs2 := Lib.hid hs2
                  have hn1c : n + 1 ≤ c := by omega
                  have hzr := Hzr.out
                  have Hbt : Hid (∀ w', Keeps (fun _ => False) w w' → Bytes w' (.slice (some ⟨g, o, none⟩) (n + 1) c) (l.take (n + 1))) := Lib.hid (fun w' k => (Hv.out.keeps k (fun _ _ e => e)).to (n + 1) (by omega))
                  have Hll := Lib.hid hl
                  clear hN hs1 hs2 hzv
                  refine wp_region_text [1] (fun _ => False) (fun w' => Keeps (fun _ => False) w w') 9 (by kernel_rfl) (fun _ _ h k => h.trans k) (by kernel_rfl) (Keeps.refl _ _).drew ?_
                  simp only [List.take_succ_cons, List.take_zero, List.drop_succ_cons, List.drop_zero]
                  repeat (first | (refine text_pure (v := ?_) (by rfl) (fun w' => ?_) ?_; rotate_left; (focus ( go_simp; first | done | with_reducible rfl)); simp only [Act.put, List.setIfInBounds_toArray, List.set_cons_zero, List.set_cons_succ]) | (refine text_skip (by rfl) ?_; simp only [Act.put, List.setIfInBounds_toArray, List.set_cons_zero, List.set_cons_succ]))
                  refine text_call (f := 102) (args := #[.int .i64 z]) (fun x : Option Addr × Nat => .slice x.1 N x.2) (fun x w' => SubRow w' w.heap.size (.slice x.1 N x.2) (bytesV (num z))) (by rfl) (by kernel_rfl) (by kernel_rfl) (by kernel_rfl) slice_inj0
                    (fun x => keepStable fun wa wb h k => h.block_keeps k (fun _ _ e => e)) (fun w' => ?_) (fun w' hB hm => ?_) (fun x1 => ?_)
                  · go_simp
                  · refine (rnumber_any z hzr.1 hzr.2 w').mono fun e w'' ⟨v, he, ho, hb⟩ => ?_
                    obtain ⟨q1, c1, rfl, _⟩ := ho.form
                    rw [bytesV_len, HN.out] at he ho
                    exact ⟨(q1, c1), he, Keeps.of_below hb, ho.weaken hB.size⟩
                  simp only [Act.put, List.setIfInBounds_toArray, List.set_cons_zero, List.set_cons_succ]
                  (refine text_read (v := ?_) (by rfl) (by kernel_rfl) (fun w' hB hm => ?_) ?_; rotate_left; (focus (have hcv := conv_bytes (Bytes.of_sub (hm.1 (by kernel_rfl))); rw [Hs1.out] at hcv; (try clear hm); (try clear hB); go_simp; first | done | with_reducible rfl)); simp only [Act.put, List.setIfInBounds_toArray, List.set_cons_zero, List.set_cons_succ])
                  repeat (first | (refine text_pure (v := ?_) (by rfl) (fun w' => ?_) ?_; rotate_left; (focus ( go_simp; first | done | with_reducible rfl)); simp only [Act.put, List.setIfInBounds_toArray, List.set_cons_zero, List.set_cons_succ]) | (refine text_skip (by rfl) ?_; simp only [Act.put, List.setIfInBounds_toArray, List.set_cons_zero, List.set_cons_succ]))
                  (refine text_read (v := ?_) (by rfl) (by kernel_rfl) (fun w' hB hm => ?_) ?_; rotate_left; (focus (have hcv2 := conv_bytes (Hbt.out w' hB); rw [Hs2.out] at hcv2; (try clear hm); (try clear hB); go_simp; first | done | with_reducible rfl)); simp only [Act.put, List.setIfInBounds_toArray, List.set_cons_zero, List.set_cons_succ])
                  repeat (first | (refine text_pure (v := ?_) (by rfl) (fun w' => ?_) ?_; rotate_left; (focus ( go_simp; first | done | with_reducible rfl)); simp only [Act.put, List.setIfInBounds_toArray, List.set_cons_zero, List.set_cons_succ]) | (refine text_skip (by rfl) ?_; simp only [Act.put, List.setIfInBounds_toArray, List.set_cons_zero, List.set_cons_succ]))
                  refine text_nil fun w8 hB hF => ?_
                  have hb8 : Below w.heap.size w w8 := hB.below (Nat.le_refl _) (fun _ _ e => e)
                  have Hb8 := Lib.hid hb8
                  clear hF hB hb8 Hbt
                  go_wp2
                  refine Calm.normal ?_
                  go_wp2
                  go_ret2
                  exact ⟨by rw [he2.out]; rfl, Hb8.out⟩
              · have hze : -((U : Int) / 2) - 1 = zag U := by unfold zag; rw [if_neg hod]; omega
                have hb2 : ((U : Int) % 2 == 1) = true := by simp; omega
                have hw2 : (U : Int) / 2 < 9223372036854775808 := by omega
                go_upto_region 14 with fail
                clear hze hb2 hw2 hcell
                generalize hzv : zag U = z at Hfin Hzr ⊢
                obtain ⟨N, hN⟩ : ∃ N, (num z).length = N := ⟨_, rfl⟩
                have HN := Lib.hid hN
                by_cases e : num z = l.take (n + 1)
                · have he2 : Hid (takeW l = (z, n + 1)) := Lib.hid (by unfold takeW; rw [Hfin.out, if_pos e]; rfl)
                  obtain ⟨s1, hs1⟩ : ∃ s, strB (num z) = s := ⟨_, rfl⟩
                  have hs2 : strB (l.take (n + 1)) = s1 := by rw [← e]; exact hs1
                  clear e Hfin
                  have hwr : IntKind.i64.wrap ((n : Int) + 1) = (n : Int) + 1 := by rw [IntKind.wrap_i64]; omega
                  have hwr2 : (n : Int) + 1 ≤ (c : Int) := by omega
                  have hwr3 : 0 ≤ (n : Int) + 1 := by omega
                  have Hs1 := Lib.hid hs1
                  have Hs2 := Lib.hid hs2
                  have hn1c : n + 1 ≤ c := by omega
                  have hzr := Hzr.out
                  have Hbt : Hid (∀ w', Keeps (fun _ => False) w w' → Bytes w' (.slice (some ⟨g, o, none⟩) (n + 1) c) (l.take (n + 1))) := Lib.hid (fun w' k => (Hv.out.keeps k (fun _ _ e => e)).to (n + 1) (by omega))
                  have Hll := Lib.hid hl
                  clear hN hs1 hs2 hzv
                  refine wp_region_text [1] (fun _ => False) (fun w' => Keeps (fun _ => False) w w') 9 (by kernel_rfl) (fun _ _ h k => h.trans k) (by kernel_rfl) (Keeps.refl _ _).drew ?_
                  simp only [List.take_succ_cons, List.take_zero, List.drop_succ_cons, List.drop_zero]
                  repeat (first | (refine text_pure (v := ?_) (by rfl) (fun w' => ?_) ?_; rotate_left; (focus ( go_simp; first | done | with_reducible rfl)); simp only [Act.put, List.setIfInBounds_toArray, List.set_cons_zero, List.set_cons_succ]) | (refine text_skip (by rfl) ?_; simp only [Act.put, List.setIfInBounds_toArray, List.set_cons_zero, List.set_cons_succ]))
                  refine text_call (f := 102) (args := #[.int .i64 z]) (fun x : Option Addr × Nat => .slice x.1 N x.2) (fun x w' => SubRow w' w.heap.size (.slice x.1 N x.2) (bytesV (num z))) (by rfl) (by kernel_rfl) (by kernel_rfl) (by kernel_rfl) slice_inj0
                    (fun x => keepStable fun wa wb h k => h.block_keeps k (fun _ _ e => e)) (fun w' => ?_) (fun w' hB hm => ?_) (fun x1 => ?_)
                  · go_simp
                  · refine (rnumber_any z hzr.1 hzr.2 w').mono fun e w'' ⟨v, he, ho, hb⟩ => ?_
                    obtain ⟨q1, c1, rfl, _⟩ := ho.form
                    rw [bytesV_len, HN.out] at he ho
                    exact ⟨(q1, c1), he, Keeps.of_below hb, ho.weaken hB.size⟩
                  simp only [Act.put, List.setIfInBounds_toArray, List.set_cons_zero, List.set_cons_succ]
                  (refine text_read (v := ?_) (by rfl) (by kernel_rfl) (fun w' hB hm => ?_) ?_; rotate_left; (focus (have hcv := conv_bytes (Bytes.of_sub (hm.1 (by kernel_rfl))); rw [Hs1.out] at hcv; (try clear hm); (try clear hB); go_simp; first | done | with_reducible rfl)); simp only [Act.put, List.setIfInBounds_toArray, List.set_cons_zero, List.set_cons_succ])
                  repeat (first | (refine text_pure (v := ?_) (by rfl) (fun w' => ?_) ?_; rotate_left; (focus ( go_simp; first | done | with_reducible rfl)); simp only [Act.put, List.setIfInBounds_toArray, List.set_cons_zero, List.set_cons_succ]) | (refine text_skip (by rfl) ?_; simp only [Act.put, List.setIfInBounds_toArray, List.set_cons_zero, List.set_cons_succ]))
                  (refine text_read (v := ?_) (by rfl) (by kernel_rfl) (fun w' hB hm => ?_) ?_; rotate_left; (focus (have hcv2 := conv_bytes (Hbt.out w' hB); rw [Hs2.out] at hcv2; (try clear hm); (try clear hB); go_simp; first | done | with_reducible rfl)); simp only [Act.put, List.setIfInBounds_toArray, List.set_cons_zero, List.set_cons_succ])
                  repeat (first | (refine text_pure (v := ?_) (by rfl) (fun w' => ?_) ?_; rotate_left; (focus ( go_simp; first | done | with_reducible rfl)); simp only [Act.put, List.setIfInBounds_toArray, List.set_cons_zero, List.set_cons_succ]) | (refine text_skip (by rfl) ?_; simp only [Act.put, List.setIfInBounds_toArray, List.set_cons_zero, List.set_cons_succ]))
                  refine text_nil fun w8 hB hF => ?_
                  have hb8 : Below w.heap.size w w8 := hB.below (Nat.le_refl _) (fun _ _ e => e)
                  have Hb8 := Lib.hid hb8
                  clear hF hB hb8 Hbt
                  go_wp2
                  refine Calm.normal ?_
                  go_wp2
                  go_ret2
                  exact ⟨by rw [he2.out]; rfl, Hb8.out⟩
                · have he2 : Hid (takeW l = (0, 0)) := Lib.hid (by unfold takeW; rw [Hfin.out, if_neg e]; rfl)
                  obtain ⟨s1, hs1⟩ : ∃ s, strB (num z) = s := ⟨_, rfl⟩
                  obtain ⟨s2, hs2⟩ : ∃ s, strB (l.take (n + 1)) = s := ⟨_, rfl⟩
                  have hsn : (s1.toList == s2.toList) = false := by
                    rw [← hs1, ← hs2]
                    unfold strB
                    rw [ByteArray.toList_mk, ByteArray.toList_mk]
                    simpa using e
                  clear e Hfin
                  have hwr : IntKind.i64.wrap ((n : Int) + 1) = (n : Int) + 1 := by rw [IntKind.wrap_i64]; omega
                  have hwr2 : (n : Int) + 1 ≤ (c : Int) := by omega
                  have hwr3 : 0 ≤ (n : Int) + 1 := by omega
                  have Hs1 := Lib.hid hs1
                  have Hs2 := Lib.hid hs2
                  have hn1c : n + 1 ≤ c := by omega
                  have hzr := Hzr.out
                  have Hbt : Hid (∀ w', Keeps (fun _ => False) w w' → Bytes w' (.slice (some ⟨g, o, none⟩) (n + 1) c) (l.take (n + 1))) := Lib.hid (fun w' k => (Hv.out.keeps k (fun _ _ e => e)).to (n + 1) (by omega))
                  have Hll := Lib.hid hl
                  clear hN hs1 hs2 hzv
                  refine wp_region_text [1] (fun _ => False) (fun w' => Keeps (fun _ => False) w w') 9 (by kernel_rfl) (fun _ _ h k => h.trans k) (by kernel_rfl) (Keeps.refl _ _).drew ?_
                  simp only [List.take_succ_cons, List.take_zero, List.drop_succ_cons, List.drop_zero]
                  repeat (first | (refine text_pure (v := ?_) (by rfl) (fun w' => ?_) ?_; rotate_left; (focus ( go_simp; first | done | with_reducible rfl)); simp only [Act.put, List.setIfInBounds_toArray, List.set_cons_zero, List.set_cons_succ]) | (refine text_skip (by rfl) ?_; simp only [Act.put, List.setIfInBounds_toArray, List.set_cons_zero, List.set_cons_succ]))
                  refine text_call (f := 102) (args := #[.int .i64 z]) (fun x : Option Addr × Nat => .slice x.1 N x.2) (fun x w' => SubRow w' w.heap.size (.slice x.1 N x.2) (bytesV (num z))) (by rfl) (by kernel_rfl) (by kernel_rfl) (by kernel_rfl) slice_inj0
                    (fun x => keepStable fun wa wb h k => h.block_keeps k (fun _ _ e => e)) (fun w' => ?_) (fun w' hB hm => ?_) (fun x1 => ?_)
                  · go_simp
                  · refine (rnumber_any z hzr.1 hzr.2 w').mono fun e w'' ⟨v, he, ho, hb⟩ => ?_
                    obtain ⟨q1, c1, rfl, _⟩ := ho.form
                    rw [bytesV_len, HN.out] at he ho
                    exact ⟨(q1, c1), he, Keeps.of_below hb, ho.weaken hB.size⟩
                  simp only [Act.put, List.setIfInBounds_toArray, List.set_cons_zero, List.set_cons_succ]
                  (refine text_read (v := ?_) (by rfl) (by kernel_rfl) (fun w' hB hm => ?_) ?_; rotate_left; (focus (have hcv := conv_bytes (Bytes.of_sub (hm.1 (by kernel_rfl))); rw [Hs1.out] at hcv; (try clear hm); (try clear hB); go_simp; first | done | with_reducible rfl)); simp only [Act.put, List.setIfInBounds_toArray, List.set_cons_zero, List.set_cons_succ])
                  repeat (first | (refine text_pure (v := ?_) (by rfl) (fun w' => ?_) ?_; rotate_left; (focus ( go_simp; first | done | with_reducible rfl)); simp only [Act.put, List.setIfInBounds_toArray, List.set_cons_zero, List.set_cons_succ]) | (refine text_skip (by rfl) ?_; simp only [Act.put, List.setIfInBounds_toArray, List.set_cons_zero, List.set_cons_succ]))
                  (refine text_read (v := ?_) (by rfl) (by kernel_rfl) (fun w' hB hm => ?_) ?_; rotate_left; (focus (have hcv2 := conv_bytes (Hbt.out w' hB); rw [Hs2.out] at hcv2; (try clear hm); (try clear hB); go_simp; first | done | with_reducible rfl)); simp only [Act.put, List.setIfInBounds_toArray, List.set_cons_zero, List.set_cons_succ])
                  repeat (first | (refine text_pure (v := ?_) (by rfl) (fun w' => ?_) ?_; rotate_left; (focus ( go_simp; first | done | with_reducible rfl)); simp only [Act.put, List.setIfInBounds_toArray, List.set_cons_zero, List.set_cons_succ]) | (refine text_skip (by rfl) ?_; simp only [Act.put, List.setIfInBounds_toArray, List.set_cons_zero, List.set_cons_succ]))
                  refine text_nil fun w8 hB hF => ?_
                  have hb8 : Below w.heap.size w w8 := hB.below (Nat.le_refl _) (fun _ _ e => e)
                  have Hb8 := Lib.hid hb8
                  clear hF hB hb8 Hbt
                  go_wp2
                  refine Calm.normal ?_
                  go_wp2
                  go_ret2
                  exact ⟨by rw [he2.out]; rfl, Hb8.out⟩
            · obtain ⟨j, rfl⟩ : ∃ j, i = j + 1 := ⟨i - 1, by omega⟩
              obtain ⟨x, hx⟩ : ∃ x, l[j]? = some x := ⟨_, List.getElem?_eq_getElem (by omega)⟩
              have hv := valB_take (l := l) (m := n + 1) hx (by omega)
              obtain ⟨g', o', e', hcx⟩ := Hat.out j x hx
              cases e'
              have hxl : x.toNat < 256 := x.toNat_lt
              have hji : ((j + 1 : Nat) : Int) - 1 = (j : Int) := by omega
              rw [hji]
              have Hv2 := Lib.hid hv
              have HU := Lib.hid hU
              have hjl : (j : Int) < (l.length : Int) := by omega
              have hj0 : (0 : Int) ≤ (j : Int) := by omega
              clear hv hU hx
              go_wp2
              refine ⟨⟨j, rfl, by omega, ?_⟩, by simp [intOf] <;> omega⟩
              rw [wrapU, wrapU, Hv2.out]
              have := HU.out
              congr 1
              omega
      · have hgI : ¬ (n : Int) < 10 := by omega
        have hno := take_nothing Hg.out hn (.inr (by omega))
        have Hno : Hid (takeW l = (0, 0)) := Lib.hid (by unfold takeW; rw [hno]; rfl)
        clear hno
        go_wp2
        go_ret2
        exact ⟨by rw [Hno.out]; rfl, Below.refl _ _⟩
    · obtain rfl : n = l.length := by omega
      have hno := take_nothing Hg.out hn (.inl rfl)
      have Hno : Hid (takeW l = (0, 0)) := Lib.hid (by unfold takeW; rw [hno]; rfl)
      clear hno
      go_wp2
      go_ret2
      exact ⟨by rw [Hno.out]; rfl, Below.refl _ _⟩
end Go.Proofs.Ytnficiohnhodiaa


/-
  The document's wire: Check.
-/
namespace Go.Proofs.Ytnficiohnhodiaa
open Go.RowKit
theorem not_u32' (r : BitVec 32) : bits .xor .u32 (r.toNat : Int) 4294967295 = ((~~~ r).toNat : Int) := by
  rw [show (4294967295 : Int) = ((4294967295 : Nat) : Int) from by decide, u32_xor_nat _ _ r.isLt (by omega), BitVec.not_def, BitVec.toNat_xor, BitVec.toNat_allOnes, Nat.xor_comm]
set_option maxRecDepth 100000 in
set_option maxHeartbeats 1000000 in
theorem rcheck_any {w : World} {v : Value} {l : List UInt8} (hv : Bytes w v l) :
    Calls Try.prog 121 #[v] w fun e w' => e = .returned (.int .u32 ((crc l).toNat : Int)) ∧ w = w' := by
  obtain ⟨q, cap, rfl, hc1, hc2, h3⟩ := hv
  have H3 := Lib.hid h3
  clear h3
  unfold maxLen at hc2
  go_enter Try.func121, Try.ntmps121
  go_wp2
  go_loop [3, 4] (fun s i => ∃ (j : Nat) (r' : BitVec 32), j ≤ l.length ∧ i = .int .i64 j ∧ s = .int .u32 (r'.toNat : Int) ∧ r' = crcReg (l.take j)) (fun _ i => l.length - (intOf i).toNat)
  case atStart => exact ⟨0, 0xffffffff#32, by omega, rfl, rfl, rfl⟩
  case round =>
    obtain ⟨j, r', hj, rfl, rfl, hr'⟩ := hrel
    have Hr' := Lib.hid hr'
    clear hr'
    by_cases hjl : j < l.length
    · obtain ⟨b, hb⟩ : ∃ b, l[j]? = some b := ⟨_, List.getElem?_eq_getElem hjl⟩
      obtain ⟨a2, rfl, hcb⟩ := H3.out j b hb
      unfold byteV at hcb
      have hxb := xor_byte r' b
      have Htk : Hid (l.take (j + 1) = l.take j ++ [b]) := Lib.hid (by rw [List.take_add_one, hb]; rfl)
      generalize hr0 : r' ^^^ BitVec.ofNat 32 b.toNat = r0 at hxb
      have Hr0 := Lib.hid hr0
      have hbt := b.toNat_lt
      have hbi : (b.toNat : Int) < 256 := by omega
      have hji : (j : Int) < (l.length : Int) := by omega
      clear hb hr0 hbt
      go_wp2
      clear hcb hxb
      go_loop [3, 5] (fun s i => ∃ (m : Nat) (r1 : BitVec 32), m ≤ 8 ∧ i = .int .i64 m ∧ s = .int .u32 (r1.toNat : Int) ∧ r1 = crcBits m r0) (fun _ i => 8 - (intOf i).toNat)
      case atStart => exact ⟨0, r0, by omega, rfl, rfl, rfl⟩
      case round =>
        obtain ⟨m, r1, hm, rfl, rfl, hr1⟩ := hrel
        have Hr1 := Lib.hid hr1
        clear hr1
        have hrl := r1.isLt
        by_cases hm8 : m < 8
        · have Hsucc : Hid (crcBits (m + 1) r0 = crcBit r1) := Lib.hid (by rw [crcBits_succ, Hr1.out])
          by_cases hodd : r1.toNat % 2 = 1
          · have hb1 : ((r1.toNat : Int) % 2 == 1) = true := by simp; omega
            have hx := crcBit_odd hodd
            clear hodd hrl
            go_wp2
            go_round
            case rel => exact ⟨m + 1, crcBit r1, by omega, by go_num, rfl, Hsucc.out.symm⟩
            case measure => simp [intOf]; omega
          · have he : r1.toNat % 2 = 0 := by omega
            have hb1 : ((r1.toNat : Int) % 2 == 1) = false := by simp; omega
            have hx := crcBit_even he
            clear hodd he hrl
            go_wp2
            go_round
            case rel => exact ⟨m + 1, crcBit r1, by omega, by go_num, by first | rfl | rw [hx], Hsucc.out.symm⟩
            case measure => simp [intOf]; omega
        · obtain rfl : m = 8 := by omega
          go_wp2
          go_round
          case rel => exact ⟨j + 1, r1, by omega, by go_num, rfl, by rw [Htk.out, crcReg_snoc, ← Hr'.out, Hr1.out, crcByte, Hr0.out]⟩
          case measure => simp [intOf]; omega
    · obtain rfl : j = l.length := by omega
      have hn := not_u32' r'
      have Hn : Hid (((~~~ r').toNat : Int) = ((crc l).toNat : Int)) := Lib.hid (by unfold crc; rw [Hr'.out, List.take_length])
      generalize ~~~ r' = c at hn Hn
      go_wp2
      go_ret
      exact ⟨by rw [← Hn.out]; rfl, rfl⟩
end Go.Proofs.Ytnficiohnhodiaa


/-
  The document's wire: Box.
-/
namespace Go.Proofs.Ytnficiohnhodiaa
open Go.RowKit
theorem src_list {P : Program} {w : World} {t e : TypeId} (ht : P.underlying t = some (.slice e)) (xs : List Value) (hx : ∀ u ∈ xs, u.oneCell' = true) (T : TypeId) : Src P 1 t (.slice (some ⟨w.heap.size, 0, none⟩) xs.length xs.length) xs.length xs (w.alloc (.cells xs.toArray T)) := by
  refine Src.ofSlice _ ht ⟨w.heap.size, 0, none⟩ xs.length xs.length _ (by simp) (fun j u hu => ?_) hx
  rw [Addr.add_mid, Nat.zero_add]
  exact cell_in (heap_alloc_new w _) (by simpa using hu)
theorem sub_new {w : World} {B : Nat} (xs : List Value) {T : TypeId} (h : B ≤ w.heap.size) (hl : xs.length ≤ maxLen) : SubRow (w.alloc (.cells xs.toArray T)) B (.slice (some ⟨w.heap.size, 0, none⟩) xs.length xs.length) xs := by
  have hh := heap_alloc_new w (.cells xs.toArray T)
  refine .inr ⟨w.heap.size, 0, xs.length, rfl, h, by simp, Nat.le_refl _, hl, fun j hj => ?_, fun j u hu => ?_⟩
  · rw [Nat.zero_add, cell_in (o := j) (u := xs[j]) hh (by simp)]
    exact ⟨rfl, free_in hh⟩
  · rw [Nat.zero_add]; exact cell_in hh (by simpa using hu)
set_option maxRecDepth 100000 in
set_option maxHeartbeats 4000000 in
theorem rbox_ok {w : World} {v : Value} {l : List UInt8} (hv : Bytes w v l) (hl : l.length ≤ 506) : Calls Try.prog 101 #[.int .i64 512, v] w fun e w' => ∃ v', e = .returned (.tuple #[v', .int .i64 0]) ∧ SubRow w' w.heap.size v' (bytesV (boxOf 512 l)) ∧ Below w.heap.size w w' := by
  obtain ⟨i0, hi, hz0, hz1, hz2⟩ := info_parts info8
  have Hv := Lib.hid hv
  obtain ⟨q, c, rfl, hc, hm, _⟩ := hv
  obtain ⟨N, hN⟩ : ∃ N, l.length = N := ⟨_, rfl⟩
  have HN := Lib.hid hN
  rw [hN] at hc hl ⊢
  clear hN
  go_enter Try.func101, Try.ntmps101
  go_upto_region 6 with fail
  have hal0 : Below w.heap.size w (w.alloc (.cells #[.int .u8 ((N : Int) / 256), .int .u8 ((N : Int) % 256)] 5)) := (Below.refl _ _).alloc (Nat.le_refl _) _
  have hr0 : SubRow (w.alloc (.cells #[.int .u8 ((N : Int) / 256), .int .u8 ((N : Int) % 256)] 5)) w.heap.size (.slice (some ⟨w.heap.size, 0, none⟩) 2 2) (bytesV [UInt8.ofNat (N / 256), UInt8.ofNat N]) := by
    have h1 : byteV (UInt8.ofNat (N / 256)) = .int .u8 ((N : Int) / 256) := by unfold byteV; rw [ofNat_toNat (by omega)]; congr 1
    have h2 : byteV (UInt8.ofNat N) = .int .u8 ((N : Int) % 256) := by unfold byteV; rw [UInt8.toNat_ofNat']; congr 1
    have e : bytesV [UInt8.ofNat (N / 256), UInt8.ofNat N] = [.int .u8 ((N : Int) / 256), .int .u8 ((N : Int) % 256)] := by
      show [byteV (UInt8.ofNat (N / 256)), byteV (UInt8.ofNat N)] = _
      rw [h1, h2]
    rw [e]
    exact sub_new [_, _] (Nat.le_refl _) (by unfold maxLen; simp)
  have hs0 := hal0.size
  have hv0 : Bytes (w.alloc (.cells #[.int .u8 ((N : Int) / 256), .int .u8 ((N : Int) % 256)] 5)) (.slice q N c) l := by
    have h := Hv.out.below hal0
    rw [HN.out] at h
    exact h
  have hsrc := hv0.src
  have Hal0 := Lib.hid hal0
  have Hr0 := Lib.hid hr0
  obtain ⟨hdr, hhd⟩ : ∃ hdr, [UInt8.ofNat (N / 256), UInt8.ofNat N] = hdr := ⟨_, rfl⟩
  rw [hhd] at Hr0
  have Hhd := Lib.hid hhd
  have Hhl : Hid (hdr.length = 2) := Lib.hid (by rw [← hhd]; rfl)
  clear hal0 hr0 hv0 hhd
  generalize w.alloc (.cells #[.int .u8 ((N : Int) / 256), .int .u8 ((N : Int) % 256)] 5) = w1 at Hal0 Hr0 hs0 hsrc ⊢
  go_upto_region 7 with (at_builtin; refine wpList_append_sub _ rfl _ _ 52 rfl 5 i0 (.int .u8 0) 1 Try.underlying52 hi hz0 hz1 hz2 rfl w.heap.size _ (bytesV hdr) rfl Hr0.out _ rfl (bytesV l) hsrc (by have := Hhl.out; have := HN.out; rw [bytesV_len, bytesV_len]; unfold maxLen; omega) (by have := Hhl.out; have := HN.out; rw [bytesV_len, bytesV_len]; omega) (by exact hs0) ?_; intro v7 w7 h7 hk7 hn7)
  have hb7 : Below w.heap.size w w7 := Hal0.out.trans (hk7.below hs0 (fun j hj e => by have e2 : some w.heap.size = some j := e; injection e2 with e2; omega))
  have H7 : Hid (SubRow w7 w.heap.size v7 (bytesV (hdr ++ l ++ List.replicate 0 0))) := Lib.hid (by rw [List.replicate_zero, List.append_nil]; unfold bytesV; rw [List.map_append]; exact h7)
  have Hb7 := Lib.hid hb7
  clear h7 hk7 hn7 hb7 hsrc Hal0 Hr0
  go_wp2
  go_loopw [6] (fun v6 wr => ∃ k : Nat, N + k ≤ 506 ∧ SubRow wr w.heap.size v6 (bytesV (hdr ++ l ++ List.replicate k 0)) ∧ Below w.heap.size w wr) (fun v6 _ => 508 - (match v6 with | .slice _ n _ => n | _ => 0))
  case atStart => exact ⟨0, hl, H7.out, Hb7.out⟩
  case round =>
    obtain ⟨k, hk, hO, hb⟩ := hrel
    have hsr := hb.size
    have hlt7 := hO.lt
    have Hlen : Hid ((hdr ++ l ++ List.replicate k (0 : UInt8)).length = 2 + N + k) := Lib.hid (by rw [List.length_append, List.length_append, List.length_replicate, Hhl.out, HN.out])
    obtain ⟨q6, c6, e6, _, _⟩ := hO.form
    rw [bytesV_len, Hlen.out] at e6
    subst e6
    by_cases hlt : N + k < 506
    · have hlI : ((2 + N + k : Nat) : Int) < 508 := by omega
      go_wp2_with (at_builtin; refine wpList_append_sub _ rfl _ _ 52 rfl 5 i0 (.int .u8 0) 1 Try.underlying52 hi hz0 hz1 hz2 rfl w.heap.size _ (bytesV (hdr ++ l ++ List.replicate k 0)) rfl (SubRow.below hO ((Below.refl _ _).alloc (Nat.le_refl _) _)) _ rfl [.int .u8 0] (src_cell Try.underlying52 _ rfl _) (by have := Hlen.out; rw [bytesV_len]; simp only [List.length_cons, List.length_nil]; unfold maxLen; omega) (by have := Hlen.out; rw [bytesV_len]; simp only [List.length_cons, List.length_nil]; omega) (by simp; omega) ?_; intro v9 w9 h9 hk9 hn9)
      have hb9 : Below w.heap.size w w9 := (hb.alloc hsr _).trans (hk9.below (by simp; omega) (fun j hj e => by have := (hlt7 j e).1; omega))
      have h9' : SubRow w9 w.heap.size v9 (bytesV (hdr ++ l ++ List.replicate (k + 1) 0)) := by
        rw [List.replicate_succ', ← List.append_assoc]
        unfold bytesV
        rw [List.map_append]
        exact h9
      obtain ⟨q9, c9, e9, _, _⟩ := h9'.form
      rw [bytesV_len] at e9
      have hl9 : (hdr ++ l ++ List.replicate (k + 1) (0 : UInt8)).length = 2 + N + k + 1 := by rw [List.length_append, List.length_append, List.length_replicate, Hhl.out, HN.out]; omega
      rw [hl9] at e9
      subst e9
      clear hk9 hn9 h9 hO
      go_wp2
      go_roundw
      case rel => exact ⟨k + 1, by omega, h9', hb9⟩
      case measure => simp only []; omega
    · have hk2 : k = 506 - N := by omega
      subst hk2
      have hlI : ¬ ((2 + N + (506 - N) : Nat) : Int) < 508 := by omega
      have hbody : hdr ++ l ++ List.replicate (506 - N) (0 : UInt8) = boxBody 512 l := by
        unfold boxBody
        rw [← Hhd.out, HN.out]
        simp
      rw [hbody] at hO Hlen
      rw [show 2 + N + (506 - N) = 508 from by omega] at hO Hlen hlI ⊢
      have hck := rcheck_any (Bytes.of_sub hO)
      have HO := Lib.hid hO
      have Hb := Lib.hid hb
      have hbl : (boxBody 512 l).length = 508 := boxBody_len (by rw [HN.out]; omega)
      have Hbl := Lib.hid hbl
      have hcc : boxOf 512 l = crcBytes (crc (boxBody 512 l)) ++ boxBody 512 l := rfl
      have Hcc := Lib.hid hcc
      obtain ⟨body, hby⟩ : ∃ body, boxBody 512 l = body := ⟨_, rfl⟩
      rw [hby] at hck HO Hcc Hbl
      have hcl := (crc body).isLt
      obtain ⟨cr, hcr⟩ : ∃ cr, (crc body).toNat = cr := ⟨_, rfl⟩
      have Hcr := Lib.hid hcr
      rw [hcr] at hck hcl
      clear hcr hby hbl hcc hbody hO hb Hlen
      go_upto_region 10 with (go_at_call 121; (with_reducible refine hck.mono ?_); rintro _ _ ⟨rfl, rfl⟩; clear hck)
      have e4 : bytesV (crcBytes (crc body)) = [.int .u8 ((cr : Int) / 16777216), .int .u8 ((cr : Int) / 65536 % 256), .int .u8 ((cr : Int) / 256 % 256), .int .u8 ((cr : Int) % 256)] := by
        unfold crcBytes
        rw [Hcr.out]
        show [byteV _, byteV _, byteV _, byteV _] = _
        unfold byteV
        simp only [UInt8.toNat_ofNat']
        refine List.cons_eq_cons.2 ⟨?_, List.cons_eq_cons.2 ⟨?_, List.cons_eq_cons.2 ⟨?_, List.cons_eq_cons.2 ⟨?_, rfl⟩⟩⟩⟩ <;> congr 1 <;> omega
      have hal4 : Below wr.heap.size wr (wr.alloc (.cells #[.int .u8 ((cr : Int) / 16777216), .int .u8 ((cr : Int) / 65536 % 256), .int .u8 ((cr : Int) / 256 % 256), .int .u8 ((cr : Int) % 256)] 5)) := (Below.refl _ _).alloc (Nat.le_refl _) _
      have h4 : SubRow (wr.alloc (.cells #[.int .u8 ((cr : Int) / 16777216), .int .u8 ((cr : Int) / 65536 % 256), .int .u8 ((cr : Int) / 256 % 256), .int .u8 ((cr : Int) % 256)] 5)) w.heap.size (.slice (some ⟨wr.heap.size, 0, none⟩) 4 4) (bytesV (crcBytes (crc body))) := by
        rw [e4]
        exact sub_new [_, _, _, _] Hb.out.size (by unfold maxLen; simp)
      have hbb : Bytes (wr.alloc (.cells #[.int .u8 ((cr : Int) / 16777216), .int .u8 ((cr : Int) / 65536 % 256), .int .u8 ((cr : Int) / 256 % 256), .int .u8 ((cr : Int) % 256)] 5)) (.slice q6 508 c6) body := (Bytes.of_sub HO.out).below hal4
      have hsrc := hbb.src
      have hsr4 : w.heap.size ≤ (wr.alloc (.cells #[.int .u8 ((cr : Int) / 16777216), .int .u8 ((cr : Int) / 65536 % 256), .int .u8 ((cr : Int) / 256 % 256), .int .u8 ((cr : Int) % 256)] 5)).heap.size := Nat.le_trans Hb.out.size hal4.size
      have Hal4 := Lib.hid hal4
      have H4 := Lib.hid h4
      have Hl4 : Hid ((bytesV (crcBytes (crc body))).length = 4) := Lib.hid (by rw [e4]; rfl)
      clear e4 hal4 h4 hbb HO hlt7
      go_wp2_with (at_builtin; refine wpList_append_sub _ rfl _ _ 52 rfl 5 i0 (.int .u8 0) 1 Try.underlying52 hi hz0 hz1 hz2 rfl w.heap.size _ (bytesV (crcBytes (crc body))) rfl H4.out _ rfl (bytesV body) hsrc (by have := Hl4.out; have := Hbl.out; rw [bytesV_len body]; unfold maxLen; omega) (by have := Hl4.out; have := Hbl.out; rw [bytesV_len body]; omega) hsr4 ?_; intro v9 w9 h9 hk9 hn9)
      have hb9 : Below w.heap.size w w9 := (Hb.out.trans (Hal4.out.mono Hb.out.size)).trans (hk9.below hsr4 (fun j hj e => by have e2 : some wr.heap.size = some j := e; injection e2 with e2; have := Hb.out.size; omega))
      have h9' : SubRow w9 w.heap.size v9 (bytesV (boxOf 512 l)) := by
        rw [Hcc.out]
        unfold bytesV at h9 ⊢
        rw [List.map_append]
        exact h9
      clear hk9 hn9 h9
      go_wp2
      go_ret2
      exact ⟨_, rfl, h9', hb9⟩
set_option maxRecDepth 100000 in
theorem rbox_bad {w : World} {v : Value} {l : List UInt8} (hv : Bytes w v l) (hl : 506 < l.length) : Calls Try.prog 101 #[.int .i64 512, v] w fun e w' => e = .returned (.tuple #[.slice none 0 0, .int .i64 2]) ∧ w = w' := by
  obtain ⟨q, c, rfl, hc, hm, _⟩ := hv
  have hlI : (506 : Int) < (l.length : Int) := by omega
  go_enter Try.func101, Try.ntmps101
  go_wp2
  go_ret2
  exact ⟨rfl, rfl⟩
end Go.Proofs.Ytnficiohnhodiaa


/-
  The document's wire: Unbox.
-/
namespace Go.Proofs.Ytnficiohnhodiaa
open Go.RowKit
theorem drop_bytes {w : World} {g o cap : Nat} {l : List UInt8} (h : Bytes w (.slice (some ⟨g, o, none⟩) l.length cap) l) (k n : Nat) (hk : k + n ≤ l.length) : Bytes w (.slice (some ⟨g, o + k, none⟩) n (cap - k)) ((l.drop k).take n) := by
  obtain ⟨q', cap', e, h1, h2, h3⟩ := h
  cases e
  have hlen : ((l.drop k).take n).length = n := by rw [List.length_take, List.length_drop]; omega
  refine ⟨_, _, by rw [hlen], by omega, by omega, fun j b hb => ?_⟩
  have hj := (List.getElem?_eq_some_iff.1 hb).1
  rw [List.getElem?_take, if_pos (by omega), List.getElem?_drop] at hb
  obtain ⟨a, e, hc⟩ := h3 (k + j) b hb
  cases e
  refine ⟨_, rfl, ?_⟩
  rw [Addr.add_mid] at hc ⊢
  rw [Nat.add_assoc]; exact hc
theorem bytes_mid {w : World} {q : Option Addr} {n cap : Nat} {l : List UInt8} (h : Bytes w (.slice q n cap) l) (h0 : 1 ≤ l.length) : ∃ g o, q = some ⟨g, o, none⟩ := by
  obtain ⟨q', cap', e, h1, h2, h3⟩ := h
  cases e
  obtain ⟨b, hb⟩ : ∃ b, l[0]? = some b := ⟨_, List.getElem?_eq_getElem (by omega)⟩
  obtain ⟨a, rfl, hc⟩ := h3 0 b hb
  have hz : a.add 0 = a := by simp [Addr.add]
  rw [hz] at hc
  have hsp := spot_none hc
  obtain ⟨g, o, sp⟩ := a
  cases hsp
  exact ⟨g, o, rfl⟩
theorem unbox_512 {l : List UInt8} (hl : l.length = 512) : unbox l = if 506 < boxN l then none else if boxOf 512 ((l.drop 6).take (boxN l)) = l then some ((l.drop 6).take (boxN l)) else none := by
  unfold unbox
  rw [hl, if_neg (by omega)]
def RUnboxPost (l : List UInt8) (w : World) (e : Ending) (w' : World) : Prop :=
  (unbox l = none → e = .returned (.tuple #[.slice none 0 0, .bool false])) ∧ (∀ r, unbox l = some r → ∃ v', e = .returned (.tuple #[v', .bool true]) ∧ SubRow w' w.heap.size v' (bytesV r)) ∧ Below w.heap.size w w'
set_option maxRecDepth 100000 in
set_option maxHeartbeats 4000000 in
theorem runbox_any {w : World} {v : Value} {l : List UInt8} (hv : Bytes w v l) (hl : l.length = 512) : Calls Try.prog 104 #[v] w (RUnboxPost l w) := by
  obtain ⟨i0, hi, hz0, hz1, hz2⟩ := info_parts info8
  have Hv := Lib.hid hv
  obtain ⟨M, hM⟩ : ∃ M : Nat, M = 512 := ⟨_, rfl⟩
  have HM := Lib.hid hM
  have Hl := Lib.hid hl
  obtain ⟨q, c, e, hc, hm, _⟩ := id hv
  subst e
  obtain ⟨g, o, rfl⟩ := bytes_mid hv (by omega)
  obtain ⟨b4, h4⟩ : ∃ b, l[4]? = some b := ⟨_, List.getElem?_eq_getElem (by omega)⟩
  obtain ⟨b5, h5⟩ : ∃ b, l[5]? = some b := ⟨_, List.getElem?_eq_getElem (by omega)⟩
  have c4 := hv.cell h4
  have c5 := hv.cell h5
  rw [Addr.add_mid] at c4 c5
  have hbn : boxN l = b4.toNat * 256 + b5.toNat := by
    unfold boxN
    rw [List.getD_eq_getElem?_getD, List.getD_eq_getElem?_getD, h4, h5]; rfl
  have Hu := Lib.hid (unbox_512 hl)
  have h4l : b4.toNat < 256 := b4.toNat_lt
  have h5l : b5.toNat < 256 := b5.toNat_lt
  rw [hl, ← hM] at hc ⊢
  have hM6 : ¬ (M : Int) < 6 := by omega
  unfold maxLen at hm
  have h4I : (4 : Int) < (M : Int) := by omega
  have h5I : (5 : Int) < (M : Int) := by omega
  obtain ⟨n, hn⟩ : ∃ n, boxN l = n := ⟨_, rfl⟩
  rw [hn] at Hu hbn
  have e4 : IntKind.i64.wrap (b4.toNat : Int) = (b4.toNat : Int) := by rw [IntKind.wrap_i64]; omega
  have e5 : IntKind.i64.wrap (b5.toNat : Int) = (b5.toNat : Int) := by rw [IntKind.wrap_i64]; omega
  have e6 : IntKind.i64.wrap (256 * (b4.toNat : Int)) = 256 * (b4.toNat : Int) := by rw [IntKind.wrap_i64]; omega
  have e7 : IntKind.i64.wrap (256 * (b4.toNat : Int) + (b5.toNat : Int)) = (n : Int) := by rw [IntKind.wrap_i64]; omega
  have hn64 : n < 65536 := by omega
  clear hv h4 h5 hl hM hn hbn h4l h5l
  go_enter Try.func104, Try.ntmps104
  go_upto_region 3 with fail
  refine wp_region_text [] (fun _ => False) (fun w' => Keeps (fun _ => False) w w') 10 (by kernel_rfl) (fun _ _ h k => h.trans k) (by kernel_rfl) (Keeps.refl _ _).drew ?_
  simp only [List.take_succ_cons, List.take_zero, List.drop_succ_cons, List.drop_zero]
  repeat (first | (refine text_pure (v := ?_) (by rfl) (fun w' => ?_) ?_; rotate_left; (focus ( go_simp; first | done | with_reducible rfl)); simp only [Act.put, List.setIfInBounds_toArray, List.set_cons_zero, List.set_cons_succ]) | (refine text_skip (by rfl) ?_; simp only [Act.put, List.setIfInBounds_toArray, List.set_cons_zero, List.set_cons_succ]))
  (refine text_read (v := ?_) (by rfl) (by kernel_rfl) (fun w' hB hm => ?_) ?_; rotate_left; (focus (have hcA := hB.cell c4 (fun e => e); (try clear hm); (try clear hB); go_simp; first | done | with_reducible rfl)); simp only [Act.put, List.setIfInBounds_toArray, List.set_cons_zero, List.set_cons_succ])
  repeat (first | (refine text_pure (v := ?_) (by rfl) (fun w' => ?_) ?_; rotate_left; (focus ( go_simp; first | done | with_reducible rfl)); simp only [Act.put, List.setIfInBounds_toArray, List.set_cons_zero, List.set_cons_succ]) | (refine text_skip (by rfl) ?_; simp only [Act.put, List.setIfInBounds_toArray, List.set_cons_zero, List.set_cons_succ]))
  (refine text_read (v := ?_) (by rfl) (by kernel_rfl) (fun w' hB hm => ?_) ?_; rotate_left; (focus (have hcA := hB.cell c5 (fun e => e); (try clear hm); (try clear hB); go_simp; first | done | with_reducible rfl)); simp only [Act.put, List.setIfInBounds_toArray, List.set_cons_zero, List.set_cons_succ])
  repeat (first | (refine text_pure (v := ?_) (by rfl) (fun w' => ?_) ?_; rotate_left; (focus ( go_simp; first | done | with_reducible rfl)); simp only [Act.put, List.setIfInBounds_toArray, List.set_cons_zero, List.set_cons_succ]) | (refine text_skip (by rfl) ?_; simp only [Act.put, List.setIfInBounds_toArray, List.set_cons_zero, List.set_cons_succ]))
  refine text_nil fun w1 hB hF => ?_
  have hb1 : Below w.heap.size w w1 := hB.below (Nat.le_refl _) (fun _ _ e => e)
  have Hb1 := Lib.hid hb1
  clear hF hB hb1 c4 c5
  clear e4 e5 e6 e7 h4I h5I
  by_cases hbig : 506 < n
  · have Hun : Hid (unbox l = none) := Lib.hid (by rw [Hu.out, if_pos hbig])
    have hbI : (M : Int) - 6 < (n : Int) := by have := HM.out; omega
    go_wp2
    refine Calm.normal ?_
    go_wp2
    go_ret2
    exact ⟨fun _ => rfl, (fun r e => by rw [Hun.out] at e; cases e), Hb1.out⟩
  · have hbI : ¬ (M : Int) - 6 < (n : Int) := by have := HM.out; omega
    obtain ⟨x, hx⟩ : ∃ x, (l.drop 6).take n = x := ⟨_, rfl⟩
    have hxb : Bytes w1 (.slice (some ⟨g, o + 6, none⟩) n (c - 6)) x := by rw [← hx]; exact drop_bytes (Hv.out.below Hb1.out) 6 n (by have := Hl.out; omega)
    have hxl : x.length = n := by rw [← hx, List.length_take, List.length_drop, Hl.out]; omega
    have Hu2 : Hid (unbox l = if boxOf 512 x = l then some x else none) := Lib.hid (by rw [Hu.out, if_neg hbig, hx])
    have Hxb := Lib.hid hxb
    have Hxl := Lib.hid hxl
    have hbox := rbox_ok hxb (by omega)
    rw [show (512 : Int) = (M : Int) from by have := HM.out; omega] at hbox
    have hc6 : ¬ c = 6 := by have := HM.out; omega
    have hn6 : n + 6 ≤ c := by have := HM.out; omega
    clear hx hxb hxl
    go_wp2
    refine Calm.normal ?_
    go_upto_region 7 with (go_at_call 101; (with_reducible refine hbox.mono ?_); rintro _ w2 ⟨v5, rfl, h5, b5⟩; clear hbox; have H5 := Lib.hid h5; have Hb2 := Lib.hid (Hb1.out.trans (b5.mono Hb1.out.size)); have Hb12 := Lib.hid b5; clear h5 b5)
    obtain ⟨q5, c5, e5, _, _⟩ := H5.out.form
    rw [bytesV_len] at e5
    have hbl : (boxOf 512 x).length = M := by rw [HM.out]; exact boxOf_len (by rw [Hxl.out]; omega)
    rw [hbl] at e5
    subst e5
    have hcv1 : (convert 52 9 (.slice q5 M c5)).run Try.prog w2 = .ok (.string (strB (boxOf 512 x))) w2 := conv_bytes (Bytes.of_sub H5.out)
    have hbv2 : Bytes w2 (.slice (some ⟨g, o, none⟩) M c) l := by
      have h := Hv.out.below Hb2.out
      rw [Hl.out, ← HM.out] at h
      exact h
    have hcv2 := conv_bytes hbv2
    obtain ⟨s1, hs1⟩ : ∃ s, strB (boxOf 512 x) = s := ⟨_, rfl⟩
    obtain ⟨s2, hs2⟩ : ∃ s, strB l = s := ⟨_, rfl⟩
    rw [hs1] at hcv1
    rw [hs2] at hcv2
    by_cases heq : boxOf 512 x = l
    · have Hun : Hid (unbox l = some x) := Lib.hid (by rw [Hu2.out, if_pos heq])
      have hss : s1 = s2 := by rw [← hs1, ← hs2, heq]
      subst hss
      have Hx2 := Lib.hid (Hxb.out.below Hb12.out)
      have hsz2 := Hb2.out.size
      clear heq hs1 hs2 hbl hbv2
      have hsrc : Src Try.prog 1 52 (.slice (some ⟨g, o + 6, none⟩) n (c - 6)) (bytesV x).length (bytesV x) (w2.alloc (.cells #[] 5)) := by
        have h := Hx2.out.below ((Below.refl w2.heap.size w2).alloc (Nat.le_refl _) (.cells #[] 5))
        exact h.src
      have hO : SubRow (w2.alloc (.cells #[] 5)) w.heap.size (.slice (some ⟨w2.heap.size, 0, none⟩) 0 0) (bytesV []) := sub_new [] hsz2 (by unfold maxLen; simp)
      have hm1 : (bytesV ([] : List UInt8)).length + (bytesV x).length ≤ maxLen := by have := Hxl.out; rw [bytesV_len, bytesV_len]; unfold maxLen; simp only [List.length_nil]; omega
      have hm2 : ((bytesV ([] : List UInt8)).length + (bytesV x).length) * 1 ≤ 140737488355328 := by have := Hxl.out; rw [bytesV_len, bytesV_len]; simp only [List.length_nil]; omega
      have hm3 : w.heap.size ≤ (w2.alloc (.cells #[] 5)).heap.size := by simp; omega
      have Hm := Lib.hid (And.intro hm1 (And.intro hm2 hm3))
      have HO := Lib.hid hO
      have HSrc : Hid (Src Try.prog 1 52 (.slice (some ⟨g, o + 6, none⟩) (6 + n - 6) (c - 6)) (bytesV x).length (bytesV x) (w2.alloc (.cells #[] 5))) := Lib.hid (by rw [Nat.add_sub_cancel_left]; exact hsrc)
      clear hm1 hm2 hm3 hO hsrc
      go_wp2_with (at_builtin; refine wpList_append_sub _ rfl _ _ 52 rfl 5 i0 (.int .u8 0) 1 Try.underlying52 hi hz0 hz1 hz2 rfl w.heap.size _ (bytesV []) rfl HO.out _ rfl (bytesV x) HSrc.out Hm.out.1 Hm.out.2.1 Hm.out.2.2 ?_; intro v9 w9 h9 hk9 hn9)
      have hb9 : Below w.heap.size w w9 := (Hb2.out.alloc hsz2 _).trans (hk9.below (by simp; omega) (fun j hj e => by have e2 : some w2.heap.size = some j := e; injection e2 with e2; omega))
      have h9' : SubRow w9 w.heap.size v9 (bytesV x) := h9
      clear hk9 hn9 h9
      go_wp2
      go_ret2
      exact ⟨(fun e => by rw [Hun.out] at e; cases e), (fun r e => by rw [Hun.out] at e; cases e; exact ⟨_, rfl, h9'⟩), hb9⟩
    · have Hun : Hid (unbox l = none) := Lib.hid (by rw [Hu2.out, if_neg heq])
      have hsn : (s1.toList == s2.toList) = false := by
        rw [← hs1, ← hs2]
        unfold strB
        rw [ByteArray.toList_mk, ByteArray.toList_mk]
        simpa using heq
      clear heq hs1 hs2 hbl hbv2
      go_wp2
      go_ret2
      exact ⟨fun _ => rfl, (fun r e => by rw [Hun.out] at e; cases e), Hb2.out⟩
end Go.Proofs.Ytnficiohnhodiaa


/-
  The document's slots: Sector, fits.
-/
namespace Go.Proofs.Ytnficiohnhodiaa
open Go.RowKit
set_option maxRecDepth 100000 in
theorem rsector_long {w : World} {v : Value} {r : List UInt8} (n : Int) (hv : Bytes w v r) (hl : 480 < r.length) : Calls Try.prog 87 #[.int .i64 n, v] w fun e w' => e = .returned (.tuple #[.slice none 0 0, .int .i64 2]) ∧ w = w' := by
  obtain ⟨q, c, rfl, hc, hm, _⟩ := hv
  have hlI : (480 : Int) < (r.length : Int) := by omega
  go_enter Try.func87, Try.ntmps87
  go_wp2
  go_ret2
  exact ⟨rfl, rfl⟩
set_option maxRecDepth 100000 in
set_option maxHeartbeats 2000000 in
theorem rsector_ok {w : World} {v : Value} {r : List UInt8} {n : Int} (h1 : -9223372036854775808 ≤ n) (h2 : n ≤ 9223372036854775807) (hv : Bytes w v r) (hl : r.length ≤ 480) : Calls Try.prog 87 #[.int .i64 n, v] w fun e w' => ∃ v', e = .returned (.tuple #[v', .int .i64 0]) ∧ SubRow w' w.heap.size v' (bytesV (secOf n r)) ∧ Below w.heap.size w w' := by
  obtain ⟨i0, hi, hz0, hz1, hz2⟩ := info_parts info8
  have Hv := Lib.hid hv
  obtain ⟨q, c, rfl, hc, hm, _⟩ := hv
  have hlI : (r.length : Int) ≤ 480 := by omega
  have hnu := rnumber_any n h1 h2 w
  have Hin := Lib.hid (sec_in (n := n) hl)
  have Hl := Lib.hid hl
  have Hnl := Lib.hid (num_len n)
  clear hc hm
  go_enter Try.func87, Try.ntmps87
  go_wp2_with (first
    | (go_at_call 102; (with_reducible refine hnu.mono ?_); rintro _ w1 ⟨v1, rfl, h1, b1⟩; clear hnu; (obtain ⟨q1, c1, e1, _, _⟩ := h1.form); subst e1; have H1 := Lib.hid h1; have HB1 := Lib.hid b1; have hs1 := b1.size; have hrw := rrow_any (Hv.out.below b1) (by have := Hl.out; omega); clear h1 b1)
    | (go_at_call 103; (with_reducible refine hrw.mono ?_); rintro _ w2 ⟨v2, rfl, h2, b2⟩; clear hrw; (obtain ⟨q2, c2, e2, _, _⟩ := h2.form); subst e2; have H2 := Lib.hid h2; have HB2 := Lib.hid (HB1.out.trans (b2.mono HB1.out.size)); have hs2 := HB2.out.size; have H12 := Lib.hid (H1.out.below b2); have hsrc := (Bytes.of_sub h2).src; clear h2 b2)
    | (at_builtin; refine wpList_append_sub _ rfl _ _ 52 rfl 5 i0 (.int .u8 0) 1 Try.underlying52 hi hz0 hz1 hz2 rfl w.heap.size _ (bytesV (num n)) rfl H12.out _ rfl (bytesV (rowB r)) hsrc (by have := Hin.out; rw [List.length_append] at this; rw [bytesV_len, bytesV_len]; unfold maxLen; omega) (by have := Hin.out; rw [List.length_append] at this; rw [bytesV_len, bytesV_len]; omega) hs2 ?_; intro v7 w7 h7 hk7 hn7; (have hb7 : Below w.heap.size w w7 := HB2.out.trans (hk7.below HB2.out.size (fun j hj e => by have := (H1.out.lt j e).1; omega))); (have h7' : SubRow w7 w.heap.size v7 (bytesV (num n ++ rowB r)) := by unfold bytesV; rw [List.map_append]; exact h7); have HB7 := Lib.hid hb7; have hbx := rbox_ok (Bytes.of_sub h7') (by have := Hin.out; omega); clear h7 hk7 hn7 hb7 hsrc)
    | (go_at_call 101; (with_reducible refine hbx.mono ?_); rintro _ w8 ⟨v8, rfl, h8, b8⟩; clear hbx; have H8 : Hid (SubRow w8 w.heap.size v8 (bytesV (secOf n r))) := Lib.hid (SubRow.weaken h8 HB7.out.size); have HB8 := Lib.hid (HB7.out.trans (b8.mono HB7.out.size)); clear h8 b8))
  go_ret2
  exact ⟨_, rfl, H8.out, HB8.out⟩
set_option maxRecDepth 100000 in
theorem rfits_any {w : World} {B : Nat} {A : RAd} {d : Dev} {L : Int} (h : RefAt w B A d L) (hz1 : 1 ≤ d.size) (hz2 : d.size ≤ 4096) (at_ : Int) : Calls Try.prog 86 #[.pointer (some ⟨A.b, 0, none⟩), .int .i64 at_] w fun e w' => e = .returned (.bool (fitsB d at_)) ∧ w = w' := by
  have c0 := h.cells.c0
  obtain ⟨q, c, ev, _, _⟩ := h.now.form
  obtain ⟨N, hN⟩ : ∃ N, d.size.toNat = N := ⟨_, rfl⟩
  rw [ev, hN] at c0
  have hNd : d.size = (N : Int) := by omega
  have hfb : fitsB d at_ = (decide (0 ≤ at_) && decide (at_ < (N : Int) - 1)) := by unfold fitsB; rw [hNd, Bool.decide_and]
  rw [hfb]
  clear h ev hfb
  by_cases h0 : 0 ≤ at_
  · go_enter Try.func86, Try.ntmps86
    go_wp2
    go_ret
    exact ⟨by simp [h0], rfl⟩
  · have h0' : ¬ at_ ≥ 0 := by omega
    go_enter Try.func86, Try.ntmps86
    go_wp2
    go_ret
    exact ⟨by rw [show decide (0 ≤ at_) = false from by simpa using h0']; rfl, rfl⟩
end Go.Proofs.Ytnficiohnhodiaa
