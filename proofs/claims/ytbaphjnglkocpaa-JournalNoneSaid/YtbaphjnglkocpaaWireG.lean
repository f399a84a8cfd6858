import Derived.Test.YtbaphjnglkocpaaWireF
import Derived.Test.YtbaphjnglkocpaaWireC
import Derived.Test.YtbaphjnglkocpaaShelf
import Derived.Lib.Strings
/-
  Boxes: Unbox.
-/
namespace Go.Proofs.Ytbaphjnglkocpaa
open Go.RowKit
theorem or_hi_lo (a b : Nat) (ha : a < 256) (hb : b < 256) : bits .or .i64 ((a : Int) * 256) (b : Int) = ((a * 256 + b : Nat) : Int) := by
  have hk : ∀ n : Int, 0 ≤ n → n < 2 ^ 62 → IntKind.i64.wrap n = n := fun n h0 h1 => by rw [IntKind.wrap_i64]; omega
  have h := (bits_nat .i64 62 (by decide) hk (a * 256) b (by omega) (by omega)).2
  rw [show (a : Int) * 256 = ((a * 256 : Nat) : Int) from by omega, h, nat_join 8 (a * 256) b (by omega) (by omega)]
theorem or_hi_lo' (a b : Nat) (ha : a < 256) (hb : b < 256) : bits .or .i64 (wrap64 (wrap64 (a : Int) * 256)) (wrap64 (b : Int)) = ((a * 256 + b : Nat) : Int) := by
  rw [show wrap64 (a : Int) = a from by unfold wrap64; omega, show wrap64 (b : Int) = b from by unfold wrap64; omega, show wrap64 ((a : Int) * 256) = (a : Int) * 256 from by unfold wrap64; omega, or_hi_lo a b ha hb]
theorem equal_any {w : World} {v1 v2 : Value} {a b : List UInt8} (h1 : Bytes w v1 a) (h2 : Bytes w v2 b) : Calls Try.prog 136 #[v1, v2] w fun e w' => e = .returned (.bool (a == b)) ∧ w = w' :=
  (Try.bytes_Equal_strs v1 v2 _ _ w (conv_bytes h1) (conv_bytes h2)).mono fun _ _ ⟨x, y⟩ => ⟨by rw [x]; unfold strB; rw [ByteArray.toList_mk, ByteArray.toList_mk], y.symm⟩
theorem Bytes.cell {w : World} {a : Addr} {n c : Nat} {l : List UInt8} (h : Bytes w (.slice (some a) n c) l) {j : Nat} {b : UInt8} (hb : l[j]? = some b) : w.cell? (a.add j) = some (.int .u8 (b.toNat : Int)) := by
  obtain ⟨q, cap, e, _, _, h3⟩ := h
  obtain ⟨a', e', hc⟩ := h3 j b hb
  cases e; cases e'; exact hc
def UnboxPost (l : List UInt8) (w : World) (e : Ending) (w' : World) : Prop :=
  (unbox l = none ∧ e = .returned (.tuple #[.slice none 0 0, .iface 40 (.int .i64 4)]) ∨ ∃ x q c, unbox l = some x ∧ e = .returned (.tuple #[.slice q x.length c, .nilIface]) ∧ SubRow w' w.heap.size (.slice q x.length c) (bytesV x)) ∧ Below w.heap.size w w'
set_option maxRecDepth 100000 in
set_option maxHeartbeats 1000000 in
theorem Unbox_any {w : World} {v : Value} {l : List UInt8} (h : Bytes w v l) : Calls Try.prog 115 #[v] w (UnboxPost l w) := by
  have hm := makeErr 4
  have hB := h
  obtain ⟨q, cap, rfl, h1, h2, h3⟩ := h
  have h2' := h2
  unfold maxLen at h2
  by_cases hbad : l.length < 6 ∨ 65536 < l.length
  · have hu : unbox l = none := by unfold unbox; rw [if_pos hbad]
    have Hu := Lib.hid hu
    have hor : ((l.length : Nat) : Int) < 6 ∨ ¬ ((l.length : Nat) : Int) < 6 ∧ (65536 : Int) < ((l.length : Nat) : Int) := by omega
    clear hB h3 hu
    rcases hor with h6 | ⟨h6, h6'⟩
    all_goals
      go_enter Try.func115, Try.ntmps115
      go_wp2
      go_ret2
      exact ⟨.inl ⟨Hu.out, rfl⟩, Below.refl _ _⟩
  · have h6 : ¬ ((l.length : Nat) : Int) < 6 := by omega
    have h6' : ¬ (65536 : Int) < ((l.length : Nat) : Int) := by omega
    obtain ⟨b4, hb4⟩ : ∃ b, l[4]? = some b := ⟨_, List.getElem?_eq_getElem (by omega)⟩
    obtain ⟨b5, hb5⟩ : ∃ b, l[5]? = some b := ⟨_, List.getElem?_eq_getElem (by omega)⟩
    obtain ⟨a, rfl, _⟩ := h3 4 b4 hb4
    have hsp := hB.spot (by omega)
    obtain ⟨ab, ao, sp⟩ := a
    cases hsp
    have c4 := hB.cell hb4
    have c5 := hB.cell hb5
    rw [Addr.add_mid] at c4 c5
    have f4 : w.drew.cell? ⟨ab, ao + 4, none⟩ = some (.int .u8 (b4.toNat : Int)) := c4
    have hN : boxN l = b4.toNat * 256 + b5.toNat := by unfold boxN; rw [List.getD_eq_getElem?_getD, List.getD_eq_getElem?_getD, hb4, hb5]; rfl
    have hor := or_hi_lo' b4.toNat b5.toNat b4.toNat_lt b5.toNat_lt
    have hl1 : (4 : Int) < ((l.length : Nat) : Int) := by omega
    have hl2 : (5 : Int) < ((l.length : Nat) : Int) := by omega
    rw [← hN] at hor
    clear h3 hb4 hb5 hN
    go_enter Try.func115, Try.ntmps115
    go_wp2
    go_quiet (fail)
    have hbd : Below w.heap.size w (w.drewN nq) := (Below.refl _ w).trans ⟨rfl, rfl, rfl, Nat.le_refl _, fun _ _ => rfl⟩
    have hB1 := hB.below hbd
    have hbd2 := Lib.hid hbd
    clear hor c4 c5 f4 hbd
    generalize hNN : boxN l = N
    generalize w.drewN nq = w1 at hB1 hbd2 ⊢
    by_cases hbig : l.length - 6 < N
    · have hu : unbox l = none := by unfold unbox; rw [if_neg hbad, if_pos (by rw [hNN]; exact hbig)]
      have hb' : ((l.length : Nat) : Int) - 6 < (N : Int) := by omega
      have Hu := Lib.hid hu
      clear hNN hbad hu hB hB1
      go_wp2
      go_ret2
      exact ⟨.inl ⟨Hu.out, rfl⟩, hbd2.out⟩
    · have hle : (N : Int) ≤ ((l.length : Nat) : Int) - 6 := by omega
      have hlt : ((l.drop 6).take N).length = N := by rw [List.length_take, List.length_drop]; omega
      have Hu : Hid (unbox l = if boxOf l.length ((l.drop 6).take N) = l then some ((l.drop 6).take N) else none) := Lib.hid (by unfold unbox; rw [if_neg hbad, if_neg (by rw [hNN]; omega), hNN])
      have hS := hB1.sub 6 N (by omega)
      have hcl : ∀ v, v = Value.slice (if cap = 6 then some ⟨ab, ao, none⟩ else some ⟨ab, ao + 6, none⟩) N (cap - 6) → Calls Try.prog 55 #[v] w1 fun e w' => ∃ q c, e = .returned (.slice q N c) ∧ SubRow w' w1.heap.size (.slice q N c) (bytesV ((l.drop 6).take N)) ∧ Below w1.heap.size w1 w' := by
        rintro v rfl
        have e : (Option.map (fun x => x.add 6) (some (⟨ab, ao, none⟩ : Addr))) = some ⟨ab, ao + 6, none⟩ := by rw [Option.map_some, Addr.add_mid]
        rw [e] at hS
        refine (clone_any hS (by omega)).mono fun _ _ ⟨v', h1, h2, h3⟩ => ?_
        obtain ⟨q', c', rfl, _⟩ := h2.form
        rw [bytesV_len, hlt] at h1 h2
        exact ⟨q', c', h1, h2, h3⟩
      have Hh : Hid (N + 6 ≤ l.length ∧ l.length ≤ 65536 ∧ 6 ≤ l.length ∧ ((l.drop 6).take N).length = N) := Lib.hid ⟨by omega, by omega, by omega, hlt⟩
      have HB1 := Lib.hid hB1
      have Hcl := Lib.hid hcl
      clear hNN hbad hB hB1 hS hlt hcl
      generalize hin : (l.drop 6).take N = x at Hu Hcl Hh
      clear hin
      have hC := Hcl.out _ rfl
      clear Hcl
      obtain ⟨X1, hX1⟩ : ∃ X, (if cap = 6 then some (⟨ab, ao, none⟩ : Addr) else some ⟨ab, ao + 6, none⟩) = X := ⟨_, rfl⟩
      rw [hX1] at hC
      go_upto_region 7 with (go_at_call 55; (with_reducible refine hC.mono ?_); rintro _ w2 ⟨q2, cc2, rfl, s2, b2⟩; clear hC)
      have hbox := Box_ok (sz := l.length) (one_part (Bytes.of_sub (by rw [← Hh.out.2.2.2] at s2; exact s2)) 39) Hh.out.2.2.1 Hh.out.2.1 (by have := Hh.out; simp; omega) (by simp)
      rw [show [x].flatten = x from by simp, Hh.out.2.2.2] at hbox
      have HS := Lib.hid s2
      have Hb2 := Lib.hid (hbd2.out.trans (b2.mono hbd2.out.size))
      have HB2 := Lib.hid (HB1.out.below b2)
      clear s2 b2
      go_upto_region 8 with (go_at_call 105; (with_reducible refine hbox.mono ?_); rintro _ w3 ⟨g, rfl, hg, hrow, b3⟩; clear hbox)
      have ba : Below w2.heap.size w2 w3 := ((Below.refl _ w2).alloc (Nat.le_refl _) _).trans (b3.mono (by simp))
      have heq := equal_any (w := w3) (hrow.bytes (by have := Hh.out; unfold maxLen; omega) : Bytes w3 (.slice (some ⟨g, 0, none⟩) (boxOf l.length x).length l.length) _) (HB2.out.below ba)
      rw [boxOf_len (by have := Hh.out; omega)] at heq
      have HS3 := Lib.hid (HS.out.below ba)
      have Hb3 := Lib.hid (Hb2.out.trans (ba.mono Hb2.out.size))
      have Hsz := Lib.hid hbd2.out.size
      clear ba b3 hrow hg
      by_cases hE : boxOf l.length x = l
      · have hu : unbox l = some x := by rw [Hu.out, if_pos hE]
        have hE' : (boxOf l.length x == l) = true := by simpa using hE
        rw [hE'] at heq
        have Hux := Lib.hid hu
        clear hE hE' hu
        go_wp2_with (go_at_call 136; (with_reducible refine heq.mono ?_); rintro _ _ ⟨rfl, rfl⟩; clear heq)
        go_ret2
        refine ⟨.inr ⟨x, q2, cc2, Hux.out, ?_, ?_⟩, Hb3.out⟩
        · rw [Hh.out.2.2.2]; rfl
        · rw [Hh.out.2.2.2]; exact HS3.out.weaken Hsz.out
      · have hu : unbox l = none := by rw [Hu.out, if_neg hE]
        have hE' : (boxOf l.length x == l) = false := by simpa using hE
        rw [hE'] at heq
        have Hux := Lib.hid hu
        clear hE hE' hu
        go_wp2_with (go_at_call 136; (with_reducible refine heq.mono ?_); rintro _ _ ⟨rfl, rfl⟩; clear heq)
        go_ret2
        exact ⟨.inl ⟨Hux.out, rfl⟩, Hb3.out⟩
end Go.Proofs.Ytbaphjnglkocpaa
