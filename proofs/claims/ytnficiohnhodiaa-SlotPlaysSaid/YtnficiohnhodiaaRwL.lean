import Derived.Test.YtnficiohnhodiaaRwK
/-
  The document's slots: Open.
-/
namespace Go.Proofs.Ytnficiohnhodiaa
open Go.RowKit
theorem slotRead_par (l : List UInt8) (which : Int) : (slotRead l which).1 = 0 ∨ 1 ≤ (slotRead l which).1 ∧ (slotRead l which).1.tmod 2 = which := by
  unfold slotRead
  split
  · exact .inl rfl
  · split
    · exact .inl rfl
    · rename_i n k _
      by_cases hc : n < 1 ∨ most62 < n ∨ n.tmod 2 ≠ which
      · rw [if_pos hc]; exact .inl rfl
      · rw [if_neg hc]
        split
        · exact .inl rfl
        · split
          · exact .inl rfl
          · right
            constructor
            · show 1 ≤ n; omega
            · show n.tmod 2 = which
              apply Classical.byContradiction
              intro e; exact hc (.inr (.inr e))
theorem slotBest_two (d : Dev) (at_ : Int) : ((slotRead (d.now at_) 0).1 = 0 ∧ (slotRead (d.now (at_ + 1)) 1).1 = 0 → (slotBest d at_ 2).1 = 0) ∧ ((slotRead (d.now (at_ + 1)) 1).1 < (slotRead (d.now at_) 0).1 → slotBest d at_ 2 = slotRead (d.now at_) 0) ∧ (¬ ((slotRead (d.now at_) 0).1 = 0 ∧ (slotRead (d.now (at_ + 1)) 1).1 = 0) → ¬ (slotRead (d.now (at_ + 1)) 1).1 < (slotRead (d.now at_) 0).1 → slotBest d at_ 2 = slotRead (d.now (at_ + 1)) 1) := by
  have e : slotBest d at_ 2 = if (if 0 < (slotRead (d.now at_) 0).1 then slotRead (d.now at_) 0 else (0, [])).1 < (slotRead (d.now (at_ + 1)) 1).1 then slotRead (d.now (at_ + 1)) 1 else (if 0 < (slotRead (d.now at_) 0).1 then slotRead (d.now at_) 0 else (0, [])) := by
    have h0 : at_ + ((0 : Nat) : Int) = at_ := by omega
    have h1 : at_ + ((1 : Nat) : Int) = at_ + 1 := by omega
    show (if (if 0 < (slotRead (d.now (at_ + ((0 : Nat) : Int))) ((0 : Nat) : Int)).1 then slotRead (d.now (at_ + ((0 : Nat) : Int))) ((0 : Nat) : Int) else (0, [])).1 < (slotRead (d.now (at_ + ((1 : Nat) : Int))) ((1 : Nat) : Int)).1 then slotRead (d.now (at_ + ((1 : Nat) : Int))) ((1 : Nat) : Int) else (if 0 < (slotRead (d.now (at_ + ((0 : Nat) : Int))) ((0 : Nat) : Int)).1 then slotRead (d.now (at_ + ((0 : Nat) : Int))) ((0 : Nat) : Int) else (0, []))) = _
    rw [h0, h1]; rfl
  rw [e]
  have pa := slotRead_par (d.now at_) 0
  have pb := slotRead_par (d.now (at_ + 1)) 1
  generalize slotRead (d.now at_) 0 = a at pa ⊢
  generalize slotRead (d.now (at_ + 1)) 1 = b at pb ⊢
  by_cases h : 0 < a.1
  · rw [if_pos h]
    refine ⟨fun h2 => by omega, fun h2 => by rw [if_neg (by omega)], fun _ h2 => ?_⟩
    have hne : a.1 ≠ b.1 := by
      intro e2
      rcases pa with h3 | ⟨_, h3⟩
      · omega
      · rcases pb with h4 | ⟨_, h4⟩
        · omega
        · rw [e2, h4] at h3; cases h3
    rw [if_pos (by omega)]
  · rw [if_neg h]
    have ha : a.1 = 0 := by rcases pa with h3 | ⟨h3, _⟩ <;> omega
    refine ⟨fun h2 => by rw [if_neg (by show ¬ (0 : Int) < b.1; omega)], fun h2 => by rcases pb with h3 | ⟨h3, _⟩ <;> omega, fun h1 h2 => ?_⟩
    have hb : b.1 ≠ 0 := fun e2 => h1 ⟨ha, e2⟩
    rw [if_pos (by show (0 : Int) < b.1; rcases pb with h3 | ⟨h3, _⟩ <;> omega)]
def ROpenPost (w : World) (b : Nat) (F : Nat → Prop) (at_ : Int) (x : Int × Int × List UInt8) (e : Ending) (w' : World) : Prop :=
  Below w.heap.size w w' ∧ (x.1 ≠ 0 ∧ e = .returned (.tuple #[.pointer none, .int .i64 x.1]) ∨ x.1 = 0 ∧ ∃ t, e = .returned (.tuple #[.pointer (some ⟨t, 0, none⟩), .int .i64 0]) ∧ RSlotAt w' t b F at_ x.2.1 x.2.2 false ∧ w.heap.size ≤ t)
section
variable {w : World} {B n : Nat} {A : RAd} {d : Dev} {L : Int} {F : Nat → Prop}
set_option maxRecDepth 100000 in
set_option maxHeartbeats 1000000 in
theorem ropen_any (h : RefAt w B A d L) (ho : d.Ok n) (hFo : ∀ k, F k → k < w.heap.size) (at_ : Int) : Calls Try.prog 66 #[.pointer (some ⟨A.b, 0, none⟩), .int .i64 at_] w (ROpenPost w A.b F at_ (d.slotOpen at_)) := by
  have hf := rfits_any h ho.z1 ho.z2 at_
  by_cases hfit : fitsB d at_ = false
  · have Hx : Hid (d.slotOpen at_ = (1, 0, [])) := Lib.hid (by unfold Dev.slotOpen; rw [if_pos hfit])
    rw [hfit] at hf
    clear h hfit hFo
    go_enter Try.func66, Try.ntmps66
    go_wp2_with (go_at_call 86; (with_reducible refine hf.mono ?_); rintro _ _ ⟨rfl, rfl⟩)
    go_ret2
    rw [Hx.out]
    exact ⟨Below.refl _ _, .inl ⟨by show (1 : Int) ≠ 0; decide, rfl⟩⟩
  · have hfit' : fitsB d at_ = true := by simpa using hfit
    have hrng : 0 ≤ at_ ∧ at_ < d.size - 1 := by unfold fitsB at hfit'; simpa using hfit'
    rw [hfit'] at hf
    have c7 := h.cells.c7
    by_cases hdn : d.down = true
    · have Hx : Hid (d.slotOpen at_ = (3, 0, [])) := Lib.hid (by unfold Dev.slotOpen; rw [if_neg hfit, if_pos hdn])
      rw [hdn] at c7
      clear h hfit hfit' hrng hdn hFo
      go_enter Try.func66, Try.ntmps66
      go_wp2_with (go_at_call 86; (with_reducible refine hf.mono ?_); rintro _ _ ⟨rfl, rfl⟩)
      go_ret2
      rw [Hx.out]
      exact ⟨Below.refl _ _, .inl ⟨by show (3 : Int) ≠ 0; decide, rfl⟩⟩
    · have hdn' : d.down = false := by simpa using hdn
      have Hx : Hid (d.slotOpen at_ = if (slotBest d at_ 2).1 = 0 then (20, 0, []) else (0, slotBest d at_ 2)) := Lib.hid (by unfold Dev.slotOpen; rw [if_neg hfit, if_neg hdn])
      rw [hdn'] at c7
      have H2 := Lib.hid (slotBest_two d at_)
      have hz2 := ho.z2
      obtain ⟨i, rfl⟩ : ∃ i : Nat, at_ = (i : Int) := ⟨at_.toNat, by omega⟩
      obtain ⟨N, hN⟩ : ∃ N : Nat, d.size.toNat = N := ⟨_, rfl⟩
      have hi0 : i < d.size.toNat := by omega
      have hi1 : i + 1 < d.size.toNat := by omega
      obtain ⟨g, o, c, q, c2, ev, hc, hfz, hb, _, _⟩ := h.now.at hi0
      obtain ⟨g', o', c', q', c2', ev', hc', hfz', hb', _, _⟩ := h.now.at hi1
      rw [ev] at ev'
      injection ev' with ea _ _
      injection ea with ea
      injection ea with ea eb _
      subst ea; subst eb
      have c0 := h.cells.c0
      rw [ev, hN] at c0
      have ll := (ho.lens (i : Int)).1
      have ll' := (ho.lens ((i + 1 : Nat) : Int)).1
      have e4 : ((i + 1 : Nat) : Int) = (i : Int) + 1 := by omega
      have hlt0 : (i : Int) < (N : Int) := by omega
      have hlt1 : (i : Int) + 1 < (N : Int) := by omega
      have hib : (i : Int) ≤ 4096 := by omega
      rw [ll] at hc hb
      rw [e4] at hc' hb' ll'
      rw [ll'] at hc' hb'
      have hra := rread_slot hb ll 0
      have Hrb := Lib.hid (fun (w1 : World) (b1 : Below w.heap.size w w1) => rread_slot (hb'.below b1) ll' 1)
      have e5 : ((i : Int) + 1).toNat = i + 1 := by omega
      have e6 : IntKind.i64.wrap ((i : Int) + 1) = (i : Int) + 1 := by rw [IntKind.wrap_i64]; omega
      have Hpa := Lib.hid (slotRead_par (d.now (i : Int)) 0)
      have Hpb := Lib.hid (slotRead_par (d.now ((i : Int) + 1)) 1)
      have HFo := Lib.hid hFo
      have Hc := Lib.hid (And.intro c0 hc')
      generalize slotRead (d.now (i : Int)) 0 = a at hra H2 Hpa
      generalize slotRead (d.now ((i : Int) + 1)) 1 = b at Hrb H2 Hpb
      generalize slotBest d (i : Int) 2 = sb at Hx H2
      clear h ho hfit hfit' hrng hdn hdn' hN hi0 hi1 hb hb' ll ll' e4 hFo hz2 hc' ev
      go_enter Try.func66, Try.ntmps66
      go_upto_region 6 with (first
        | (go_at_call 86; (with_reducible refine hf.mono ?_); rintro _ _ ⟨rfl, rfl⟩; clear hf)
        | (go_at_call 88; (with_reducible refine hra.mono ?_); rintro _ w1 ⟨v1, rfl, s1, b1⟩; clear hra))
      obtain ⟨q1, c1, ev1, _, _⟩ := s1.form
      rw [bytesV_len] at ev1
      subst ev1
      have hrb := Hrb.out w1 b1
      have hk1 : Keeps (fun _ => False) w w1 := Keeps.of_below b1
      have c0' := hk1.cell Hc.out.1 (fun e => e)
      have hc1 := hk1.cell Hc.out.2 (fun e => e)
      have Hs1 := Lib.hid s1
      have Hb1 := Lib.hid b1
      clear s1 b1 c0 c7 hc hk1
      go_upto_region 7 with (go_at_call 88; (with_reducible refine hrb.mono ?_); rintro _ w2 ⟨v2, rfl, s2, b2⟩; clear hrb)
      obtain ⟨q2, cc2, ev2, _, _⟩ := s2.form
      rw [bytesV_len] at ev2
      subst ev2
      have Hs1' := Lib.hid (Hs1.out.block_keeps (Keeps.of_below (S := fun _ => False) b2) (fun _ _ e => e))
      have Hs2 := Lib.hid (s2.weaken Hb1.out.size)
      have Hb2 := Lib.hid (Hb1.out.trans (b2.mono Hb1.out.size))
      clear s2 b2 c0' hc1 Hs1 Hb1
      by_cases hA : a.1 = 0 ∧ b.1 = 0
      · have hA1 : (a.1 == 0) = true := by simpa using hA.1
        have hB1 : (b.1 == 0) = true := by simpa using hA.2
        have Hz : Hid (sb.1 = 0) := Lib.hid (H2.out.1 hA)
        clear hA H2
        go_wp2
        go_ret2
        rw [Hx.out, if_pos Hz.out]
        exact ⟨Hb2.out, .inl ⟨by show (20 : Int) ≠ 0; decide, rfl⟩⟩
      · have HA := Lib.hid hA
        by_cases hgt : b.1 < a.1
        · have Hz : Hid (d.slotOpen (i : Int) = (0, a)) := Lib.hid (by
            rw [Hx.out, H2.out.2.1 hgt, if_neg (by rcases Hpa.out with h3 | ⟨h3, _⟩ <;> rcases Hpb.out with h4 | ⟨h4, _⟩ <;> omega)])
          have hA1 : (a.1 == 0) = false := by
            have : a.1 ≠ 0 := by rcases Hpa.out with h3 | ⟨h3, _⟩ <;> rcases Hpb.out with h4 | ⟨h4, _⟩ <;> omega
            simpa using this
          clear hA H2 Hx
          go_wp2
          go_ret2
          rw [Hz.out]
          have hal : Below w2.heap.size w2 (w2.alloc (.cells #[.pointer (some ⟨A.b, 0, none⟩), .int .i64 i, .int .i64 a.1, .slice q1 a.2.length c1, .bool false] 130)) := (Below.refl _ _).alloc (Nat.le_refl _) _
          exact ⟨Hb2.out.trans (hal.mono Hb2.out.size), .inr ⟨rfl, w2.heap.size, rfl, ⟨q1, c1, heap_alloc_new _ _, (Bytes.of_sub Hs1'.out).below hal, fun _ k e e' => absurd (HFo.out k e') (Nat.not_lt.2 (Hs1'.out.lt k e).1), fun e' => absurd (HFo.out _ e') (Nat.not_lt.2 Hb2.out.size)⟩, Hb2.out.size⟩⟩
        · have hgt2 : a.1 ≤ b.1 := Int.not_lt.1 hgt
          have hbn : ¬ b.1 = 0 := by rcases Hpa.out with h3 | ⟨h3, _⟩ <;> rcases Hpb.out with h4 | ⟨h4, _⟩ <;> omega
          have hsb : sb = b := by first | exact H2.out.2.2 hA hgt | exact H2.out.2.2 hA hgt2
          have Hz : Hid (d.slotOpen (i : Int) = (0, b)) := Lib.hid (by rw [Hx.out, hsb, if_neg hbn])
          have hB1 : (b.1 == 0) = false := by
            have : b.1 ≠ 0 := by rcases Hpa.out with h3 | ⟨h3, _⟩ <;> rcases Hpb.out with h4 | ⟨h4, _⟩ <;> omega
            simpa using this
          clear hA H2 Hx hsb hgt2 hbn
          cases hA1 : (a.1 == 0)
          · go_wp2
            go_ret2
            rw [Hz.out]
            have hal : Below w2.heap.size w2 (w2.alloc (.cells #[.pointer (some ⟨A.b, 0, none⟩), .int .i64 i, .int .i64 b.1, .slice q2 b.2.length cc2, .bool false] 130)) := (Below.refl _ _).alloc (Nat.le_refl _) _
            exact ⟨Hb2.out.trans (hal.mono Hb2.out.size), .inr ⟨rfl, w2.heap.size, rfl, ⟨q2, cc2, heap_alloc_new _ _, (Bytes.of_sub Hs2.out).below hal, fun _ k e e' => absurd (HFo.out k e') (Nat.not_lt.2 (Hs2.out.lt k e).1), fun e' => absurd (HFo.out _ e') (Nat.not_lt.2 Hb2.out.size)⟩, Hb2.out.size⟩⟩
          · go_wp2
            go_ret2
            rw [Hz.out]
            have hal : Below w2.heap.size w2 (w2.alloc (.cells #[.pointer (some ⟨A.b, 0, none⟩), .int .i64 i, .int .i64 b.1, .slice q2 b.2.length cc2, .bool false] 130)) := (Below.refl _ _).alloc (Nat.le_refl _) _
            exact ⟨Hb2.out.trans (hal.mono Hb2.out.size), .inr ⟨rfl, w2.heap.size, rfl, ⟨q2, cc2, heap_alloc_new _ _, (Bytes.of_sub Hs2.out).below hal, fun _ k e e' => absurd (HFo.out k e') (Nat.not_lt.2 (Hs2.out.lt k e).1), fun e' => absurd (HFo.out _ e') (Nat.not_lt.2 Hb2.out.size)⟩, Hb2.out.size⟩⟩
theorem rformat_any {row : List UInt8} {v : Value} (h : RefAt w B A d L) (ho : d.Ok n) (hn : n ≤ 100000) (hL : L ≤ 9223372036854775807) (hL0 : -10000000 ≤ L) (hFo : ∀ k, F k → k < w.heap.size) (at_ : Int) (hv : Bytes w v row) (hvS : row ≠ [] → ∀ k, v.ownBlock = some k → ¬ A.S k) : Calls Try.prog 65 #[.pointer (some ⟨A.b, 0, none⟩), .int .i64 at_, v] w (RFormatPost w B A d L F at_ row (d.slotFormat at_ row)) := by
  cases hfit : fitsB d at_ with
  | false => exact rformat_range h ho hfit
  | true =>
    by_cases hl : 480 < row.length
    · exact rformat_long h ho hfit hv hl
    · exact rformat_ok h ho hn hL hL0 hFo hfit hv hvS (by omega)
end
end Go.Proofs.Ytnficiohnhodiaa
