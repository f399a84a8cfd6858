import Derived.Test.YtbaphjnglkocpaaJournF
/-
  The journal: Append, Spend, Book, Unbook, fail, power; the answers of a nil journal.
-/
namespace Go.Proofs.Ytbaphjnglkocpaa
open Go.RowKit
theorem below_drew (w : World) : Below w.heap.size w w.drew := (Below.refl _ _).drew
section
variable {w0 w : World} {A : JAd} {m : JM} {d : Dev} {c : Nat} {v : Value} {r : List UInt8} {others : Int}
theorem jput_any (h : JB w0 w A d m c) (hcc : c ≤ 10000000) (hv : Bytes w v r) (hvf : ∀ k, v.ownBlock = some k → ¬ A.Foot k) (ho : 0 ≤ others) (ho2 : others ≤ 1000000) :
    Calls Try.prog 51 #[.pointer (some ⟨A.j, 0, none⟩), v, .int .i64 others] w (PutPost w0 w A d (c + 1) (m.put r others)) := by
  cases hd : m.dead with
  | true => exact jput_dead h hd
  | false =>
    by_cases h1 : r.length = 0 ∨ 4096 < r.length
    · exact jput_form h hd hv h1
    · by_cases hf : m.free - others < r.length + 2
      · exact jput_full h hd hv (by omega) (by omega) ho ho2 hf
      · exact jput_ok h hcc hd hv hvf (by omega) (by omega) ho ho2 hf
theorem japp_any (h : JB w0 w A d m c) (hcc : c ≤ 10000000) (hv : Bytes w v r) (hvf : ∀ k, v.ownBlock = some k → ¬ A.Foot k) :
    Calls Try.prog 12 #[.pointer (some ⟨A.j, 0, none⟩), v] w (PutPost w0 w A d (c + 1) (m.put r m.booked)) := by
  have hb := jbooked_any h.at_
  have hp := jput_any (r := r) (others := m.booked) h hcc hv hvf h.ok.k1 (by have := h.ok.k2; have := h.ok.n2; omega)
  obtain ⟨q, cap, rfl, g1, g2, g3⟩ := hv
  generalize m.put r m.booked = x at hp ⊢
  obtain ⟨x1, x2, x3⟩ := x
  clear h hvf g3
  go_enter Try.func12, Try.ntmps12
  go_wp2_with (first | (go_at_call 44; (with_reducible refine hb.mono ?_); rintro _ _ ⟨rfl, rfl⟩) | (go_at_call 51; (with_reducible refine hp.mono ?_); rintro _ w1 ⟨rfl, hq⟩))
  go_ret2
  exact ⟨rfl, hq⟩
theorem jspend_any (h : JB w0 w A d m c) (hcc : c ≤ 10000000) (hv : Bytes w v r) (hvf : ∀ k, v.ownBlock = some k → ¬ A.Foot k) :
    Calls Try.prog 18 #[.pointer (some ⟨A.j, 0, none⟩), v] w (PutPost w0 w A d (c + 1) (m.put r 0)) := by
  have hp := jput_any (r := r) (others := 0) h hcc hv hvf (by omega) (by omega)
  obtain ⟨q, cap, rfl, g1, g2, g3⟩ := hv
  generalize m.put r 0 = x at hp ⊢
  obtain ⟨x1, x2, x3⟩ := x
  clear h hvf g3
  go_enter Try.func18, Try.ntmps18
  go_wp2_with (go_at_call 51; (with_reducible refine hp.mono ?_); rintro _ w1 ⟨rfl, hq⟩)
  go_ret2
  exact ⟨rfl, hq⟩
def JM.book (m : JM) (k : Int) : Int × JM :=
  if k < 0 then (1, m) else if m.free - m.booked < k then (5, m) else (0, { m with booked := m.booked + k })
theorem JM.Ok.book (h : m.Ok d c) {k : Int} (h0 : 0 ≤ k) (h1 : k ≤ m.free - m.booked) : ({ m with booked := m.booked + k } : JM).Ok d c := by
  have := h.k1
  refine { h with k1 := ?_, k2 := ?_ }
  · show 0 ≤ m.booked + k; omega
  · show m.booked + k ≤ m.n * 470; unfold JM.free at h1; omega
theorem jbook_any (h : JB w0 w A d m c) (k : Int) :
    Calls Try.prog 17 #[.pointer (some ⟨A.j, 0, none⟩), .int .i64 k] w fun e w' => e = .returned (errV (m.book k).1) ∧ JB w0 w' A d (m.book k).2 c ∧ JStep w w' A A := by
  have hb := fun w' (b : Below w.heap.size w w') => jbooked_any (h.below b).at_
  have hfr := jfree_any h.at_ h.ok
  have H := Lib.hid h
  have f1 : 0 ≤ m.free := by have := h.ok.room; unfold JM.free; omega
  have f2 : m.free ≤ 1000000 := by have := h.ok.n2; unfold JM.free; omega
  have k1 := h.ok.k1
  have k2 : m.booked ≤ 1000000 := by have := h.ok.n2; have := h.ok.k2; omega
  have hm1 := makeErr 1
  have hm5 := makeErr 5
  by_cases c0 : k < 0
  · have Hx : Hid (m.book k = (1, m)) := Lib.hid (by unfold JM.book; rw [if_pos c0])
    have e0 : decide (k < 0) = true := by simp; omega
    clear h hb hfr
    go_enter Try.func17, Try.ntmps17
    go_wp2
    go_ret
    rw [Hx.out]
    exact ⟨rfl, H.out, JStep.refl _ _⟩
  · have e0 : decide (k < 0) = false := by simp; omega
    by_cases c1 : m.free - m.booked < k
    · have Hx : Hid (m.book k = (5, m)) := Lib.hid (by unfold JM.book; rw [if_neg c0, if_pos c1])
      have e1 : decide (m.free - m.booked < k) = true := by simp; omega
      generalize m.free = F at hfr f1 f2 e1 c1
      generalize m.booked = K at hb k1 k2 e1 c1
      clear h
      go_enter Try.func17, Try.ntmps17
      go_wp2_with (first | (go_at_call 13; (with_reducible refine hfr.mono ?_); rintro _ w1 ⟨rfl, b1⟩; have hb1 := hb w1 b1) | (go_at_call 44; (with_reducible refine hb1.mono ?_); rintro _ _ ⟨rfl, rfl⟩))
      go_ret
      rw [Hx.out]
      exact ⟨rfl, H.out.below b1, JStep.below A b1⟩
    · have Hx : Hid (m.book k = (0, { m with booked := m.booked + k })) := Lib.hid (by unfold JM.book; rw [if_neg c0, if_neg c1])
      have Hok : Hid (({ m with booked := m.booked + k } : JM).Ok d c) := Lib.hid (h.ok.book (by omega) (by omega))
      have e1 : decide (m.free - m.booked < k) = false := by simp; omega
      have kb : k ≤ 1000000 := by omega
      generalize m.free = F at hfr f1 f2 e1 c1
      clear h
      by_cases c2 : k = 0
      · have e2 : decide (0 < k) = false := by simp; omega
        go_enter Try.func17, Try.ntmps17
        go_wp2_with (first | (go_at_call 13; (with_reducible refine hfr.mono ?_); rintro _ w1 ⟨rfl, b1⟩; have hb1 := hb w1 b1) | (go_at_call 44; (with_reducible refine hb1.mono ?_); rintro _ _ ⟨rfl, rfl⟩))
        go_ret
        rw [Hx.out]
        subst c2
        have em : ({ m with booked := m.booked + 0 } : JM) = m := by rw [Int.add_zero]
        refine ⟨rfl, ?_, JStep.below A b1⟩
        show JB w0 _ A d { m with booked := m.booked + 0 } c
        rw [em]; exact H.out.below b1
      · have e2 : decide (0 < k) = true := by simp; omega
        go_enter Try.func17, Try.ntmps17
        go_wp2_with (first | (go_at_call 13; (with_reducible refine hfr.mono ?_); rintro _ w1 ⟨rfl, b1⟩; have hb1 := hb w1 b1; have c11 := (H.out.below b1).at_.cells.c11; have fz := (H.out.below b1).at_.free 11) | (go_at_call 44; (with_reducible refine hb1.mono ?_); rintro _ _ ⟨rfl, rfl⟩))
        go_ret
        rw [Hx.out]
        refine ⟨rfl, (H.out.below b1).updCell (m' := { m with booked := m.booked + k }) (Nat.le_refl _) 11 _ rfl rfl rfl rfl rfl rfl rfl rfl Hok.out, (Keeps.of_below b1).trans' (Keeps.cellAt (S := A.Foot) (.inr (.inr (.inl rfl))) _) (fun _ _ e => e), fun _ e => .inl e⟩
def JM.unbook (m : JM) (k : Int) : JM := if 0 < k then { m with booked := m.booked - min k m.booked } else m
theorem JM.Ok.unbook (h : m.Ok d c) {k : Int} (h0 : 0 < k) : ({ m with booked := m.booked - min k m.booked } : JM).Ok d c := by
  have := h.k1
  have := h.k2
  refine { h with k1 := ?_, k2 := ?_ }
  · show 0 ≤ m.booked - min k m.booked; omega
  · show m.booked - min k m.booked ≤ m.n * 470; omega
set_option maxRecDepth 100000 in
theorem junbook_any (h : JB w0 w A d m c) (k : Int) :
    Calls Try.prog 38 #[.pointer (some ⟨A.j, 0, none⟩), .int .i64 k] w fun e w' => e = .returned (.tuple #[]) ∧ JB w0 w' A d (m.unbook k) c ∧ JStep w w' A A := by
  have H := Lib.hid h
  have k1 := h.ok.k1
  have k2 : m.booked ≤ 1000000 := by have := h.ok.n2; have := h.ok.k2; omega
  have c11 := h.at_.cells.c11
  have fz := h.at_.free 11
  by_cases c0 : 0 < k
  · have Hx : Hid (m.unbook k = { m with booked := m.booked - min k m.booked }) := Lib.hid (by unfold JM.unbook; rw [if_pos c0])
    have Hok : Hid (({ m with booked := m.booked - min k m.booked } : JM).Ok d c) := Lib.hid (h.ok.unbook c0)
    have e0 : decide (0 < k) = true := by simp; omega
    clear h
    go_enter Try.func38, Try.ntmps38
    go_wp2_with fail
    refine wp_region_still_tail 11 (by kernel_rfl) (by kernel_rfl) ?_
    simp only [List.take_succ_cons, List.take_zero, List.drop_succ_cons, List.drop_zero]
    change wpStill _ _ w.drew (fun a' => wpList _ _ _ _ a' w.drew) _ _
    have H1 := Lib.hid (H.out.below (below_drew w))
    have B1 := Lib.hid (below_drew w)
    have c1 := H1.out.at_.cells.c11
    have fz1 := H1.out.at_.free 11
    clear c11 fz
    generalize w.drew = w1 at c1 fz1 H1 B1 ⊢
    repeat still_step
    refine wpStill_nil ?_
    go_wp2
    go_end0
    rw [Hx.out]
    exact ⟨rfl, H1.out.updCell (m' := { m with booked := m.booked - min k m.booked }) (Nat.le_refl _) 11 _ rfl rfl rfl rfl rfl rfl rfl rfl Hok.out, (Keeps.of_below B1.out).trans' (Keeps.cellAt (S := A.Foot) (.inr (.inr (.inl rfl))) _) (fun _ _ e => e), fun _ e => .inl e⟩
  · have Hx : Hid (m.unbook k = m) := Lib.hid (by unfold JM.unbook; rw [if_neg c0])
    have e0 : decide (0 < k) = false := by simp; omega
    clear h
    go_enter Try.func38, Try.ntmps38
    go_wp2
    go_end0
    rw [Hx.out]
    exact ⟨rfl, H.out, JStep.refl _ _⟩
end
end Go.Proofs.Ytbaphjnglkocpaa
