import Derived.Test.YtbaphjnglkocpaaDiskA
import Derived.StillTailTactics
/-
  The device: a step; Arm.
-/
namespace Go.Proofs.Ytbaphjnglkocpaa
open Go.RowKit
open Go.ChangeMaps (setBlock)
theorem Keeps.cellAt {S : Nat → Prop} {w : World} {p : Addr} (h : S p.block) (u : Value) : Keeps S w (w.setCell p u) := (Keeps.refl S w).setCell (.inl h) u
/-- the small bounds under which a device is used -/
structure Dev.Ok (d : Dev) (n : Nat) : Prop where
  s0 : 0 ≤ d.steps
  s1 : d.steps ≤ n
  y0 : 0 ≤ d.syncs
  y1 : d.syncs ≤ d.steps
  l0 : 0 ≤ d.left
  l1 : d.left < 9223372036854775808
  z1 : 1 ≤ d.size
  z2 : d.size ≤ 4096
  lens : ∀ k, (d.now k).length = 512 ∧ (d.synced k).length = 512
  rng : ∀ k, d.chg k = true → 0 ≤ k ∧ k < d.size
  same : ∀ k, d.chg k = false → d.now k = d.synced k
theorem step_any (w : World) (p mn ms mc : Nat) (d : Dev) (n : Nat) (h : DevAt w p mn ms mc d) (hd : d.Ok n) (hn : n ≤ 1000000000) :
    Calls Try.prog 58 #[.pointer (some ⟨p, 0, none⟩)] w fun e w' => e = .returned (errV d.step.1) ∧ DevAt w' p mn ms mc d.step.2 ∧ Keeps (· = p) w w' := by
  have hc := h.cells
  obtain ⟨c0, c1, c2, c3, c4, c5, c6, c7, c8⟩ := hc
  have f0 := h.free 0
  have f2 := h.free 2
  have f4 := h.free 4
  have hm := makeErr 3
  have b0 := hd.s0
  have b1 := hd.s1
  have b2 := hd.l0
  have hwr : wrap64 (d.left - 1) = d.left - 1 ∨ d.left = 0 := by have := hd.l1; unfold wrap64; omega
  clear hd
  by_cases hdn : d.down = true
  · have hst : d.step = (3, { d with down := true }) := by unfold Dev.step; rw [if_pos (.inl hdn)]
    have hself : ({ d with down := true } : Dev) = d := by cases d; simp at hdn ⊢; exact hdn
    rw [hst]
    simp only []
    rw [errV_pos (k := 3) (by decide)]
    rw [hdn] at c4
    by_cases ha : d.armed = true
    · rw [ha] at c3
      by_cases hl : d.left = 0
      · have hb : (d.left == 0) = true := by simpa using hl
        rw [hself]
        go_enter Try.func58, Try.ntmps58
        go_wp2
        go_ret
        refine ⟨rfl, h.upd (Keeps.cellAt (S := (· = p)) rfl _) ?_ rfl rfl rfl, Keeps.cellAt (S := (· = p)) rfl _⟩
        rw [heap_setCell _ _ _ _ _ _ _ h.self, hdn]; rfl
      · have hb : (d.left == 0) = false := by simpa using hl
        rw [hself]
        go_enter Try.func58, Try.ntmps58
        go_wp2
        go_ret
        exact ⟨rfl, h, Keeps.refl _ _⟩
    · have ha : d.armed = false := by simpa using ha
      rw [ha] at c3
      rw [hself]
      go_enter Try.func58, Try.ntmps58
      go_wp2
      go_ret
      exact ⟨rfl, h, Keeps.refl _ _⟩
  · have hdn : d.down = false := by simpa using hdn
    rw [hdn] at c4
    by_cases ha : d.armed = true
    · rw [ha] at c3
      by_cases hl : d.left = 0
      · have hb : (d.left == 0) = true := by simpa using hl
        have hst : d.step = (3, { d with down := true }) := by unfold Dev.step; rw [if_pos (.inr ⟨ha, hl⟩)]
        rw [hst]
        simp only []
        rw [errV_pos (k := 3) (by decide)]
        go_enter Try.func58, Try.ntmps58
        go_wp2
        go_ret
        refine ⟨rfl, h.upd (Keeps.cellAt (S := (· = p)) rfl _) ?_ rfl rfl rfl, Keeps.cellAt (S := (· = p)) rfl _⟩
        rw [heap_setCell _ _ _ _ _ _ _ h.self]; rfl
      · have hb : (d.left == 0) = false := by simpa using hl
        have hst : d.step = (0, { d with left := d.left - 1, steps := d.steps + 1 }) := by unfold Dev.step; rw [if_neg (by simp [hdn, hl]), ha]; rfl
        rw [hst, errV_zero]
        have Hadd := Lib.hid (fun (w' : World) (hh : w'.cell? ⟨p, 0, none⟩ = some (.int .i64 d.steps)) (hf : w'.frozen? ⟨p, 0, none⟩ = false) => add_any w' p 0 d.steps hh hf (by omega) (by omega))
        have Hh := Lib.hid h
        have Hwr := Lib.hid (hwr.resolve_right hl)
        clear h hwr hl hst b2
        go_enter Try.func58, Try.ntmps58
        go_wp2_with fail
        rw [Hwr.out]
        have hc0' : (w.setCell ⟨p, 2, none⟩ (.int .i64 (d.left - 1))).cell? ⟨p, 0, none⟩ = some (.int .i64 d.steps) := by rw [World.cell?_setCell_other _ _ _ _ (by simp)]; exact c0
        refine (Hadd.out _ hc0' (by rw [World.frozen?_setCell]; exact f0)).mono ?_
        rintro _ _ ⟨rfl, rfl⟩
        go_wp2_with fail
        go_ret
        have hk : Keeps (· = p) w ((w.setCell ⟨p, 2, none⟩ (.int .i64 (d.left - 1))).setCell ⟨p, 0, none⟩ (.int .i64 (d.steps + 1))) := (Keeps.cellAt (S := (· = p)) rfl _).setCell (.inl rfl) _
        refine ⟨rfl, Hh.out.upd hk ?_ rfl rfl rfl, hk⟩
        rw [heap_setCell _ _ _ _ _ _ _ (heap_setCell _ _ _ _ _ _ _ Hh.out.self)]; rfl
    · have ha : d.armed = false := by simpa using ha
      rw [ha] at c3
      have hst : d.step = (0, { d with steps := d.steps + 1 }) := by unfold Dev.step; rw [if_neg (by simp [hdn, ha]), ha]; rfl
      rw [hst]
      simp only []
      rw [errV_zero]
      have Hadd := Lib.hid (add_any w p 0 d.steps c0 f0 (by omega) (by omega))
      have Hh := Lib.hid h
      clear h hwr hst b2
      go_enter Try.func58, Try.ntmps58
      go_wp2_with fail
      refine (Hadd.out).mono ?_
      rintro _ _ ⟨rfl, rfl⟩
      go_wp2_with fail
      go_ret
      have hk : Keeps (· = p) w (w.setCell ⟨p, 0, none⟩ (.int .i64 (d.steps + 1))) := Keeps.cellAt (S := (· = p)) rfl _
      refine ⟨rfl, Hh.out.upd hk ?_ rfl rfl rfl, hk⟩
      rw [heap_setCell _ _ _ _ _ _ _ Hh.out.self]; rfl
theorem Dev.Ok.step {d : Dev} {n : Nat} (h : d.Ok n) : d.step.2.Ok (n + 1) := by
  have hs1 := h.s1; have hs0 := h.s0; have hy0 := h.y0; have hy1 := h.y1; have hl0 := h.l0; have hl1 := h.l1
  unfold Dev.step
  split
  · exact ⟨h.s0, by show d.steps ≤ _; omega, h.y0, h.y1, h.l0, h.l1, h.z1, h.z2, h.lens, h.rng, h.same⟩
  · rename_i hn
    refine ⟨by show 0 ≤ d.steps + 1; omega, by show d.steps + 1 ≤ _; omega, h.y0, by show d.syncs ≤ d.steps + 1; omega, ?_, ?_, h.z1, h.z2, h.lens, h.rng, h.same⟩
    · show 0 ≤ (if d.armed then d.left - 1 else d.left)
      split
      · have : d.left ≠ 0 := fun e => hn (.inr ⟨‹_›, e⟩)
        omega
      · exact hl0
    · show (if d.armed then d.left - 1 else d.left) < _
      split <;> omega
theorem arm_bad (w : World) (p : Nat) (n : Int) (h : n < 0) : Calls Try.prog 48 #[.pointer (some ⟨p, 0, none⟩), .int .i64 n] w fun e w' => e = .returned (errV 1) ∧ w = w' := by
  have hm := makeErr 1
  rw [errV_pos (by decide)]
  go_enter Try.func48, Try.ntmps48
  go_wp2
  go_ret
  exact ⟨rfl, rfl⟩
theorem arm_ok (w : World) (p mn ms mc : Nat) (d : Dev) (n : Int) (h : DevAt w p mn ms mc d) (hn : 0 ≤ n) :
    Calls Try.prog 48 #[.pointer (some ⟨p, 0, none⟩), .int .i64 n] w fun e w' => e = .returned .nilIface ∧ DevAt w' p mn ms mc { d with armed := true, left := n } ∧ Keeps (· = p) w w' := by
  obtain ⟨c0, c1, c2, c3, c4, c5, c6, c7, c8⟩ := h.cells
  have f2 := h.free 2
  have f3 := h.free 3
  have Hh := Lib.hid h
  clear h
  go_enter Try.func48, Try.ntmps48
  go_wp2
  go_ret
  have hk : Keeps (· = p) w ((w.setCell ⟨p, 3, none⟩ (.bool true)).setCell ⟨p, 2, none⟩ (.int .i64 n)) := (Keeps.cellAt (S := (· = p)) rfl _).setCell (.inl rfl) _
  refine ⟨rfl, Hh.out.upd hk ?_ rfl rfl rfl, hk⟩
  rw [heap_setCell _ _ _ _ _ _ _ (heap_setCell _ _ _ _ _ _ _ Hh.out.self)]; rfl
end Go.Proofs.Ytbaphjnglkocpaa
