import Derived.Test.YtnficiohnhodiaaRefA
/-
  The document's device: step, Read, settle, Sync.
-/
namespace Go.Proofs.Ytnficiohnhodiaa
open Go.RowKit
theorem Bytes.nil {w : World} : Bytes w (.slice none 0 0) [] := ⟨none, 0, rfl, Nat.le_refl _, Nat.zero_le _, fun j b hb => by simp at hb⟩
section
variable {w : World} {B : Nat} {A : RAd} {d : Dev} {L : Int} {n : Nat}
theorem Dev.same_down {d : Dev} (h : d.down = true) : ({ d with down := true } : Dev) = d := by obtain ⟨a, b, c, e, f, g, h1, h2, h3⟩ := d; cases h; rfl
def stepL (d : Dev) (L : Int) : Int := if d.step.1 = 0 then L - 1 else L
theorem RefAt.cell {d' : Dev} {L' : Int} (h : RefAt w B A d L) (o : Nat) (v : Value)
    (hs : (#[A.vn, A.vs, A.vc, .int .i64 d.steps, .int .i64 d.syncs, .bool d.armed, .int .i64 L, .bool d.down] : Array Value).setIfInBounds o v = #[A.vn, A.vs, A.vc, .int .i64 d'.steps, .int .i64 d'.syncs, .bool d'.armed, .int .i64 L', .bool d'.down])
    (e1 : d'.now = d.now) (e2 : d'.synced = d.synced) (e3 : d'.chg = d.chg) (e4 : d'.size = d.size) (hl : d'.armed = true → L' = d'.left) (h0 : -1000000000 ≤ L') : RefAt (w.setCell ⟨A.b, o, none⟩ v) B A d' L' :=
  h.upd (Keeps.cellAt (S := (· = A.b)) rfl v) (by rw [heap_setCell _ _ _ _ _ _ _ h.self, hs]) e1 e2 e3 e4 hl h0
set_option maxRecDepth 100000 in
theorem rstep_any (h : RefAt w B A d L) (ho : d.Ok n) (hn : n ≤ 1000000) (hL : L ≤ 9223372036854775807) (hL0 : -100000000 ≤ L) : Calls Try.prog 80 #[.pointer (some ⟨A.b, 0, none⟩)] w fun e w' => e = .returned (.int .i64 d.step.1) ∧ RefAt w' B A d.step.2 (stepL d L) ∧ Keeps (· = A.b) w w' := by
  have H := Lib.hid h
  have c3 := h.cells.c3
  have c5 := h.cells.c5
  have c6 := h.cells.c6
  have c7 := h.cells.c7
  have f3 := h.free 3
  have f6 := h.free 6
  have f7 := h.free 7
  have hlf := h.left
  have hs0 := ho.s0
  have hs1 := ho.s1
  have hl0 := ho.l0
  have hst : d.steps ≤ 1000000 := by omega
  clear h
  by_cases hd : d.down = true
  · have es : d.step = (3, { d with down := true }) := by unfold Dev.step; rw [if_pos (.inl hd)]
    have hsl : stepL d L = L := by unfold stepL; rw [es]; rfl
    rw [hd] at c7
    have Hd := Lib.hid hd
    by_cases ha : d.armed = true ∧ d.left = 0
    · have hL1 : L = 0 := by rw [hlf ha.1]; exact ha.2
      rw [ha.1] at c5
      rw [hL1] at c6
      have H2 := Lib.hid (H.out.cell (d' := { d with down := true }) 7 (.bool true) rfl rfl rfl rfl rfl hlf H.out.l0)
      have He := Lib.hid (And.intro es hsl)
      clear hd ha hL1 es hsl hlf
      go_enter Try.func80, Try.ntmps80
      go_wp2
      go_ret
      rw [He.out.1, He.out.2]
      exact ⟨rfl, H2.out, Keeps.cellAt (S := (· = A.b)) rfl _⟩
    · have H2 : Hid (RefAt w B A { d with down := true } L) := Lib.hid (by
        have e1 := Dev.same_down hd
        rw [e1]; exact H.out)
      have He := Lib.hid (And.intro es hsl)
      have har : d.armed = false ∨ (d.armed = true ∧ 1 ≤ L) := by
        cases hx : d.armed
        · exact .inl rfl
        · right; refine ⟨rfl, ?_⟩
          have h1 := hlf hx
          have h2 : d.left ≠ 0 := fun e => ha ⟨hx, e⟩
          omega
      rcases har with har | ⟨har, hL1⟩
      · rw [har] at c5
        clear hd ha es hsl hlf
        go_enter Try.func80, Try.ntmps80
        go_wp2
        go_ret
        rw [He.out.1, He.out.2]
        exact ⟨rfl, H2.out, Keeps.refl _ _⟩
      · rw [har] at c5
        have e0 : decide (L < 1) = false := by simp; omega
        clear hd ha es hsl hlf
        go_enter Try.func80, Try.ntmps80
        go_wp2
        go_ret
        rw [He.out.1, He.out.2]
        exact ⟨rfl, H2.out, Keeps.refl _ _⟩
  · have hdf : d.down = false := by simpa using hd
    rw [hdf] at c7
    by_cases ha : d.armed = true ∧ d.left = 0
    · have es : d.step = (3, { d with down := true }) := by unfold Dev.step; rw [if_pos (.inr ha)]
      have hsl : stepL d L = L := by unfold stepL; rw [es]; rfl
      have hL1 : L = 0 := by rw [hlf ha.1]; exact ha.2
      rw [ha.1] at c5
      rw [hL1] at c6
      have H2 := Lib.hid (H.out.cell (d' := { d with down := true }) 7 (.bool true) rfl rfl rfl rfl rfl hlf H.out.l0)
      have He := Lib.hid (And.intro es hsl)
      clear hd ha hL1 es hsl hlf hdf
      go_enter Try.func80, Try.ntmps80
      go_wp2
      go_ret
      rw [He.out.1, He.out.2]
      exact ⟨rfl, H2.out, Keeps.cellAt (S := (· = A.b)) rfl _⟩
    · have es : d.step = (0, { d with left := if d.armed then d.left - 1 else d.left, steps := d.steps + 1 }) := by unfold Dev.step; rw [if_neg (by rintro (e | e); exact hd e; exact ha e)]
      have hsl : stepL d L = L - 1 := by unfold stepL; rw [es]; rfl
      have H2 : Hid (RefAt ((w.setCell ⟨A.b, 6, none⟩ (.int .i64 (L - 1))).setCell ⟨A.b, 3, none⟩ (.int .i64 (d.steps + 1))) B A { d with left := if d.armed then d.left - 1 else d.left, steps := d.steps + 1 } (L - 1)) := Lib.hid (by
        have h1 := H.out.cell (d' := { d with left := if d.armed then d.left - 1 else d.left }) (L' := L - 1) 6 (.int .i64 (L - 1)) rfl rfl rfl rfl rfl (fun e => by show L - 1 = if d.armed then d.left - 1 else d.left; have e' : d.armed = true := e; rw [if_pos e', hlf e']) (by omega)
        exact h1.cell (d' := { d with left := if d.armed then d.left - 1 else d.left, steps := d.steps + 1 }) (L' := L - 1) 3 (.int .i64 (d.steps + 1)) rfl rfl rfl rfl rfl h1.left h1.l0)
      have HK : Hid (Keeps (· = A.b) w ((w.setCell ⟨A.b, 6, none⟩ (.int .i64 (L - 1))).setCell ⟨A.b, 3, none⟩ (.int .i64 (d.steps + 1)))) := Lib.hid ((Keeps.cellAt (S := (· = A.b)) rfl _).trans (Keeps.cellAt (S := (· = A.b)) rfl _))
      have He := Lib.hid (And.intro es hsl)
      have har : d.armed = false ∨ (d.armed = true ∧ 1 ≤ L) := by
        cases hx : d.armed
        · exact .inl rfl
        · right; refine ⟨rfl, ?_⟩
          have h1 := hlf hx
          have h2 : d.left ≠ 0 := fun e => ha ⟨hx, e⟩
          omega
      rcases har with har | ⟨har, hL1⟩
      · rw [har] at c5
        clear hd ha es hsl hlf hdf
        go_enter Try.func80, Try.ntmps80
        go_wp2
        go_ret
        rw [He.out.1, He.out.2]
        exact ⟨rfl, H2.out, HK.out⟩
      · rw [har] at c5
        have e0 : decide (L < 1) = false := by simp; omega
        clear hd ha es hsl hlf hdf
        go_enter Try.func80, Try.ntmps80
        go_wp2
        go_ret
        rw [He.out.1, He.out.2]
        exact ⟨rfl, H2.out, HK.out⟩
/-- what a Read answers -/
def rdR (d : Dev) (at_ : Int) : List UInt8 × Int := if at_ < 0 ∨ d.size ≤ at_ then ([], 1) else if d.down then ([], 3) else (d.now at_, 0)
theorem rread_any (h : RefAt w B A d L) (hz : 1 ≤ d.size) (hz2 : d.size ≤ 4096) (at_ : Int) (l : List UInt8) (x : Int) (hX : rdR d at_ = (l, x)) : Calls Try.prog 54 #[.pointer (some ⟨A.b, 0, none⟩), .int .i64 at_] w fun e w' =>
    (∃ q c, e = .returned (.tuple #[.slice q l.length c, .int .i64 x]) ∧ Bytes w' (.slice q l.length c) l) ∧ w = w' := by
  have hin := rin_any h hz at_
  have c7 := h.cells.c7
  have c0 := h.cells.c0
  unfold rdR at hX
  by_cases hr : at_ < 0 ∨ d.size ≤ at_
  · have e0 : (decide (0 ≤ at_) && decide (at_ < d.size)) = false := by simp; omega
    rw [e0] at hin
    rw [if_pos hr] at hX
    cases hX
    clear h hr e0
    go_enter Try.func54, Try.ntmps54
    go_wp2_with (go_at_call 79; (with_reducible refine hin.mono ?_); rintro _ _ ⟨rfl, rfl⟩)
    go_ret2
    exact ⟨⟨none, 0, rfl, Bytes.nil⟩, rfl⟩
  · have e0 : (decide (0 ≤ at_) && decide (at_ < d.size)) = true := by simp; omega
    rw [e0] at hin
    rw [if_neg hr] at hX
    cases hd : d.down
    · rw [hd] at c7 hX
      rw [if_neg (by simp)] at hX
      cases hX
      obtain ⟨k, hk⟩ : ∃ k : Nat, at_ = (k : Int) := ⟨at_.toNat, by omega⟩
      subst hk
      obtain ⟨g, o, c, q, c2, ev, hc, _, hb, _, _⟩ := h.now.at (i := k) (by omega)
      rw [ev] at c0
      have hkl : (k : Int) < ((d.size.toNat : Nat) : Int) := by omega
      have hkl2 : k < d.size.toNat := by omega
      have Hb := Lib.hid hb
      generalize d.size.toNat = N at c0 hkl hkl2
      generalize d.now (k : Int) = l at hc Hb ⊢
      clear h hr e0 hd ev hb
      go_enter Try.func54, Try.ntmps54
      go_wp2_with (go_at_call 79; (with_reducible refine hin.mono ?_); rintro _ _ ⟨rfl, rfl⟩)
      go_ret2
      exact ⟨⟨q, c2, rfl, Hb.out⟩, rfl⟩
    · rw [hd] at c7 hX
      rw [if_pos rfl] at hX
      cases hX
      clear h hr e0 hd
      go_enter Try.func54, Try.ntmps54
      go_wp2_with (go_at_call 79; (with_reducible refine hin.mono ?_); rintro _ _ ⟨rfl, rfl⟩)
      go_ret2
      exact ⟨⟨none, 0, rfl, Bytes.nil⟩, rfl⟩
end
end Go.Proofs.Ytnficiohnhodiaa
