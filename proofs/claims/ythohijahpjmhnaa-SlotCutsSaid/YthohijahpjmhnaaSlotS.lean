import Derived.Test.YthohijahpjmhnaaSlotR
import Derived.Test.YthohijahpjmhnaaArgs
/-
  SlotDead.
-/
namespace Go.Proofs.Ythohijahpjmhnaa
open Go.RowKit
theorem arm_any {w0 w : World} {p mn ms mc n : Nat} {d : Dev} (h : DB w0 w p mn ms mc d n) (k : Int) (h0 : 0 ≤ k) (h1 : k < 9223372036854775808) :
    Calls Try.prog 38 #[.pointer (some ⟨p, 0, none⟩), .int .i64 k] w fun e w' => e = .returned .nilIface ∧ DB w0 w' p mn ms mc (d.arm k) n ∧ Keeps (DFoot p mn ms mc) w w' :=
  (arm_ok w p mn ms mc d k h.lay h0).mono fun _ _ ⟨h1', h2, h3⟩ => ⟨h1', h.step h2 { h.ok with l0 := h0, l1 := h1 } (h3.mono (fun _ _ e => .inl e)), h3.mono (fun _ _ e => .inl e)⟩
theorem mod2_of (a : Int) : ∃ m : Nat, m < 2 ∧ wrap64 ((IntKind.u64.wrap a).tmod 2) = (m : Int) := by
  have h0 : 0 ≤ IntKind.u64.wrap a := by
    show 0 ≤ a % (2 ^ IntKind.u64.bits : Int)
    exact Int.emod_nonneg _ (by decide)
  rw [Int.tmod_eq_emod_of_nonneg h0]
  generalize IntKind.u64.wrap a = x at *
  refine ⟨(x % 2).toNat, by omega, ?_⟩
  unfold wrap64; omega
section
variable {w0 w : World} {p mn ms mc n s : Nat} {d : Dev} {at_ number : Int} {row new : List UInt8} {v : Value} {k : Int}
/-- a Save that the power leaves at its first or second step -/
theorem save_broken (hD : DB w0 w p mn ms mc (d.arm k) n) (hn : n ≤ 100000000) (hc : Clean d at_ number row) (hS : SlotAt w s p at_ number row false) (hs0 : w0.heap.size ≤ s) (hm : number < most62) (hv : Bytes w v new) (hl : new.length ≤ 480) (hk0 : 0 ≤ k) (hk : k < 2) (ho : d.Ok n) :
    Calls Try.prog 15 #[.pointer (some ⟨s, 0, none⟩), v] w fun e w' => e = .returned (.iface 31 (.int .i64 3)) ∧ ∃ d', DB w0 w' p mn ms mc d' (n + 2) ∧ (∀ keep, Clean (d'.crash keep) at_ number row ∨ Clean (d'.crash keep) at_ (number + 1) new) ∧ SlotAt w' s p at_ number row true ∧ Keeps (SFoot p mn ms mc s) w w' := by
  have := hc.a1
  have hn1 := hc.num
  have hz2 := hD.ok.z2
  have hz3 : d.size ≤ 4096 := hz2
  have hall := fun keep => save_cut ho hc hm hl k hk0 (by omega) keep
  obtain ⟨e0, d', num', row', dead', hx, _, hor⟩ := hall []
  refine (save_any (new := new) hD hn hS hs0 hv hc.a0 (by omega) (by omega)).mono fun e w' hp => ?_
  rw [hx] at hp
  obtain ⟨he, hD', hS', hK⟩ := hp
  rcases hor with ⟨_, _, _, _, h2, _⟩ | ⟨h1, h2, h3, h4, _, _⟩
  · omega
  · subst h1; subst h2; subst h3; subst h4
    refine ⟨by rw [he]; rfl, d', hD', fun keep => ?_, hS', hK⟩
    obtain ⟨e1, d1, num1, row1, dead1, hx1, _, hor1⟩ := hall keep
    rw [hx] at hx1
    cases hx1
    rcases hor1 with ⟨h0, _⟩ | ⟨_, _, _, _, _, h⟩
    · cases h0
    · exact h
theorem save_dead' (hD : DB w0 w p mn ms mc d n) (hS : SlotAt w s p at_ number row true) (hv : Bytes w v new) (h0 : 0 ≤ number) (hm : number < most62) (hl : new.length ≤ 480) :
    Calls Try.prog 15 #[.pointer (some ⟨s, 0, none⟩), v] w fun e w' => e = .returned (.iface 31 (.int .i64 3)) ∧ DB w0 w' p mn ms mc d (n + 2) ∧ SlotAt w' s p at_ number row true ∧ Keeps (SFoot p mn ms mc s) w w' := by
  refine (save_dead hD hS hv h0 (by omega) hl).mono fun e w' hp => ?_
  have hx : slotSave d at_ number row true new = ⟨3, d, number, row, true⟩ := by unfold slotSave; rw [if_neg (by omega), if_neg (by omega), if_pos rfl]
  rw [hx] at hp
  obtain ⟨he, hD', hS', hK⟩ := hp
  exact ⟨by rw [he]; rfl, hD', hS', hK⟩
end
set_option maxRecDepth 100000 in
set_option maxHeartbeats 4000000 in
theorem dead_ok (a : Option Addr) (len cap : Nat) (row : List UInt8) (arm : Int) (q : Option Addr) (kl kc : Nat) (keep : List Int) (w : World) (hr : Bytes w (.slice a len cap) row) (hrl : row.length = len) (hk : Ints w (.slice q kl kc) keep) :
    Calls Try.prog 9 #[.slice a len cap, .int .i64 arm, .slice q kl kc] w fun e w' => e = .returned (.bool true) ∧ Below w.heap.size w w' := by
  have hal := alive_any w
  have Hr := Lib.hid hr
  have Hk := Lib.hid hk
  clear hr hk
  by_cases hlong : (480 : Int) < (len : Int)
  · go_enter Try.func9, Try.ntmps9
    go_wp2_with (go_at_call 12; (with_reducible refine hal.mono ?_); rintro _ w1 ⟨rfl, hb1⟩; clear hal)
    go_ret
    exact ⟨rfl, hb1⟩
  · have Hl : Hid (row.length ≤ 480) := Lib.hid (by omega)
    obtain ⟨m, hm2, hme⟩ := mod2_of arm
    have Hm2 := Lib.hid hm2
    have q3 : ∀ w, (binOp .eql 26 (.iface 31 (.int .i64 3)) (.iface 31 (.int .i64 3))).run Try.prog w = .ok (.bool true) w := fun w => errEqK w 3 3 (by decide)
    have m3 := makeErr 3
    have kc' := fun (w : World) (C : Array Value) (n c : Nat) => Lib.run_convert_bytes_const (P := Try.prog) w 22 5 C n c Try.underlying22 Try.underlying5
    have sb := strB_toList [120]
    have Al := Lib.hid (fun (w : World) (o : Obj) => (Below.refl w.heap.size w).alloc (Nat.le_refl _) o)
    clear hrl hm2
    go_enter Try.func9, Try.ntmps9
    go_wp2_with (first
      | (go_at_call 12; (with_reducible refine hal.mono ?_); rintro _ w1 ⟨rfl, hb1⟩; clear hal; have hn := new_db w w1 2 (by decide) (by decide) hb1; clear hb1)
      | (go_at_call 35; (with_reducible refine hn.mono ?_); rintro _ w2 ⟨p, mn, ms, mc, rfl, h2, _, _⟩; clear hn; have hf := format_live h2 (by omega) (Live.new 2) (at_ := 0) (by decide) (by decide) Bytes.nil (by simp); have lo2 := h2.bel.size; clear h2)
      | (go_at_call 14; (with_reducible refine hf.mono ?_); rintro _ w3 ⟨s, d3, rfl, h3, c3, _, _, _, S3, l3, k3⟩; clear hf; have lo3 := Lib.hid (Nat.le_trans lo2 l3); have C3 := Lib.hid c3; have O3 := Lib.hid h3.ok; have ha := arm_any h3 (m : Int) (by omega) (by have := Hm2.out; omega); have H3 := Lib.hid h3; have HS3 := Lib.hid S3; clear h3 c3 S3 l3 k3 lo2)
      | (go_at_call 38; (with_reducible refine ha.mono ?_); rintro _ w4 ⟨rfl, h4, k4⟩; clear ha; have hs := save_broken h4 (by omega) C3.out (HS3.out.dev H3.out.lay k4) lo3.out (by decide) (Hr.out.below h4.bel) Hl.out (by omega) (by have := Hm2.out; omega) O3.out; clear h4 k4)
      | (go_at_call 15; (with_reducible refine hs.mono ?_); rintro _ w5 ⟨rfl, d5, h5, c5, S5, _⟩; clear hs; have HS5 := Lib.hid S5; have H5 := Lib.hid h5; have C5 := Lib.hid (c5 keep); have hc := crash_db h5 _ keep (Hk.out.below h5.bel); clear S5 h5 c5)
      | (go_at_call 39; (with_reducible refine hc.mono ?_); rintro _ w6 ⟨rfl, h6, k6⟩; clear hc; have hs2 := save_dead' h6 (HS5.out.dev H5.out.lay k6) (Hr.out.below h6.bel) (by decide) (by decide) Hl.out; clear h6 k6)
      | (go_at_call 15; (with_reducible refine hs2.mono ?_); rintro _ w7 ⟨rfl, h7, _, _⟩; clear hs2; (obtain ⟨num7, row7, c7, hnum7⟩ : ∃ num row, Clean (d5.crash keep) 0 num row ∧ num < most62 := by rcases C5.out with h | h; exact ⟨_, _, h, by decide⟩; exact ⟨_, _, h, by decide⟩); have ho := open_ok h7 c7; have C7 := Lib.hid c7; have N7 := Lib.hid hnum7; have lo7 := Lib.hid h7.bel.size; clear h7 c7 hnum7)
      | (go_at_call 13; (with_reducible refine ho.mono ?_); rintro _ w8 ⟨s8, rfl, h8, S8, l8, b8⟩; clear ho; have hs3 := save_ok' (h8.below (Al.out w8 (.cells #[.int .u8 120] 5 (1, 2)))) (by omega) C7.out (S8.below (Al.out w8 (.cells #[.int .u8 120] 5 (1, 2)))) (Nat.le_trans lo7.out l8) N7.out (lit_one w8 120 5 (1, 2)) (by simp); clear h8 S8 l8 b8)
      | (go_at_call 15; (with_reducible refine hs3.mono ?_); rintro _ w9 ⟨rfl, d9, h9, _, S9, _⟩; clear hs3; have hrw := row_form S9 (by simp); clear S9)
      | (go_at_call 16; (with_reducible refine hrw.mono ?_); rintro _ w10 ⟨q10, m10, cc10, rfl, _, k10, b10⟩; clear hrw; have h10 := h9.below b10; clear h9 b10))
    go_ret
    exact ⟨rfl, h10.bel⟩
theorem slotDead_walk (a : Option Addr) (len cap : Nat) (zs : List Int) (arm : Int) (q : Option Addr) (kl kc : Nat) (keep : List Int) (w : World) (hz : IsRow .u8 w a len cap zs) (_ : len * 1 ≤ 140737488351232) (_ : (Lit.int .i64 arm).wf = true) (hk : IsRow .i64 w q kl kc keep) (_ : kl * 8 ≤ 140737488351232) :
    Calls Try.prog 9 #[.slice a len cap, .int .i64 arm, .slice q kl kc] w fun e w' => e = .returned (.bool true) ∧ Below w.heap.size w w' := by
  obtain ⟨l, hl, hb⟩ := bytes_of_row hz
  exact dead_ok a len cap l arm q kl kc _ w hb hl (ints_of_row hk).1
end Go.Proofs.Ythohijahpjmhnaa
