import Derived.Test.YtnficiohnhodiaaRwU
import Derived.Test.YtnficiohnhodiaaSlotR
import Derived.Test.YtnficiohnhodiaaBase
import Derived.WalkKit
import Derived.ProofKit
import Derived.OpenShut
import Derived.ShutString
import Derived.ChangeOld
import Derived.Below
import Derived.SizedLaws
/-
  SlotPlays: the law.
-/
namespace Go.Proofs.Ytnficiohnhodiaa
open Go.RowKit
theorem RowsAt.weakenS {w : World} {B B' : Nat} {v : Value} {S : Nat → Prop} {f : Int → List UInt8} {size : Nat} (h : RowsAt w B v S f size) (hb : B' ≤ B) : RowsAt w B' v S f size := by
  obtain ⟨rows, a, b, c⟩ := h
  exact ⟨rows, a, b.weaken hb, c⟩
theorem RefAt.weakenS {w : World} {B B' : Nat} {A : RAd} {d : Dev} {L : Int} (h : RefAt w B A d L) (hb : B' ≤ B) : RefAt w B' A d L :=
  ⟨h.self, h.now.weakenS hb, h.synced.weakenS hb, h.chg.weaken hb, Nat.le_trans hb h.low, h.ap1, h.ap2, h.ap3, h.left, h.l0⟩
theorem RefAt.aboveS {w : World} {B : Nat} {A : RAd} {d : Dev} {L : Int} (h : RefAt w B A d L) (k : Nat) (hk : A.S k) : B ≤ k := by
  rcases hk with rfl | e | e | e
  · exact h.low
  · obtain ⟨rows, _, hs, _⟩ := h.now; exact (hs.lt k e).1
  · obtain ⟨rows, _, hs, _⟩ := h.synced; exact (hs.lt k e).1
  · exact (h.chg.lt k e).1
theorem PI.below {w0 w w' : World} {p mn ms mc j n : Nat} {A : RAd} (h : PI w0 w p mn ms mc A j n) (hb : Below w.heap.size w w') : PI w0 w' p mn ms mc A j n := by
  obtain ⟨d, L, sq, tq, x, h1, h2⟩ := h
  exact ⟨d, L, sq, tq, x, h1.below hb, h2.below hb⟩
theorem PI.bel {w0 w : World} {p mn ms mc j n : Nat} {A : RAd} (h : PI w0 w p mn ms mc A j n) : Below w0.heap.size w0 w := by
  obtain ⟨d, L, sq, tq, x, h1, h2⟩ := h
  exact h1.dev.bel
theorem same_any {w0 w : World} {p mn ms mc j n : Nat} {A : RAd} (h : PI w0 w p mn ms mc A j n) : Calls Try.prog 35 #[.pointer (some ⟨j, 0, none⟩)] w fun e w' => e = .returned (.bool true) ∧ PI w0 w' p mn ms mc A j n := by
  obtain ⟨d, L, sq, tq, x, h1, h2⟩ := id h
  exact (Pre.same_some h1 h2).mono fun _ _ ⟨a, b⟩ => ⟨a, h.below b⟩
theorem PI.begin {w0 w : World} {p mn ms mc : Nat} {A : RAd} {size : Int} (h : DB w0 w p mn ms mc (Dev.new size) 0) (hr : RefAt w w0.heap.size A (Dev.new size) 0) (hoff : ∀ k, DFoot p mn ms mc k → ¬ A.S k) (hlow : ∀ k, A.S k → w0.heap.size ≤ k) :
    PI w0 (w.alloc (.cells #[.pointer (some ⟨p, 0, none⟩), .pointer (some ⟨A.b, 0, none⟩), .pointer none, .pointer none] 69)) p mn ms mc A w.heap.size 0 := by
  have hb : Below w.heap.size w (w.alloc (.cells #[.pointer (some ⟨p, 0, none⟩), .pointer (some ⟨A.b, 0, none⟩), .pointer none, .pointer none] 69)) := (Below.refl _ _).alloc (Nat.le_refl _) _
  exact ⟨Dev.new size, 0, none, none, none, ⟨h.below hb, hr.below hb, hoff, hlow, heap_alloc_new _ _, h.bel.size, fun e => Nat.lt_irrefl _ (h.lay.lt _ e), fun e => Nat.lt_irrefl _ (hr.lt _ e), by omega, by omega⟩, .inl ⟨rfl, rfl, rfl⟩⟩
set_option maxRecDepth 100000 in
set_option maxHeartbeats 4000000 in
theorem slots_ok (size : Int) (a : Option Addr) (len cap : Nat) (zs : List OpS) (w : World) (hz : IsOpsS w a len cap zs) (hs0 : 1 ≤ size) (hs1 : size ≤ 16) (hlen : len ≤ 60) :
    Calls Try.prog 5 #[.int .i64 size, .slice a len cap] w fun e w' => e = .returned (.bool true) ∧ Below w.heap.size w w' := by
  have hal := alive_any w
  have Hz := Lib.hid hz
  obtain ⟨hl, _⟩ := opsS_len hz
  have Hl := Lib.hid hl
  clear hz hl
  go_enter Try.func5, Try.ntmps5
  go_upto_region 9 with (first
    | (go_at_call 33; (with_reducible refine hal.mono ?_); rintro _ w1 ⟨rfl, b1⟩; clear hal; have B1 := Lib.hid b1; have hnw := new_db w w1 size hs0 (by omega) b1; clear b1)
    | (go_at_call 22; (with_reducible refine hnw.mono ?_); rintro _ w2 ⟨p, mn, ms, mc, rfl, h2, b2, f2⟩; clear hnw; have H2 := Lib.hid h2; have B2 := Lib.hid b2; have hrn := rnew_any w2 size hs0 (by omega); clear h2 b2 f2)
    | (go_at_call 23; (with_reducible refine hrn.mono ?_); rintro _ w3 ⟨A, rfl, h3, b3⟩; clear hrn; have H3 := Lib.hid h3; have B3 := Lib.hid b3; clear h3 b3))
  have Hbeg : Hid (PI w (w3.alloc (.cells #[.pointer (some ⟨p, 0, none⟩), .pointer (some ⟨A.b, 0, none⟩), .pointer none, .pointer none] 69)) p mn ms mc A w3.heap.size 0) := Lib.hid (PI.begin (H2.out.below B3.out) (H3.out.weakenS H2.out.bel.size) (fun k hk e => Nat.lt_irrefl _ (Nat.lt_of_lt_of_le (H2.out.lay.lt k hk) (H3.out.aboveS k e))) (fun k e => Nat.le_trans H2.out.bel.size (H3.out.aboveS k e)))
  go_upto_region 10 with fail
  clear B1 B2 B3 H2 H3
  generalize w3.alloc (.cells #[.pointer (some ⟨p, 0, none⟩), .pointer (some ⟨A.b, 0, none⟩), .pointer none, .pointer none] 69) = w4 at Hbeg ⊢
  generalize w3.heap.size = j at Hbeg ⊢
  go_wp2
  go_loopw [47] (fun i wr => ∃ k : Nat, k ≤ len ∧ i = .int .i64 k ∧ PI w wr p mn ms mc A j (3 * k)) (fun i _ => len - (intOf i).toNat)
  case atStart => exact ⟨0, by omega, rfl, Hbeg.out⟩
  case round =>
    clear Hbeg
    obtain ⟨k, hk, rfl, hB⟩ := hrel
    by_cases hlt : k < len
    · obtain ⟨o, ho⟩ : ∃ o, zs[k]? = some o := ⟨_, List.getElem?_eq_getElem (by rw [Hl.out]; exact hlt)⟩
      obtain ⟨x, rfl⟩ := opsS_some Hz.out ho
      obtain ⟨c0, c1, c2, c3⟩ := opsS_at Hz.out hB.bel k o ho
      obtain ⟨l, ks, hh⟩ := opsS_holds Hz.out ho
      have HH := Lib.hid hh
      have HB := Lib.hid hB
      clear ho hh hB
      by_cases h4 : (4096 : Int) < (o.bl : Int)
      · go_wp2
        go_ret
        exact ⟨rfl, HB.out.bel.trans (((Below.refl _ _).alloc (Nat.le_refl _) _).mono HB.out.bel.size)⟩
      · have hbl : o.bl ≤ 4096 := by omega
        have Hbl := Lib.hid hbl
        have Hpl := Lib.hid (fun (w' : World) (h : PI w w' p mn ms mc A j (3 * k)) => play_allS h (by omega) HH.out Hbl.out)
        have Hsm := Lib.hid (fun (w' : World) (h : PI w w' p mn ms mc A j (3 * k + 3)) => same_any h)
        clear hbl
        have HB1 : Hid (PI w (wr.alloc (.cells #[.int .i64 o.kind, .int .i64 o.at_, .slice o.bq o.bl o.bc, .slice o.kq o.kl o.kc] 71)) p mn ms mc A j (3 * k)) := Lib.hid (HB.out.below ((Below.refl _ _).alloc (Nat.le_refl _) _))
        have hpl := Hpl.out _ HB1.out
        go_wp2_with (first
          | (go_at_call 34; (with_reducible refine hpl.mono ?_); rintro _ w5 ⟨rfl, h5⟩; clear hpl; have H5 := Lib.hid h5; have hsm := Hsm.out w5 h5; clear h5)
          | (go_at_call 35; (with_reducible refine hsm.mono ?_); rintro _ w6 ⟨rfl, h6⟩; clear hsm; have H6 := Lib.hid h6; clear h6))
        go_roundw
        case rel => exact ⟨k + 1, by omega, by go_num, H6.out⟩
        case measure => simp [intOf]; omega
    · obtain rfl : k = len := by omega
      have HB := Lib.hid hB
      clear hB
      go_wp2
      go_ret
      exact ⟨rfl, HB.out.bel⟩
set_option maxRecDepth 100000 in
set_option maxHeartbeats 1000000 in
theorem slots_bad (size : Int) (a : Option Addr) (len cap : Nat) (w : World) (hl : len ≤ maxLen) (hs : size < 1 ∨ 16 < size ∨ 60 < len) :
    Calls Try.prog 5 #[.int .i64 size, .slice a len cap] w fun e w' => e = .returned (.bool true) ∧ Below w.heap.size w w' := by
  have hal := alive_any w
  unfold maxLen at hl
  by_cases h1 : size < 1
  · go_enter Try.func5, Try.ntmps5
    go_wp2_with (go_at_call 33; (with_reducible refine hal.mono ?_); rintro _ w1 ⟨rfl, b1⟩; clear hal; have B1 := Lib.hid b1; clear b1)
    go_ret
    exact ⟨by simp, B1.out⟩
  · by_cases h2 : 16 < size
    · clear hs
      go_enter Try.func5, Try.ntmps5
      go_wp2_with (go_at_call 33; (with_reducible refine hal.mono ?_); rintro _ w1 ⟨rfl, b1⟩; clear hal; have B1 := Lib.hid b1; clear b1)
      go_ret
      exact ⟨by simp, B1.out⟩
    · have h3 : (60 : Int) < (len : Int) := by omega
      clear hs
      go_enter Try.func5, Try.ntmps5
      go_wp2_with (go_at_call 33; (with_reducible refine hal.mono ?_); rintro _ w1 ⟨rfl, b1⟩; clear hal; have B1 := Lib.hid b1; clear b1)
      go_ret
      exact ⟨by simp, B1.out⟩
open Go.ChangeShapes Go.WideShapes Go.ChangeAt
/-- an argument of the statement, as a row's reading has it -/
def OpsSArg (w : World) (v : Value) : Prop := ∃ a len cap zs, v = .slice a len cap ∧ IsOpsS w a len cap zs
set_option maxRecDepth 100000 in
theorem OpsSArg_of {H : Type} {enc : TypeId × Value → H} {w : World} {base : Nat} {spare : Nat → Bool} {held : Bool} {r : Reach} {b0 : Nat} {v : Value} {d : DataW H} {p : List MemPlace} (hv : Value.okWide Try.prog w r b0 64 v) (h : DataW.Trod enc Try.prog w base spare held 64 v d p) : OpsSArg w v := by
  obtain ⟨a, len, cap, rfl⟩ := okWide_slice Try.underlying64 hv
  obtain ⟨fuel, hf⟩ := h
  obtain ⟨zs, h1⟩ := opsS_of_trod (by simpa [Value.cells] using hf)
  exact ⟨a, len, cap, zs, rfl, h1⟩
set_option maxRecDepth 100000 in
theorem slotPlays_walk (size : Int) (v : Value) (w : World) (_ : (Lit.int .i64 size).wf = true) (h : OpsSArg w v) : Calls Try.prog 5 #[.int .i64 size, v] w fun e w' => e = .returned (.bool true) ∧ Below w.heap.size w w' := by
  obtain ⟨a, len, cap, zs, rfl, h1⟩ := h
  by_cases hs : size < 1 ∨ 16 < size ∨ 60 < len
  · exact slots_bad size a len cap w (opsS_len h1).2 hs
  · exact slots_ok size a len cap zs w h1 (by omega) (by omega) (by omega)
end Go.Proofs.Ytnficiohnhodiaa
