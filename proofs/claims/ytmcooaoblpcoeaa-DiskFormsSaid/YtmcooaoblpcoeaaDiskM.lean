import Derived.Test.YtmcooaoblpcoeaaDiskL
import Derived.Test.YtmcooaoblpcoeaaBase
/-
  DiskForms: which sectors there are, and how many bytes they take.
-/
namespace Go.Proofs.Ytmcooaoblpcoeaa
open Go.RowKit
theorem bytes_of_row {w : World} {a : Option Addr} {len cap : Nat} {zs : List Int} (h : IsRow .u8 w a len cap zs) : ∃ l : List UInt8, l.length = len ∧ Bytes w (.slice a len cap) l := by
  rcases h with ⟨rfl, rfl, rfl, rfl⟩ | ⟨x, rfl, h1, h2, h3, h4, h5⟩
  · exact ⟨[], rfl, none, 0, rfl, Nat.le_refl _, Nat.zero_le _, fun j b hb => by simp at hb⟩
  · have hl : ((zs.take len).map fun z => UInt8.ofNat z.toNat).length = len := by simp; omega
    refine ⟨_, hl, some x, cap, by rw [hl], by rw [hl]; exact h1, h2, fun j b hb => ⟨x, rfl, ?_⟩⟩
    rw [List.getElem?_map] at hb
    obtain ⟨z, hz, rfl⟩ := Option.map_eq_some_iff.1 hb
    rw [List.getElem?_take] at hz
    split at hz
    · have hj := (List.getElem?_eq_some_iff.1 hz).1
      have hw := h5 z (List.mem_of_getElem? hz)
      rw [h4 j hj, List.getD_eq_getElem?_getD, hz]
      simp [Lit.wf, IntKind.min, IntKind.max, IntKind.signed, IntKind.bits] at hw
      show some (Value.int .u8 z) = some (byteV (UInt8.ofNat z.toNat))
      unfold byteV
      rw [UInt8.toNat_ofNat']
      congr 2; omega
    · cases hz
set_option maxRecDepth 100000 in
set_option maxHeartbeats 1000000 in
theorem ints_same (w : World) (va vb : Value) (l : List Int) (ha : Ints w va l) (hb : Ints w vb l) (hl : l.length ≤ 1000000000) : Calls Try.prog 20 #[va, vb] w fun e w' => e = .returned (.bool true) ∧ ∃ n, w' = w.drewN n := by
  obtain ⟨q, cap, rfl, h1, h2, h3⟩ := ha
  obtain ⟨q2, cap2, rfl, k1, k2, k3⟩ := hb
  have H3 := Lib.hid h3
  have K3 := Lib.hid k3
  clear h3 k3
  go_enter Try.func20, Try.ntmps20
  go_wp2
  go_loopw [13] (fun i wr => ∃ k n : Nat, k ≤ l.length ∧ i = .int .i64 k ∧ wr = w.drewN n) (fun i _ => l.length - (intOf i).toNat)
  case atStart => exact ⟨0, 0, by omega, rfl, rfl⟩
  case round =>
    obtain ⟨k, n, hk, rfl, rfl⟩ := hrel
    by_cases hlt : k < l.length
    · obtain ⟨x, hx⟩ : ∃ x, l[k]? = some x := ⟨_, List.getElem?_eq_getElem hlt⟩
      obtain ⟨b, off, rfl, hc⟩ := H3.out k x hx
      obtain ⟨b2, off2, rfl, hc2⟩ := K3.out k x hx
      clear hx
      have hki : (k : Int) < (l.length : Int) := by omega
      go_wp2_with fail
      go_quiet (fail)
      go_wp2
      go_roundw
      case rel => exact ⟨k + 1, _, by omega, by go_num, rfl⟩
      case measure => simp [intOf]; omega
    · obtain rfl : k = l.length := by omega
      go_wp2
      go_ret
      exact ⟨rfl, n, rfl⟩
section
variable (hal : Alive) (size at_ : Int) (a : Option Addr) (len cap : Nat) (l : List UInt8) (w : World)
include hal
set_option maxRecDepth 100000 in
set_option maxHeartbeats 4000000 in
theorem forms_bad (h : size < 1 ∨ 4096 < size) : Calls Try.prog 4 #[.int .i64 size, .int .i64 at_, .slice a len cap] w fun e w' => e = .returned (.bool true) ∧ Below w.heap.size w w' := by
  have hal := hal w
  have hm1 := makeErr 1
  have hm2 := makeErr 2
  have q1 : ∀ w, (binOp .eql 28 (.iface 45 (.int .i64 1)) (.iface 45 (.int .i64 1))).run Try.prog w = .ok (.bool true) w := fun w => errEqK w 1 1 (by decide)
  have q2 : ∀ w, (binOp .eql 28 (.iface 45 (.int .i64 2)) (.iface 45 (.int .i64 2))).run Try.prog w = .ok (.bool true) w := fun w => errEqK w 2 2 (by decide)
  have hn := fun w => new_bad size w h
  rw [errV_pos (by decide)] at hn
  by_cases hl : (65536 : Int) < (len : Int)
  all_goals
    rcases h with h | h
    all_goals
      go_enter Try.func4, Try.ntmps4
      go_wp2_with (first
        | (go_at_call 9; (with_reducible refine hal.mono ?_); rintro _ w1 ⟨rfl, hb1⟩; clear hal)
        | (go_at_call 11; (with_reducible refine (hn _).mono ?_); rintro _ _ ⟨rfl, rfl⟩))
      go_ret
      exact ⟨rfl, hb1⟩
set_option maxRecDepth 100000 in
set_option maxHeartbeats 4000000 in
theorem forms_long (h1 : 1 ≤ size) (h2 : size ≤ 4096) (hl : (65536 : Int) < (len : Int)) : Calls Try.prog 4 #[.int .i64 size, .int .i64 at_, .slice a len cap] w fun e w' => e = .returned (.bool true) ∧ Below w.heap.size w w' := by
  have hal := hal w
  have hm1 := makeErr 1
  have hm2 := makeErr 2
  have q1 : ∀ w, (binOp .eql 28 (.iface 45 (.int .i64 1)) (.iface 45 (.int .i64 1))).run Try.prog w = .ok (.bool true) w := fun w => errEqK w 1 1 (by decide)
  have q2 : ∀ w, (binOp .eql 28 (.iface 45 (.int .i64 2)) (.iface 45 (.int .i64 2))).run Try.prog w = .ok (.bool true) w := fun w => errEqK w 2 2 (by decide)
  have n1 : ¬ size < 1 := by omega
  have n2 : ¬ 4096 < size := by omega
  go_enter Try.func4, Try.ntmps4
  go_wp2_with (first
    | (go_at_call 9; (with_reducible refine hal.mono ?_); rintro _ w1 ⟨rfl, hb1⟩; clear hal)
    | (go_at_call 11; (with_reducible refine (new_db w _ size h1 h2 hb1).mono ?_); rintro _ w2 ⟨p, mn, ms, mc, rfl, h3, _, _⟩))
  go_ret
  exact ⟨rfl, h3.bel⟩
omit hal in
theorem unsynced_one {d : Dev} {n : Nat} (hd : d.Ok n) {k : Int} (h : ∀ j, d.chg j = if j = k then true else false) : d.unsynced = [k] := by
  have hm : ∀ j, j ∈ d.unsynced ↔ d.chg j = true := by
    intro j
    unfold Dev.unsynced
    simp only [List.mem_map, List.mem_filter, List.mem_range]
    constructor
    · rintro ⟨i, ⟨_, h⟩, rfl⟩; exact h
    · intro h
      have := hd.rng j h
      exact ⟨j.toNat, ⟨by omega, by rw [Int.toNat_of_nonneg this.1]; exact h⟩, Int.toNat_of_nonneg this.1⟩
  have hu : d.unsynced.Pairwise (fun x y => x < y) := by
    unfold Dev.unsynced
    rw [List.pairwise_map]
    exact (List.pairwise_lt_range.filter _).imp (fun h => by omega)
  have ndu : d.unsynced.Nodup := hu.imp (fun h => by omega)
  have hp : d.unsynced.Perm [k] := (List.perm_ext_iff_of_nodup ndu (by simp)).2 fun j => by
    rw [hm, h]; simp
  exact List.perm_singleton.1 hp
set_option maxRecDepth 100000 in
set_option maxHeartbeats 4000000 in
theorem forms_range (h1 : 1 ≤ size) (h2 : size ≤ 4096) (hl : (len : Int) ≤ 65536) (hv : Bytes w (.slice a len cap) l) (hll : l.length = len) (hr : at_ < 0 ∨ size ≤ at_) : Calls Try.prog 4 #[.int .i64 size, .int .i64 at_, .slice a len cap] w fun e w' => e = .returned (.bool true) ∧ Below w.heap.size w w' := by
  have hal := hal w
  have hm1 := makeErr 1
  have hm2 := makeErr 2
  have q1 : ∀ w, (binOp .eql 28 (.iface 45 (.int .i64 1)) (.iface 45 (.int .i64 1))).run Try.prog w = .ok (.bool true) w := fun w => errEqK w 1 1 (by decide)
  have q2 : ∀ w, (binOp .eql 28 (.iface 45 (.int .i64 2)) (.iface 45 (.int .i64 2))).run Try.prog w = .ok (.bool true) w := fun w => errEqK w 2 2 (by decide)
  have n1 : ¬ size < 1 := by omega
  have n2 : ¬ 4096 < size := by omega
  have hwr : (Dev.new size).write at_ l = (1, Dev.new size) := by unfold Dev.write; rw [if_pos (show at_ < 0 ∨ (Dev.new size).size ≤ at_ from hr)]
  have Hwr := Lib.hid hwr
  have Hv := Lib.hid hv
  have Hll := Lib.hid hll
  have hr' : Hid (at_ < 0 ∨ (Dev.new size).size ≤ at_) := hr
  clear hwr hv hll
  by_cases n3 : at_ < 0
  all_goals
    first | (have n4 : size ≤ at_ := by omega) | skip
    go_enter Try.func4, Try.ntmps4
    go_wp2_with (first
      | (go_at_call 9; (with_reducible refine hal.mono ?_); rintro _ w1 ⟨rfl, hb1⟩; clear hal)
      | (go_at_call 11; go_loud ((with_reducible refine (new_db w _ size h1 h2 hb1).mono ?_); rintro _ w2 ⟨p, mn, ms, mc, rfl, h3, hb2, _⟩; have g4 := write_one h3 (by omega) at_ ((Hv.out.below hb1).below hb2) 32 (by rw [Hll.out]; omega); clear h3 hb2; simp only [Hwr.out] at g4; rw [errV_pos (k := 1) (by decide)] at g4))
      | (go_at_call 13; (with_reducible refine g4.mono ?_); rintro _ w4 ⟨rfl, h4, _⟩; clear g4; have g5 := read_range w4 p mn ms mc _ h4.lay at_ hr'.out; rw [errV_pos (by decide)] at g5; have g6 := steps_db h4)
      | (go_at_call 17; (with_reducible refine g5.mono ?_); rintro _ _ ⟨rfl, rfl⟩; clear g5)
      | (go_at_call 19; (with_reducible refine g6.mono ?_); rintro _ _ ⟨rfl, rfl⟩; clear g6))
    go_ret
    exact ⟨rfl, h4.bel⟩
set_option maxRecDepth 100000 in
set_option maxHeartbeats 4000000 in
theorem forms_form (h1 : 1 ≤ size) (h2 : size ≤ 4096) (hl : (len : Int) ≤ 65536) (hv : Bytes w (.slice a len cap) l) (hll : l.length = len) (h0 : 0 ≤ at_) (hs : at_ < size) (hf : len ≠ 512) : Calls Try.prog 4 #[.int .i64 size, .int .i64 at_, .slice a len cap] w fun e w' => e = .returned (.bool true) ∧ Below w.heap.size w w' := by
  have hal := hal w
  have hm1 := makeErr 1
  have hm2 := makeErr 2
  have q1 : ∀ w, (binOp .eql 28 (.iface 45 (.int .i64 1)) (.iface 45 (.int .i64 1))).run Try.prog w = .ok (.bool true) w := fun w => errEqK w 1 1 (by decide)
  have q2 : ∀ w, (binOp .eql 28 (.iface 45 (.int .i64 2)) (.iface 45 (.int .i64 2))).run Try.prog w = .ok (.bool true) w := fun w => errEqK w 2 2 (by decide)
  have n1 : ¬ size < 1 := by omega
  have n2 : ¬ 4096 < size := by omega
  have n3 : ¬ at_ < 0 := by omega
  have n4 : ¬ size ≤ at_ := by omega
  have hfb : ((len : Int) != 512) = true := by rw [bne_iff_ne]; omega
  have hwr : (Dev.new size).write at_ l = (2, Dev.new size) := by unfold Dev.write; rw [if_neg (show ¬ (at_ < 0 ∨ (Dev.new size).size ≤ at_) from fun h => h.elim n3 n4), if_pos (by omega)]
  have Hwr := Lib.hid hwr
  have Hv := Lib.hid hv
  have Hll := Lib.hid hll
  clear hwr hv hll hf
  go_enter Try.func4, Try.ntmps4
  go_wp2_with (first
    | (go_at_call 9; (with_reducible refine hal.mono ?_); rintro _ w1 ⟨rfl, hb1⟩; clear hal)
    | (go_at_call 11; (with_reducible refine (new_db w _ size h1 h2 hb1).mono ?_); rintro _ w2 ⟨p, mn, ms, mc, rfl, h3, hb2, _⟩; have g4 := write_one h3 (by omega) at_ ((Hv.out.below hb1).below hb2) 32 (by rw [Hll.out]; omega); clear h3 hb2; simp only [Hwr.out] at g4; rw [errV_pos (k := 2) (by decide)] at g4)
    | (go_at_call 13; (with_reducible refine g4.mono ?_); rintro _ w4 ⟨rfl, h4, _⟩; clear g4; have g5 := read_db h4 at_ h0 hs rfl)
    | (go_at_call 17; (with_reducible refine g5.mono ?_); rintro _ w5 ⟨v5, rfl, _, hb5⟩; clear g5; have h5 := h4.below hb5; clear h4 hb5; have g6 := steps_db h5)
    | (go_at_call 19; (with_reducible refine g6.mono ?_); rintro _ _ ⟨rfl, rfl⟩; clear g6))
  go_ret
  exact ⟨rfl, h5.bel⟩
set_option maxRecDepth 100000 in
set_option maxHeartbeats 4000000 in
theorem forms_ok (h1 : 1 ≤ size) (h2 : size ≤ 4096) (hv : Bytes w (.slice a 512 cap) l) (hll : l.length = 512) (h0 : 0 ≤ at_) (hs : at_ < size) : Calls Try.prog 4 #[.int .i64 size, .int .i64 at_, .slice a 512 cap] w fun e w' => e = .returned (.bool true) ∧ Below w.heap.size w w' := by
  have hal := hal w
  have hm1 := makeErr 1
  have hm2 := makeErr 2
  have q1 : ∀ w, (binOp .eql 28 (.iface 45 (.int .i64 1)) (.iface 45 (.int .i64 1))).run Try.prog w = .ok (.bool true) w := fun w => errEqK w 1 1 (by decide)
  have q2 : ∀ w, (binOp .eql 28 (.iface 45 (.int .i64 2)) (.iface 45 (.int .i64 2))).run Try.prog w = .ok (.bool true) w := fun w => errEqK w 2 2 (by decide)
  have n1 : ¬ size < 1 := by omega
  have n2 : ¬ 4096 < size := by omega
  have n3 : ¬ at_ < 0 := by omega
  have n4 : ¬ size ≤ at_ := by omega
  have hwr : (Dev.new size).write at_ l = (0, (Dev.new size).step.2.put at_ l) := by unfold Dev.write; rw [if_neg (show ¬ (at_ < 0 ∨ (Dev.new size).size ≤ at_) from fun h => h.elim n3 n4), if_neg (by rw [hll]; decide)]; rfl
  have Hch : Hid (∀ j, ((Dev.new size).step.2.put at_ l).chg j = if j = at_ then true else false) := fun j => rfl
  have Hfs : Hid (((Dev.new size).step.2.put at_ l).steps = 1 ∧ ((Dev.new size).step.2.put at_ l).down = false ∧ ((Dev.new size).step.2.put at_ l).size = size) := ⟨rfl, rfl, rfl⟩
  generalize (Dev.new size).step.2.put at_ l = d2 at hwr Hch Hfs
  have Hwr := Lib.hid hwr
  have Hv := Lib.hid hv
  have Hll := Lib.hid hll
  clear hwr hv hll
  go_enter Try.func4, Try.ntmps4
  go_wp2_with (first
    | (go_at_call 9; (with_reducible refine hal.mono ?_); rintro _ w1 ⟨rfl, hb1⟩; clear hal)
    | (go_at_call 11; (with_reducible refine (new_db w _ size h1 h2 hb1).mono ?_); rintro _ w2 ⟨p, mn, ms, mc, rfl, h3, hb2, _⟩; have g4 := write_one h3 (by omega) at_ ((Hv.out.below hb1).below hb2) 32 (by rw [Hll.out]; omega); clear h3 hb2; simp only [Hwr.out] at g4; rw [errV_zero] at g4)
    | (go_at_call 13; (with_reducible refine g4.mono ?_); rintro _ w4 ⟨rfl, h4, _⟩; clear g4; have g5 := read_db h4 at_ h0 (by rw [Hfs.out.2.2]; exact hs) Hfs.out.2.1)
    | (go_at_call 17; (with_reducible refine g5.mono ?_); rintro _ w5 ⟨v5, rfl, _, hb5⟩; clear g5; have h5 := h4.below hb5; clear h4 hb5; have g6 := steps_db h5; rw [Hfs.out.1] at g6; have g7 := unsynced_any w5 p mn ms mc _ _ h5.lay h5.ok; rw [unsynced_one h5.ok Hch.out] at g7)
    | (go_at_call 19; (with_reducible refine g6.mono ?_); rintro _ _ ⟨rfl, rfl⟩; clear g6)
    | (go_at_call 18; (with_reducible refine g7.mono ?_); rintro _ w6 ⟨v6, rfl, ho6, hb6⟩; clear g7; have hi6 := Ints.of_owns (L := [at_]) ho6; clear ho6; (obtain ⟨q6, cap6, e6, _⟩ := id hi6); (have e6' : v6 = .slice q6 1 cap6 := e6); clear e6; subst e6'; have h6 := h5.below hb6; have g8 := ints_same _ _ _ [at_] (hi6.below ((Below.refl _ _).alloc (Nat.le_refl _) (.cells #[.int .i64 at_] 3))) (one_int w6 at_ 3) (by simp))
    | (go_at_call 20; (with_reducible refine g8.mono ?_); rintro _ _ ⟨rfl, nq, rfl⟩; clear g8))
  go_ret
  exact ⟨rfl, ((h6.bel.alloc h6.bel.size _).trans ⟨rfl, rfl, rfl, Nat.le_refl _, fun _ _ => rfl⟩)⟩
end
theorem diskForms_of (hal : Alive) (size at_ : Int) (a : Option Addr) (len cap : Nat) (zs : List Int) (w : World) (hz : IsRow .u8 w a len cap zs) : Calls Try.prog 4 #[.int .i64 size, .int .i64 at_, .slice a len cap] w fun e w' => e = .returned (.bool true) ∧ Below w.heap.size w w' := by
  obtain ⟨l, hl, hv⟩ := bytes_of_row hz
  by_cases h : size < 1 ∨ 4096 < size
  · exact forms_bad hal size at_ a len cap w h
  · by_cases hlen : (65536 : Int) < (len : Int)
    · exact forms_long hal size at_ a len cap w (by omega) (by omega) hlen
    · by_cases hr : at_ < 0 ∨ size ≤ at_
      · exact forms_range hal size at_ a len cap l w (by omega) (by omega) (by omega) hv hl hr
      · by_cases hf : len = 512
        · subst hf; exact forms_ok hal size at_ a cap l w (by omega) (by omega) hv hl (by omega) (by omega)
        · exact forms_form hal size at_ a len cap l w (by omega) (by omega) (by omega) hv hl (by omega) (by omega) hf
end Go.Proofs.Ytmcooaoblpcoeaa
