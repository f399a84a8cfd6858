import Derived.Test.YtmcooaoblpcoeaaDiskP
import Derived.Test.YtmcooaoblpcoeaaDiskK
import Derived.Deep.RegionHeld
/-
  DiskArmed: just so many steps are made as the device is armed with.
-/
namespace Go.Proofs.Ytmcooaoblpcoeaa
open Go.RowKit
structure ArmInv (d : Dev) (n : Int) : Prop where
  armed : d.armed = true
  size : d.size = 8
  left : d.left = n - d.steps
  le : d.steps ≤ n
  dn : d.down = true → d.steps = n
theorem ArmInv.step {d : Dev} {n : Int} {m : Nat} (h : ArmInv d n) (ho : d.Ok m) : ArmInv d.step.2 n ∧ (d.step.1 = 0 ∨ d.step.1 = 3 ∧ d.step.2.down = true ∧ d.step.2.steps = n) := by
  have h1 := h.left
  have h2 := h.le
  have h3 := ho.l0
  unfold Dev.step
  split
  · rename_i hc
    have hs : d.steps = n := hc.elim h.dn (fun e => by have := e.2; omega)
    exact ⟨⟨h.armed, h.size, h1, h2, fun _ => hs⟩, .inr ⟨rfl, rfl, hs⟩⟩
  · rename_i hc
    have hl : d.left ≠ 0 := fun e => hc (.inr ⟨h.armed, e⟩)
    refine ⟨⟨h.armed, h.size, ?_, ?_, fun e => absurd (.inl e) hc⟩, .inl rfl⟩
    · show (if d.armed then d.left - 1 else d.left) = n - (d.steps + 1)
      rw [h.armed]; simp; omega
    · show d.steps + 1 ≤ n; omega
theorem ArmInv.put {d : Dev} {n : Int} (h : ArmInv d n) (k : Int) (v : List UInt8) : ArmInv (d.put k v) n := ⟨h.armed, h.size, h.left, h.le, h.dn⟩
theorem ArmInv.settle {d : Dev} {n : Int} (h : ArmInv d n) : ArmInv ({ d with syncs := d.syncs + 1 }.settle) n := ⟨h.armed, h.size, h.left, h.le, h.dn⟩
def ArmGood (n : Int) (r : Int × Dev) : Prop := ArmInv r.2 n ∧ (r.1 = 0 ∨ r.1 = 3 ∧ r.2.down = true ∧ r.2.steps = n)
theorem arm_sync {d : Dev} {n : Int} {m : Nat} (h : ArmInv d n) (ho : d.Ok m) : ArmGood n d.sync := by
  obtain ⟨h1, h2⟩ := h.step ho
  unfold Dev.sync
  split
  · exact ⟨h1.settle, .inl rfl⟩
  · exact ⟨h1, h2⟩
theorem arm_write {d : Dev} {n : Int} {m : Nat} (h : ArmInv d n) (ho : d.Ok m) {k : Int} {v : List UInt8} (h0 : 0 ≤ k) (h8 : k < 8) (hv : v.length = 512) : ArmGood n (d.write k v) := by
  obtain ⟨h1, h2⟩ := h.step ho
  have hs := h.size
  unfold Dev.write
  rw [if_neg (by omega), if_neg (by omega)]
  split
  · exact ⟨h1.put k v, .inl rfl⟩
  · exact ⟨h1, h2⟩
theorem mod8_of (a : Int) : ∃ m : Nat, m < 8 ∧ wrap64 ((IntKind.u64.wrap a).tmod 8) = (m : Int) := by
  have h0 : 0 ≤ IntKind.u64.wrap a := by
    show 0 ≤ a % (2 ^ IntKind.u64.bits : Int)
    exact Int.emod_nonneg _ (by decide)
  rw [Int.tmod_eq_emod_of_nonneg h0]
  generalize IntKind.u64.wrap a = x at *
  refine ⟨(x % 8).toNat, by omega, ?_⟩
  unfold wrap64; omega
theorem mod8_i64 (a : Int) : ∃ m : Nat, m < 8 ∧ IntKind.i64.wrap ((IntKind.u64.wrap a).tmod 8) = (m : Int) := by
  obtain ⟨m, h1, h2⟩ := mod8_of a
  refine ⟨m, h1, ?_⟩
  unfold wrap64 at h2
  rw [IntKind.wrap_i64]; exact h2
/-- one call in the loop -/
def OpPost (w0 w : World) (p mn ms mc : Nat) (n : Int) (k : Nat) (e : Ending) (w' : World) : Prop :=
  ∃ r d', e = .returned (errV r) ∧ DB w0 w' p mn ms mc d' k ∧ ArmInv d' n ∧ (r = 0 ∨ r = 3 ∧ d'.down = true ∧ d'.steps = n) ∧ Keeps (DFoot p mn ms mc) w w'
theorem sync_arm {w0 w : World} {p mn ms mc : Nat} {d : Dev} {n : Int} {k : Nat} (h : DB w0 w p mn ms mc d k) (hk : k ≤ 1000000000) (hi : ArmInv d n) : Calls Try.prog 15 #[.pointer (some ⟨p, 0, none⟩)] w (OpPost w0 w p mn ms mc n (k + 1)) :=
  (sync_db h hk).mono fun _ _ ⟨h1, h2, h3⟩ => ⟨_, _, h1, h2, (arm_sync hi h.ok).1, (arm_sync hi h.ok).2, h3⟩
theorem write_arm {w0 w : World} {p mn ms mc : Nat} {d : Dev} {n : Int} {k : Nat} (h : DB w0 w p mn ms mc d k) (hk : k ≤ 1000000000) (hi : ArmInv d n) (at_ : Int) (h0 : 0 ≤ at_) (h8 : at_ < 8) {v : Value} {l : List UInt8} (hv : Bytes w v l) (hl : l.length = 512) (T : TypeId) :
    Calls Try.prog 13 #[.pointer (some ⟨p, 0, none⟩), .int .i64 at_, .slice (some ⟨w.heap.size, 0, none⟩) 1 1] (w.alloc (.cells #[v] T)) (OpPost w0 w p mn ms mc n (k + 1)) :=
  (write_one h hk at_ hv T (by omega)).mono fun _ _ ⟨h1, h2, h3⟩ => ⟨_, _, h1, h2, (arm_write hi h.ok h0 h8 hl).1, (arm_write hi h.ok h0 h8 hl).2, h3⟩
theorem cell_alloc {w : World} {p : Addr} {v : Value} (h : w.cell? p = some v) (o : Obj) : (w.alloc o).cell? p = some v := (((Below.refl _ w).alloc (Nat.le_refl _) o).cell (World.block_lt_of_cell? w _ h)).trans h
theorem arm_db {w0 w : World} {p mn ms mc : Nat} (h : DB w0 w p mn ms mc (Dev.new 8) 0) (n : Int) (hn : 0 ≤ n) (hw : n < 9223372036854775808) :
    Calls Try.prog 30 #[.pointer (some ⟨p, 0, none⟩), .int .i64 n] w fun e w' => e = .returned .nilIface ∧ ∃ d, DB w0 w' p mn ms mc d 0 ∧ ArmInv d n :=
  (arm_ok w p mn ms mc _ n h.lay hn).mono fun _ _ ⟨h1, h2, h3⟩ => ⟨h1, _, h.step h2 { h.ok with l0 := hn, l1 := hw } (h3.mono (fun _ _ e => .inl e)), ⟨rfl, rfl, by show n = n - 0; omega, by show (0 : Int) ≤ n; exact hn, fun e => by cases e⟩⟩
theorem crash_arm {w0 w : World} {p mn ms mc : Nat} {d : Dev} {n : Int} {k : Nat} (h : DB w0 w p mn ms mc d k) (hi : ArmInv d n) : Calls Try.prog 16 #[.pointer (some ⟨p, 0, none⟩), .slice none 0 0] w fun e w' => e = .returned (.tuple #[]) ∧ ∃ d', DB w0 w' p mn ms mc d' k ∧ d'.down = false ∧ d'.armed = false ∧ d'.size = 8 :=
  (crash_db h _ [] (ints_nil (Nat.zero_le _) none)).mono fun _ _ ⟨h1, h2, _⟩ => ⟨h1, _, h2, rfl, rfl, hi.size⟩
theorem write_free {d : Dev} {k : Int} {v : List UInt8} (h0 : 0 ≤ k) (h8 : k < 8) (hs : d.size = 8) (hd : d.down = false) (ha : d.armed = false) (hv : v.length = 512) : (d.write k v).1 = 0 := by
  have he : d.step.1 = 0 := by unfold Dev.step; rw [if_neg (by simp [hd, ha])]
  unfold Dev.write
  rw [if_neg (by omega), if_neg (by omega), if_pos he]
set_option maxRecDepth 100000 in
set_option maxHeartbeats 8000000 in
theorem armed_ok (a : Option Addr) (len cap : Nat) (zs : List OpD) (n : Int) (w : World) (hz : IsOps w a len cap zs) (hn : 0 ≤ n) (hw : n < 9223372036854775808) :
    Calls Try.prog 7 #[.slice a len cap, .int .i64 n] w fun e w' => e = .returned (.bool true) ∧ Below w.heap.size w w' := by
  have hal := alive_any w
  have Hz := Lib.hid hz
  have Hw := Lib.hid hw
  clear hz hw
  have hm3 := makeErr 3
  have q3 : ∀ w, (binOp .eql 28 (.iface 45 (.int .i64 3)) (.iface 45 (.int .i64 3))).run Try.prog w = .ok (.bool true) w := fun w => errEqK w 3 3 (by decide)
  have q3n : ∀ w, (binOp .neq 28 (.iface 45 (.int .i64 3)) (.iface 45 (.int .i64 3))).run Try.prog w = .ok (.bool false) w := fun w => errNeK w 3 3 (by decide)
  have hnn : ¬ n < 0 := by omega
  go_enter Try.func7, Try.ntmps7
  go_upto_if 21 with (first
    | (go_at_call 9; (with_reducible refine hal.mono ?_); rintro _ w1 ⟨rfl, hb1⟩; clear hal; have hlg := long_any a len cap zs w1 (by
        rcases Hz.out with h | ⟨x, h1, h2, h3, h4, h5, h6⟩
        · exact .inl h
        · exact .inr ⟨x, h1, h2, h3, h4, fun i o ho j v hv => (hb1.cell (p := x.add (i * 5 + j)) (World.block_lt_of_cell? w _ (h5 i o ho j v hv))).trans (h5 i o ho j v hv), h6⟩))
    | (go_at_call 10; (with_reducible refine hlg.mono ?_); rintro _ w2 ⟨b, rfl, hlen, hb2⟩; clear hlg))
  cases b
  · have hl4 : Hid (len ≤ 400) := hlen rfl
    have hb12 : Below w.heap.size w w2 := hb1.trans (hb2.mono hb1.size)
    have hnd := new_db w w2 8 (by decide) (by decide) hb12
    clear hlen hb1 hb2
    rw [Bool.or_false]
    go_wp2_with (first
      | (go_at_call 11; (with_reducible refine hnd.mono ?_); rintro _ w3 ⟨p, mn, ms, mc, rfl, h3, _, _⟩; clear hnd; have harm := arm_db h3 n hn Hw.out; clear h3)
      | (go_at_call 30; (with_reducible refine harm.mono ?_); rintro _ w4 ⟨rfl, hD4⟩; clear harm))
    go_loopw [40] (fun i wr => ∃ (k : Nat) (d : Dev), k ≤ len ∧ i = .int .i64 k ∧ DB w wr p mn ms mc d k ∧ ArmInv d n) (fun i _ => len - (intOf i).toNat)
    case atStart => obtain ⟨d, h4, hi4⟩ := hD4; exact ⟨0, d, by omega, rfl, h4, hi4⟩
    case round =>
      clear hD4
      obtain ⟨k, d, hk, rfl, hD, hi⟩ := hrel
      by_cases hlt : k < len
      · obtain ⟨o, ho⟩ : ∃ o, zs[k]? = some o := ⟨_, List.getElem?_eq_getElem (by rw [(ops_len Hz.out).1]; exact hlt)⟩
        obtain ⟨x, rfl⟩ := ops_some Hz.out ho
        obtain ⟨c0, c1, c2, c3, c4⟩ := ops_at Hz.out hD.bel k o ho
        clear ho
        have hDa := hD.below ((Below.refl _ _).alloc (Nat.le_refl _) (.cells #[.int .i64 o.kind, .int .i64 o.at_, .int .i64 o.n, .slice o.bq o.bl o.bc, .slice o.kq o.kl o.kc] 34))
        have hbx : (wr.alloc (.cells #[.int .i64 o.kind, .int .i64 o.at_, .int .i64 o.n, .slice o.bq o.bl o.bc, .slice o.kq o.kl o.kc] 34)).heap[wr.heap.size]? = some (.cells #[.int .i64 o.kind, .int .i64 o.at_, .int .i64 o.n, .slice o.bq o.bl o.bc, .slice o.kq o.kl o.kc] 34 (0, 0)) := heap_alloc_new _ _
        have Hlow : Hid (¬ DFoot p mn ms mc wr.heap.size) := fun e => by have := hD.lay.lt _ e; omega
        have Hi := Lib.hid hi
        have hkk : k ≤ 1000000000 := by have := hl4.out; omega
        clear hD hi
        obtain ⟨bk, hk2⟩ : ∃ b : Bool, (o.kind == 3) = b := ⟨_, rfl⟩
        cases bk
        · have HDa := Lib.hid hDa
          have Hbx := Lib.hid hbx
          clear hDa hbx
          go_wp2_with fail
          have g1 : (wr.alloc (.cells #[.int .i64 o.kind, .int .i64 o.at_, .int .i64 o.n, .slice o.bq o.bl o.bc, .slice o.kq o.kl o.kc] 34)).cell? ⟨wr.heap.size, 1, none⟩ = some (.int .i64 o.at_) := cell_in Hbx.out rfl
          have g2 : (wr.alloc (.cells #[.int .i64 o.kind, .int .i64 o.at_, .int .i64 o.n, .slice o.bq o.bl o.bc, .slice o.kq o.kl o.kc] 34)).cell? ⟨wr.heap.size, 2, none⟩ = some (.int .i64 o.n) := cell_in Hbx.out rfl
          obtain ⟨m8, hm8, hme⟩ := mod8_i64 o.at_
          clear Hbx
          generalize wr.alloc (.cells #[.int .i64 o.kind, .int .i64 o.at_, .int .i64 o.n, .slice o.bq o.bl o.bc, .slice o.kq o.kl o.kc] 34) = W at HDa g1 g2 ⊢
          go_region_held (fun w' => w'.cell? ⟨wr.heap.size, 1, none⟩ = some (.int .i64 o.at_) ∧ w'.cell? ⟨wr.heap.size, 2, none⟩ = some (.int .i64 o.n))
            (first | exact ⟨g1, g2⟩ | exact ⟨g1b, g2b⟩ | exact ⟨cell_alloc g1b _, cell_alloc g2b _⟩ | exact ⟨hk6.cell g1b Hlow.out, hk6.cell g2b Hlow.out⟩)
            (first
              | (go_at_call 14; (with_reducible refine (full_any _ _).mono ?_); rintro _ w6 ⟨gg, mm, rfl, s6, b6⟩; have HD6 := Lib.hid ((HDa.out.drewN 1).below b6); have g1b := (b6.cell (p := ⟨wr.heap.size, 1, none⟩) (World.block_lt_of_cell? _ _ g1)).trans g1; have g2b := (b6.cell (p := ⟨wr.heap.size, 2, none⟩) (World.block_lt_of_cell? _ _ g2)).trans g2; have S6 := Lib.hid s6; clear b6 s6)
              | (go_at_call 13; go_loud (have hwa := write_arm HD6.out hkk Hi.out (m8 : Int) (by omega) (by omega) (Bytes.of_sub S6.out) (fullB_len _) 32; (with_reducible refine hwa.mono ?_); rintro _ w5 ⟨r, d5, rfl, h5, hi5, hr, hk6⟩)))
          clear hk6 g1 g2 g1b g2b S6 HD6 HDa hme
          go_upto_region 15 with fail
          rcases hr with rfl | ⟨rfl, hd5, hs5⟩
          · rw [errV_zero]
            have hst := steps_db h5
            have hnl : ¬ n < d5.steps := by have := hi5.le; omega
            have H5 := Lib.hid h5
            have Hi5 := Lib.hid hi5
            clear h5 hi5
            go_wp2_with (go_at_call 19; (with_reducible refine hst.mono ?_); rintro _ _ ⟨rfl, rfl⟩)
            go_roundw
            case rel => exact ⟨k + 1, d5, by omega, by go_num, H5.out, Hi5.out⟩
            case measure => simp [intOf]; omega
          · rw [errV_pos (k := 3) (by decide)]
            have hst := steps_db h5
            rw [hs5] at hst
            have hdn := down_db h5
            rw [hd5] at hdn
            have H5 := Lib.hid h5
            have Hi5 := Lib.hid hi5
            clear h5 hi5 hs5 hd5
            go_wp2_with (first
              | (go_at_call 19; (with_reducible refine hst.mono ?_); rintro _ _ ⟨rfl, rfl⟩)
              | (go_at_call 27; (with_reducible refine hdn.mono ?_); rintro _ _ ⟨rfl, rfl⟩))
            go_roundw
            case rel => exact ⟨k + 1, d5, by omega, by go_num, H5.out, Hi5.out⟩
            case measure => simp [intOf]; omega
        · have hsy := sync_arm hDa hkk Hi.out
          clear hDa hbx
          go_upto_region 15 with (go_at_call 15; (with_reducible refine hsy.mono ?_); rintro _ w5 ⟨r, d5, rfl, h5, hi5, hr, _⟩; clear hsy)
          rcases hr with rfl | ⟨rfl, hd5, hs5⟩
          · rw [errV_zero]
            have hst := steps_db h5
            have hnl : ¬ n < d5.steps := by have := hi5.le; omega
            have H5 := Lib.hid h5
            have Hi5 := Lib.hid hi5
            clear h5 hi5
            go_wp2_with (go_at_call 19; (with_reducible refine hst.mono ?_); rintro _ _ ⟨rfl, rfl⟩)
            go_roundw
            case rel => exact ⟨k + 1, d5, by omega, by go_num, H5.out, Hi5.out⟩
            case measure => simp [intOf]; omega
          · rw [errV_pos (k := 3) (by decide)]
            have hst := steps_db h5
            rw [hs5] at hst
            have hdn := down_db h5
            rw [hd5] at hdn
            have H5 := Lib.hid h5
            have Hi5 := Lib.hid hi5
            clear h5 hi5 hs5 hd5
            go_wp2_with (first
              | (go_at_call 19; (with_reducible refine hst.mono ?_); rintro _ _ ⟨rfl, rfl⟩)
              | (go_at_call 27; (with_reducible refine hdn.mono ?_); rintro _ _ ⟨rfl, rfl⟩))
            go_roundw
            case rel => exact ⟨k + 1, d5, by omega, by go_num, H5.out, Hi5.out⟩
            case measure => simp [intOf]; omega
      · obtain rfl : k = len := by omega
        have H5 := Lib.hid hD
        have Hi5 := Lib.hid hi
        have hdn := down_db hD
        clear hD hi
        obtain ⟨bd, hbd⟩ : ∃ b : Bool, d.down = b := ⟨_, rfl⟩
        cases bd
        · rw [hbd] at hdn
          go_wp2_with (go_at_call 27; (with_reducible refine hdn.mono ?_); rintro _ _ ⟨rfl, rfl⟩)
          go_ret
          exact ⟨rfl, H5.out.bel⟩
        · rw [hbd] at hdn
          have hrd := read_down wr p mn ms mc d H5.out.lay 0 (by decide) (by rw [Hi5.out.size]; decide) hbd
          rw [errV_pos (by decide)] at hrd
          have hcr := crash_arm H5.out Hi5.out
          have hkk : k ≤ 1000000000 := by have := hl4.out; omega
          go_wp2_with (first
            | (go_at_call 27; (with_reducible refine hdn.mono ?_); rintro _ _ ⟨rfl, rfl⟩; clear hdn)
            | (go_at_call 17; (with_reducible refine hrd.mono ?_); rintro _ _ ⟨rfl, rfl⟩; clear hrd)
            | (go_at_call 16; (with_reducible refine hcr.mono ?_); rintro _ w5 ⟨rfl, d5, h5, e1, e2, e3⟩; clear hcr; have hr5 := read_db h5 0 (by decide) (by rw [e3]; decide) e1)
            | (go_at_call 17; (with_reducible refine hr5.mono ?_); rintro _ w6 ⟨v6, rfl, _, b6⟩; clear hr5; have h6 := h5.below b6; clear h5 b6; have hd6 := down_db h6; rw [e1] at hd6)
            | (go_at_call 27; (with_reducible refine hd6.mono ?_); rintro _ _ ⟨rfl, rfl⟩; clear hd6)
            | (go_at_call 14; (with_reducible refine (full_any 1 _).mono ?_); rintro _ w7 ⟨g7, m7, rfl, s7, b7⟩; have h7 := h6.below b7; clear h6 b7; have hw7 := write_one h7 hkk 0 (Bytes.of_sub s7) 32 (by rw [fullB_len]; decide); rw [write_free (by decide) (by decide) e3 e1 e2 (fullB_len _), errV_zero] at hw7; clear s7)
            | (go_at_call 13; (with_reducible refine hw7.mono ?_); rintro _ w8 ⟨rfl, h8, _⟩; clear hw7))
          go_ret
          exact ⟨rfl, h8.bel⟩
  · rw [Bool.or_true]
    clear hlen
    go_wp2
    go_ret
    exact ⟨rfl, hb1.trans (hb2.mono hb1.size)⟩
end Go.Proofs.Ytmcooaoblpcoeaa
