import Derived.Test.YthohijahpjmhnaaSlotT
import Derived.Test.YthohijahpjmhnaaArgsX
import Derived.Lib.SmallJoins
/-
  SlotCuts.
-/
namespace Go.Proofs.Ythohijahpjmhnaa
open Go.RowKit
def errDown : Value := .iface 31 (.int .i64 3)
def armIf (d : Dev) (k : Int) : Dev := if 0 ≤ k then d.arm k else d
/-- what the last Save leaves, and the crash behind it -/
def LastOf (at_ number : Int) (row new : List UInt8) (w' : World) (s p : Nat) (ev : Value) (num : Int) (r : List UInt8) : Prop :=
  (ev = .nilIface ∧ num = number + 1 ∧ r = new) ∨ (ev = errDown ∧ SlotAt w' s p at_ number row true ∧ (num = number ∧ r = row ∨ num = number + 1 ∧ r = new))
section
variable {w0 w : World} {p mn ms mc n s : Nat} {d : Dev} {at_ number : Int} {row new : List UInt8} {v : Value} {k : Int}
theorem save_last (hD : DB w0 w p mn ms mc (armIf d k) n) (ho : d.Ok n) (hn : n ≤ 100000000) (hc : Clean d at_ number row) (hS : SlotAt w s p at_ number row false) (hs0 : w0.heap.size ≤ s) (hm : number < most62) (hv : Bytes w v new) (hl : new.length ≤ 480) (hrl : row.length ≤ 480) (hk : k < 9223372036854775808) (keep : List Int) :
    Calls Try.prog 15 #[.pointer (some ⟨s, 0, none⟩), v] w fun e w' => ∃ ev d' num r, e = .returned ev ∧ DB w0 w' p mn ms mc d' (n + 2) ∧ Clean (d'.crash keep) at_ num r ∧ num ≤ number + 1 ∧ r.length ≤ 480 ∧ Keeps (SFoot p mn ms mc s) w w' ∧ LastOf at_ number row new w' s p ev num r := by
  unfold armIf at hD
  have hn1 := hc.num
  by_cases hk0 : 0 ≤ k
  · rw [if_pos hk0] at hD
    have := hc.a1
    have hz2 : d.size ≤ 4096 := hD.ok.z2
    obtain ⟨e0, d', num', row', dead', hx, hok, hor⟩ := save_cut ho hc hm hl k hk0 hk keep
    refine (save_any (new := new) hD hn hS hs0 hv hc.a0 (by omega) (by omega)).mono fun e w' hp => ?_
    rw [hx] at hp
    obtain ⟨he, hD', hS', hK⟩ := hp
    rcases hor with ⟨h1, h2, h3, h4, _, h6⟩ | ⟨h1, h2, h3, h4, _, h6⟩
    · subst h1; subst h2; subst h3; subst h4
      exact ⟨.nilIface, d', _, _, by rw [he]; rfl, hD', h6, by omega, hl, hK, .inl ⟨rfl, rfl, rfl⟩⟩
    · subst h1; subst h2; subst h3; subst h4
      rcases h6 with h6 | h6
      · exact ⟨errDown, d', _, _, by rw [he]; rfl, hD', h6, by omega, hrl, hK, .inr ⟨rfl, hS', .inl ⟨rfl, rfl⟩⟩⟩
      · exact ⟨errDown, d', _, _, by rw [he]; rfl, hD', h6, by omega, hl, hK, .inr ⟨rfl, hS', .inr ⟨rfl, rfl⟩⟩⟩
  · rw [if_neg hk0] at hD
    refine (save_ok' hD hn hc hS hs0 hm hv hl).mono fun e w' ⟨he, d', hD', hc', hS', hK⟩ => ?_
    exact ⟨.nilIface, d', _, _, he, hD', crash_clean hD'.ok hc' keep, by omega, hl, hK, .inl ⟨rfl, rfl, rfl⟩⟩
end
/-- the row that holds behind k saves -/
def curRow (ps : List (List UInt8)) : Nat → List UInt8
  | 0 => [102, 105, 114, 115, 116]
  | k + 1 => ps.getD k []
theorem curRow_len {ps : List (List UInt8)} (h : ∀ (j : Nat) l, ps[j]? = some l → l.length ≤ 480) (k : Nat) : (curRow ps k).length ≤ 480 := by
  cases k with
  | zero => simp [curRow]
  | succ k =>
    show (ps.getD k []).length ≤ 480
    rw [List.getD_eq_getElem?_getD]
    cases e : ps[k]? with
    | none => simp
    | some l => exact h k l e
theorem lit_first (w : World) (T : TypeId) (fz : Nat × Nat) : Bytes (w.alloc (.cells #[.int .u8 102, .int .u8 105, .int .u8 114, .int .u8 115, .int .u8 116] T fz)) (.slice (some ⟨w.heap.size, 0, none⟩) 5 5) [102, 105, 114, 115, 116] :=
  (lit_bytes w [102, 105, 114, 115, 116] T fz).resolve_right (by unfold maxLen; simp)
def CutAt (w : World) (B : Nat) (rq : Option Addr) (rl rc : Nat) (arm : Int) (kq : Option Addr) (kl kc : Nat) : Prop :=
  w.cell? ⟨B, 0, none⟩ = some (.slice rq rl rc) ∧ w.cell? ⟨B, 1, none⟩ = some (.int .i64 arm) ∧ w.cell? ⟨B, 2, none⟩ = some (.slice kq kl kc) ∧ B < w.heap.size
theorem CutAt.below {w w' : World} {B : Nat} {rq : Option Addr} {rl rc : Nat} {arm : Int} {kq : Option Addr} {kl kc : Nat} (h : CutAt w B rq rl rc arm kq kl kc) (hb : Below w.heap.size w w') : CutAt w' B rq rl rc arm kq kl kc := by
  obtain ⟨h0, h1, h2, h3⟩ := h
  exact ⟨(hb.cell (p := ⟨B, 0, none⟩) h3).trans h0, (hb.cell (p := ⟨B, 1, none⟩) h3).trans h1, (hb.cell (p := ⟨B, 2, none⟩) h3).trans h2, Nat.lt_of_lt_of_le h3 hb.size⟩
set_option maxRecDepth 100000 in
set_option maxHeartbeats 4000000 in
theorem cuts_ok (rq : Option Addr) (rl rc : Nat) (arm : Int) (kq : Option Addr) (kl kc : Nat) (ps : List (List UInt8)) (keep : List Int) (w : World) (hr : Parts w (.slice rq rl rc) ps) (hrl : ps.length = rl) (hk : Ints w (.slice kq kl kc) keep) (harm : arm < 9223372036854775808) :
    Calls Try.prog 8 #[.agg #[.slice rq rl rc, .int .i64 arm, .slice kq kl kc]] w fun e w' => e = .returned (.bool true) ∧ Below w.heap.size w w' := by
  have hwB : Below w.heap.size w (w.alloc (.cells #[.slice rq rl rc, .int .i64 arm, .slice kq kl kc] 64)) := (Below.refl _ _).alloc (Nat.le_refl _) _
  have hcut : CutAt (w.alloc (.cells #[.slice rq rl rc, .int .i64 arm, .slice kq kl kc] 64)) w.heap.size rq rl rc arm kq kl kc :=
    ⟨cell_in (heap_alloc_new w _) rfl, cell_in (heap_alloc_new w _) rfl, cell_in (heap_alloc_new w _) rfl, by simp⟩
  have Hr := Lib.hid (hr.below hwB)
  have Hk := Lib.hid (hk.below hwB)
  have Hcut := Lib.hid hcut
  have HwB := Lib.hid hwB
  have Hrl := Lib.hid hrl
  have Harm := Lib.hid harm
  have hal := alive_any (w.alloc (.cells #[.slice rq rl rc, .int .i64 arm, .slice kq kl kc] 64))
  clear hr hk hcut hwB hrl harm
  have hrc : rl ≤ rc ∧ rc ≤ maxLen := by obtain ⟨q, c, e, h1, h2, _⟩ := Hr.out; cases e; rw [Hrl.out] at h1; exact ⟨h1, h2⟩
  obtain ⟨hrc1, hrc2⟩ := hrc
  unfold maxLen at hrc2
  go_enter Try.func8, Try.ntmps8
  go_upto_region 3 with (go_at_call 12; (with_reducible refine hal.mono ?_); rintro _ w1 ⟨rfl, hb1⟩; clear hal)
  obtain ⟨wB, hWB⟩ : ∃ x, w.alloc (.cells #[.slice rq rl rc, .int .i64 arm, .slice kq kl kc] 64) = x := ⟨_, rfl⟩
  rw [hWB] at Hr Hk Hcut HwB hb1
  clear hWB
  have Hb1 := Lib.hid hb1
  obtain ⟨k0, k1, k2, _⟩ := Hcut.out.below hb1
  clear hb1
  by_cases hn0 : rl = 0 ∨ 40 < rl
  · have hor : (((rl : Nat) : Int) == 0) = true ∨ (((rl : Nat) : Int) == 0) = false ∧ (40 : Int) < (rl : Int) := by
      rcases hn0 with h | h
      · exact .inl (by simp; exact h)
      · exact .inr ⟨by simp; omega, by omega⟩
    clear hn0
    rcases hor with h | ⟨h, h'⟩
    all_goals
      go_wp2
      go_ret
      exact ⟨rfl, HwB.out.trans (Hb1.out.mono HwB.out.size)⟩
  · have hz : (((rl : Nat) : Int) == 0) = false := by simp; omega
    have h40 : ¬ (40 : Int) < (rl : Int) := by omega
    obtain ⟨N, hN⟩ : ∃ N, rl = N + 1 := ⟨rl - 1, by omega⟩
    have HN := Lib.hid hN
    have hN40 : N < 40 := by omega
    clear hN
    clear hn0
    go_wp2
    clear hz h40 k0
    go_loop [30] (fun i => ∃ k : Nat, k ≤ rl ∧ i = .int .i64 k ∧ Hid (∀ (j : Nat) l, j < k → ps[j]? = some l → l.length ≤ 480)) (fun i => rl - (intOf i).toNat)
    case atStart => exact ⟨0, Nat.zero_le _, rfl, Lib.hid (fun j l hj => by omega)⟩
    case round =>
      obtain ⟨k, hk, rfl, hall⟩ := hrel
      by_cases hlt : k < rl
      · obtain ⟨l, hl⟩ : ∃ l, ps[k]? = some l := ⟨_, List.getElem?_eq_getElem (by rw [Hrl.out]; exact hlt)⟩
        obtain ⟨q', cap', e, _, _, h3'⟩ := Hr.out.below Hb1.out
        simp only [Value.slice.injEq] at e
        obtain ⟨a, u, hqa, hcell, hu⟩ := h3' k l hl
        obtain rfl : rq = some a := e.1.trans hqa
        obtain ⟨q2, cap2, rfl, _, _, _⟩ := hu
        have Hkl := Lib.hid hl
        have hNk : k < rl := hlt
        clear e hqa h3' hl
        by_cases hlong : (480 : Int) < (l.length : Int)
        · go_wp2
          go_ret
          exact ⟨rfl, HwB.out.trans (Hb1.out.mono HwB.out.size)⟩
        · have Hall2 : Hid (∀ (j : Nat) l, j < k + 1 → ps[j]? = some l → l.length ≤ 480) := Lib.hid (fun j l' hj hl' => by
            by_cases e : j = k
            · subst e; rw [Hkl.out] at hl'; cases hl'; omega
            · exact hall.out j l' (by omega) hl')
          go_wp2
          go_round
          case rel => exact ⟨k + 1, by omega, by go_num, Hall2⟩
          case measure => simp [intOf]; omega
      · obtain rfl : rl = k := by omega
        have Hall : Hid (∀ (j : Nat) l, ps[j]? = some l → l.length ≤ 480) := Lib.hid (fun j l hl => hall.out j l (by have := (List.getElem?_eq_some_iff.1 hl).1; rw [Hrl.out] at this; exact this) hl)
        clear hall hlt hk
        have hn := new_db wB w1 3 (by decide) (by decide) Hb1.out
        have kc' := fun (w : World) (C : Array Value) (n c : Nat) => Lib.run_convert_bytes_const (P := Try.prog) w 22 5 C n c Try.underlying22 Try.underlying5
        have Al := Lib.hid (fun (w : World) (o : Obj) => (Below.refl w.heap.size w).alloc (Nat.le_refl _) o)
        clear k1 k2
        go_upto_region 17 with (first
          | (go_at_call 35; (with_reducible refine hn.mono ?_); rintro _ w2 ⟨p, mn, ms, mc, rfl, h2, _, _⟩; clear hn; have hf := format_live (h2.below (Al.out w2 (.cells #[.int .u8 102, .int .u8 105, .int .u8 114, .int .u8 115, .int .u8 116] 5 (5, 6)))) (by omega) (Live.new 3) (at_ := 1) (by decide) (by decide) (lit_first w2 5 (5, 6)) (by simp); have lo2 := Nat.le_trans h2.bel.size (Al.out w2 (.cells #[.int .u8 102, .int .u8 105, .int .u8 114, .int .u8 115, .int .u8 116] 5 (5, 6))).size; clear h2)
          | (go_at_call 14; (with_reducible refine hf.mono ?_); rintro _ w3 ⟨s, d3, rfl, h3, c3, _, _, _, S3, l3, _⟩; clear hf; have Lo := Lib.hid (Nat.le_trans lo2 l3); have H3 := Lib.hid h3; have C3 := Lib.hid c3; have HS3 := Lib.hid S3; clear h3 c3 S3 l3 lo2))
        obtain ⟨k0, _, _, _⟩ := Hcut.out.below H3.out.bel
        have hNr : ((rl : Nat) : Int) - 1 = (N : Int) := by have := HN.out; omega
        have hN0 : (0 : Int) ≤ (N : Int) := by omega
        have hN1 : (N : Int) ≤ (rc : Int) := by have := HN.out; omega
        go_upto_region 19 with fail
        have ha4 := Al.out w3 (.cells #[.int .u8 102, .int .u8 105, .int .u8 114, .int .u8 115, .int .u8 116] 5 (5, 6))
        have HL4 := Lib.hid (lit_first w3 5 (5, 6))
        have H4 := Lib.hid (H3.out.below ha4)
        have HS4 := Lib.hid (HS3.out.below ha4)
        clear k0 ha4 H3 HS3
        generalize w3.alloc (.cells #[.int .u8 102, .int .u8 105, .int .u8 114, .int .u8 115, .int .u8 116] 5 (5, 6)) = w4 at HL4 H4 HS4 ⊢
        obtain ⟨k0, _, _, _⟩ := Hcut.out.below H4.out.bel
        go_wp2
        clear k0 kc'
        go_loopw [9, 72] (fun wv i wr => ∃ (k : Nat) (q : Option Addr) (c : Nat) (d : Dev), k ≤ N ∧ i = .int .i64 k ∧ wv = .slice q (curRow ps k).length c ∧ Bytes wr (.slice q (curRow ps k).length c) (curRow ps k) ∧ DB wB wr p mn ms mc d (3 + 2 * k) ∧ Clean d 1 ((k + 1 : Nat) : Int) (curRow ps k) ∧ SlotAt wr s p 1 ((k + 1 : Nat) : Int) (curRow ps k) false) (fun _ i _ => N - (intOf i).toNat)
        case atStart => exact ⟨0, _, _, d3, Nat.zero_le _, rfl, rfl, HL4.out, H4.out.more (by omega), C3.out, HS4.out⟩
        case round =>
          clear HL4 H4 C3 HS4
          obtain ⟨k, q, c, d, hk, rfl, rfl, hB, hD, hC, hS⟩ := hrel
          by_cases hlt : k < N
          · obtain ⟨l, hl⟩ : ∃ l, ps[k]? = some l := ⟨_, List.getElem?_eq_getElem (by rw [Hrl.out]; have := HN.out; omega)⟩
            obtain ⟨q', cap', e, _, _, h3'⟩ := Hr.out
            simp only [Value.slice.injEq] at e
            obtain ⟨a, u, hqa, hcell0, hu⟩ := h3' k l hl
            have hcell := (hD.bel.cell (p := a.add k) (World.block_lt_of_cell? wB _ hcell0)).trans hcell0
            obtain rfl : rq = some a := e.1.trans hqa
            have HU := Lib.hid hu
            obtain ⟨q2, cap2, rfl, _, _, _⟩ := hu
            have Hcur : Hid (curRow ps (k + 1) = l) := Lib.hid (by show ps.getD k [] = l; rw [List.getD_eq_getElem?_getD, hl]; rfl)
            have hsv := save_ok' hD (by omega) hC hS Lo.out (by unfold most62; omega) (HU.out.below hD.bel) (Hall.out k l hl)
            have HD := Lib.hid hD
            clear e hqa h3' hl hB hD hC hS hcell0
            go_wp2_with (go_at_call 15; (with_reducible refine hsv.mono ?_); rintro _ w5 ⟨rfl, d5, h5, c5, S5, _⟩; clear hsv)
            have HU5 := Lib.hid (HU.out.below h5.bel)
            have H5 := Lib.hid h5
            have C5 := Lib.hid c5
            have HS5 := Lib.hid S5
            clear h5 c5 S5 hcell
            go_roundw
            case rel => exact ⟨k + 1, q2, cap2, d5, by omega, by go_num, by rw [Hcur.out], by rw [Hcur.out]; exact HU5.out, H5.out.more (by omega), by rw [Hcur.out]; exact C5.out, by rw [Hcur.out]; exact HS5.out⟩
            case measure => simp [intOf]; omega
          · obtain rfl : N = k := by omega
            obtain ⟨l, hl⟩ : ∃ l, ps[N]? = some l := ⟨_, List.getElem?_eq_getElem (by rw [Hrl.out]; have := HN.out; omega)⟩
            obtain ⟨q', cap', e, _, _, h3'⟩ := Hr.out
            simp only [Value.slice.injEq] at e
            obtain ⟨a, u, hqa, hcell0, hu⟩ := h3' N l hl
            obtain rfl : rq = some a := e.1.trans hqa
            have HU := Lib.hid hu
            obtain ⟨q2, cap2, rfl, _, _, _⟩ := hu
            have Hcell0 := Lib.hid hcell0
            have Hln := Lib.hid hl
            have hNl : (N : Int) < (rl : Int) := by have := HN.out; omega
            have HOX := Lib.hid hD.ok
            have HCX := Lib.hid hC
            have HD := Lib.hid hD
            have HS := Lib.hid hS
            have HB := Lib.hid hB
            have q3 : ∀ w, (binOp .neq 26 (.iface 31 (.int .i64 3)) (.iface 31 (.int .i64 3))).run Try.prog w = .ok (.bool false) w := fun w => errNeK w 3 3 (by decide)
            have m3 := makeErr 3
            clear e hqa h3' hl hcell0 hD hC hS hB hk hlt
            obtain ⟨k0, k1, k2, _⟩ := Hcut.out.below HD.out.bel
            by_cases h0 : 0 ≤ arm
            · have ha := arm_any HD.out arm h0 Harm.out
              go_upto_region 28 with (go_at_call 38; (with_reducible refine ha.mono ?_); rintro _ w5 ⟨rfl, h5, kp5⟩; clear ha)
              have HDX : Hid (DB wB w5 p mn ms mc (armIf d arm) (3 + 2 * N)) := Lib.hid (by unfold armIf; rw [if_pos h0]; exact h5)
              have HSX := Lib.hid (HS.out.dev HD.out.lay kp5)
              have HBX := Lib.hid (HD.out.lay.bytes HB.out kp5)
              clear h5 kp5 k0 k1 k2 HD HS HB
              obtain ⟨k0, k1, k2, _⟩ := Hcut.out.below HDX.out.bel
              have hsv := save_last HDX.out HOX.out (by omega) HCX.out HSX.out Lo.out (by unfold most62; omega) (HU.out.below HDX.out.bel) (Hall.out N l Hln.out) (curRow_len Hall.out N) Harm.out keep
              have hcell := (HDX.out.bel.cell (p := a.add N) (World.block_lt_of_cell? wB _ Hcell0.out)).trans Hcell0.out
              go_upto_region 29 with (go_at_call 15; (with_reducible refine hsv.mono ?_); rintro _ w6 ⟨ev, d6, num, r, rfl, h6, c6, hnum, hrl6, kp6, hlast⟩; clear hsv)
              clear k0 k1 k2 hcell
              have HB6 := Lib.hid (HBX.out.kept kp6 (fun a b hc e => e.elim (fun e => HDX.out.lay.no_byte hc e) (fun e => HSX.out.no_byte hc e)))
              obtain ⟨_, _, k2, _⟩ := Hcut.out.below h6.bel
              have hcr := crash_db h6 _ keep (Hk.out.below h6.bel)
              have Hlast := Lib.hid hlast
              have H6 := Lib.hid h6
              have C6 := Lib.hid c6
              have Hn6 : Hid (num ≤ ((N + 1 : Nat) : Int) + 1 ∧ r.length ≤ 480) := Lib.hid ⟨hnum, hrl6⟩
              clear h6 c6 hnum hrl6 kp6 hlast HDX HOX HCX HSX HBX
              go_upto_region 30 with (go_at_call 39; (with_reducible refine hcr.mono ?_); rintro _ w7 ⟨rfl, h7, k7⟩; clear hcr)
              have ho := open_ok h7 C6.out
              have HB7 := Lib.hid (H6.out.lay.bytes HB6.out k7)
              have Hlast7 : Hid (LastOf 1 ((N + 1 : Nat) : Int) (curRow ps N) l w7 s p ev num r) := Lib.hid (by
                rcases Hlast.out with h | ⟨h1, h2, h3⟩
                · exact .inl h
                · exact .inr ⟨h1, h2.dev H6.out.lay k7, h3⟩)
              clear k2 h7 k7 HB6 Hlast H6
              go_upto_region 31 with (go_at_call 13; (with_reducible refine ho.mono ?_); rintro _ w8 ⟨s8, rfl, h8, T8, _, b8⟩; clear ho)
              have H8 := Lib.hid h8
              have HT8 := Lib.hid T8
              have HB8 := Lib.hid (HB7.out.below b8)
              have Hb8 := Lib.hid b8
              clear h8 T8 b8
              rcases Hlast7.out with ⟨rfl, rfl, rfl⟩ | ⟨rfl, hS7, hor⟩
              · clear Hlast7 HB7 HB8
                go_quiet (fail)
                have hbq : Below w8.heap.size w8 (w8.drewN nq) := (Below.refl _ _).trans ⟨rfl, rfl, rfl, Nat.le_refl _, fun _ _ => rfl⟩
                have H9 := Lib.hid (H8.out.below hbq)
                have HT9 := Lib.hid (HT8.out.below hbq)
                clear hbq H8 HT8
                generalize w8.drewN nq = w9 at H9 HT9 ⊢
                have hrw := row_form HT9.out (by have := Hn6.out.2; omega)
                go_upto_region 34 with (go_at_call 16; (with_reducible refine hrw.mono ?_); rintro _ w10 ⟨q10, m10, cc10, rfl, _, k10, b10⟩; clear hrw)
                have H10 := Lib.hid (H9.out.below b10)
                have hnu := number_any (HT9.out.below b10)
                have kL := conv_bytes (HU.out.below H10.out.bel)
                obtain ⟨k0, _, _, _⟩ := Hcut.out.below H10.out.bel
                have hcell := (H10.out.bel.cell (p := a.add N) (World.block_lt_of_cell? wB _ Hcell0.out)).trans Hcell0.out
                clear k10 b10
                have hne : ((N : Int) + 1 + 1 == (N : Int) + 2) = true := by rw [beq_iff_eq]; omega
                go_wp2_with (go_at_call 17; (with_reducible refine hnu.mono ?_); rintro _ _ ⟨rfl, rfl⟩)
                go_ret
                exact ⟨rfl, HwB.out.trans (H10.out.bel.mono HwB.out.size)⟩
              · unfold errDown
                have hS8 := hS7.below Hb8.out
                have bd : Below w8.heap.size w8 w8.drew := (Below.refl _ _).drew
                have HBd := Lib.hid (HB8.out.below bd)
                have kW := conv_bytes HBd.out
                have hrs := row_form (hS8.below bd) (by have := curRow_len Hall.out N; omega)
                have Hd8 := Lib.hid (H8.out.below bd)
                have HTd := Lib.hid (HT8.out.below bd)
                clear Hlast7 HB7 hS7 hS8 bd HB8 H8 HT8
                generalize hstW : strB (curRow ps N) = stW at kW hrs
                have HstW := Lib.hid hstW
                clear hstW
                go_region_held (fun w' => (convert 22 9 (.slice q (curRow ps N).length c)).run Try.prog w' = .ok (.string stW) w')
                  (first | exact kW | exact kW9)
                  (first | (go_at_call 16; (with_reducible refine hrs.mono ?_); rintro _ w9 ⟨q9, m9, cc9, rfl, _, k9, b9⟩; clear hrs; have kW9 := conv_bytes (HBd.out.below b9); rw [HstW.out] at kW9; have H9 := Lib.hid (Hd8.out.below b9); have HT9 := Lib.hid (HTd.out.below b9); have HB9 := Lib.hid (HBd.out.below b9); clear b9))
                clear kW kW9 k9
                have hrw := row_form HT9.out (by have := Hn6.out.2; omega)
                go_upto_region 34 with (go_at_call 16; (with_reducible refine hrw.mono ?_); rintro _ w10 ⟨q10, m10, cc10, rfl, _, k10, b10⟩; clear hrw)
                have H10 := Lib.hid (H9.out.below b10)
                have hnu := number_any (HT9.out.below b10)
                have kL := conv_bytes (HU.out.below H10.out.bel)
                have kW10 := conv_bytes (HB9.out.below b10)
                obtain ⟨k0, _, _, _⟩ := Hcut.out.below H10.out.bel
                have hcell := (H10.out.bel.cell (p := a.add N) (World.block_lt_of_cell? wB _ Hcell0.out)).trans Hcell0.out
                clear k10 b10
                rcases hor with ⟨rfl, rfl⟩ | ⟨rfl, rfl⟩
                · by_cases he : curRow ps N = l
                  · have hs : strB (curRow ps N) = strB l := by rw [he]
                    rw [← hs] at kL
                    have hne : ((N : Int) + 1 == (N : Int) + 2) = false := by rw [beq_eq_false_iff_ne]; omega
                    have hne2 : ((N : Int) + 1 == (N : Int) + 1) = true := by simp
                    clear he hs
                    go_wp2_with (go_at_call 17; (with_reducible refine hnu.mono ?_); rintro _ _ ⟨rfl, rfl⟩)
                    go_ret
                    exact ⟨rfl, HwB.out.trans (H10.out.bel.mono HwB.out.size)⟩
                  · have hs : ((strB (curRow ps N)).toList == (strB l).toList) = false := by rw [strB_toList, strB_toList]; simpa using he
                    have hne2 : ((N : Int) + 1 == (N : Int) + 1) = true := by simp
                    clear he
                    go_wp2_with (go_at_call 17; (with_reducible refine hnu.mono ?_); rintro _ _ ⟨rfl, rfl⟩)
                    go_ret
                    exact ⟨rfl, HwB.out.trans (H10.out.bel.mono HwB.out.size)⟩
                · have hne : ((N : Int) + 1 + 1 == (N : Int) + 2) = true := by rw [beq_iff_eq]; omega
                  go_wp2_with (go_at_call 17; (with_reducible refine hnu.mono ?_); rintro _ _ ⟨rfl, rfl⟩)
                  go_ret
                  exact ⟨rfl, HwB.out.trans (H10.out.bel.mono HwB.out.size)⟩
            · go_upto_region 28 with fail
              have HDX : Hid (DB wB wr p mn ms mc (armIf d arm) (3 + 2 * N)) := Lib.hid (by unfold armIf; rw [if_neg h0]; exact HD.out)
              have HSX := Lib.hid HS.out
              have HBX := Lib.hid HB.out
              clear k0 k1 k2 HD HS HB
              obtain ⟨k0, k1, k2, _⟩ := Hcut.out.below HDX.out.bel
              have hsv := save_last HDX.out HOX.out (by omega) HCX.out HSX.out Lo.out (by unfold most62; omega) (HU.out.below HDX.out.bel) (Hall.out N l Hln.out) (curRow_len Hall.out N) Harm.out keep
              have hcell := (HDX.out.bel.cell (p := a.add N) (World.block_lt_of_cell? wB _ Hcell0.out)).trans Hcell0.out
              go_upto_region 29 with (go_at_call 15; (with_reducible refine hsv.mono ?_); rintro _ w6 ⟨ev, d6, num, r, rfl, h6, c6, hnum, hrl6, kp6, hlast⟩; clear hsv)
              clear k0 k1 k2 hcell
              have HB6 := Lib.hid (HBX.out.kept kp6 (fun a b hc e => e.elim (fun e => HDX.out.lay.no_byte hc e) (fun e => HSX.out.no_byte hc e)))
              obtain ⟨_, _, k2, _⟩ := Hcut.out.below h6.bel
              have hcr := crash_db h6 _ keep (Hk.out.below h6.bel)
              have Hlast := Lib.hid hlast
              have H6 := Lib.hid h6
              have C6 := Lib.hid c6
              have Hn6 : Hid (num ≤ ((N + 1 : Nat) : Int) + 1 ∧ r.length ≤ 480) := Lib.hid ⟨hnum, hrl6⟩
              clear h6 c6 hnum hrl6 kp6 hlast HDX HOX HCX HSX HBX
              go_upto_region 30 with (go_at_call 39; (with_reducible refine hcr.mono ?_); rintro _ w7 ⟨rfl, h7, k7⟩; clear hcr)
              have ho := open_ok h7 C6.out
              have HB7 := Lib.hid (H6.out.lay.bytes HB6.out k7)
              have Hlast7 : Hid (LastOf 1 ((N + 1 : Nat) : Int) (curRow ps N) l w7 s p ev num r) := Lib.hid (by
                rcases Hlast.out with h | ⟨h1, h2, h3⟩
                · exact .inl h
                · exact .inr ⟨h1, h2.dev H6.out.lay k7, h3⟩)
              clear k2 h7 k7 HB6 Hlast H6
              go_upto_region 31 with (go_at_call 13; (with_reducible refine ho.mono ?_); rintro _ w8 ⟨s8, rfl, h8, T8, _, b8⟩; clear ho)
              have H8 := Lib.hid h8
              have HT8 := Lib.hid T8
              have HB8 := Lib.hid (HB7.out.below b8)
              have Hb8 := Lib.hid b8
              clear h8 T8 b8
              rcases Hlast7.out with ⟨rfl, rfl, rfl⟩ | ⟨rfl, hS7, hor⟩
              · clear Hlast7 HB7 HB8
                go_quiet (fail)
                have hbq : Below w8.heap.size w8 (w8.drewN nq) := (Below.refl _ _).trans ⟨rfl, rfl, rfl, Nat.le_refl _, fun _ _ => rfl⟩
                have H9 := Lib.hid (H8.out.below hbq)
                have HT9 := Lib.hid (HT8.out.below hbq)
                clear hbq H8 HT8
                generalize w8.drewN nq = w9 at H9 HT9 ⊢
                have hrw := row_form HT9.out (by have := Hn6.out.2; omega)
                go_upto_region 34 with (go_at_call 16; (with_reducible refine hrw.mono ?_); rintro _ w10 ⟨q10, m10, cc10, rfl, _, k10, b10⟩; clear hrw)
                have H10 := Lib.hid (H9.out.below b10)
                have hnu := number_any (HT9.out.below b10)
                have kL := conv_bytes (HU.out.below H10.out.bel)
                obtain ⟨k0, _, _, _⟩ := Hcut.out.below H10.out.bel
                have hcell := (H10.out.bel.cell (p := a.add N) (World.block_lt_of_cell? wB _ Hcell0.out)).trans Hcell0.out
                clear k10 b10
                have hne : ((N : Int) + 1 + 1 == (N : Int) + 2) = true := by rw [beq_iff_eq]; omega
                go_wp2_with (go_at_call 17; (with_reducible refine hnu.mono ?_); rintro _ _ ⟨rfl, rfl⟩)
                go_ret
                exact ⟨rfl, HwB.out.trans (H10.out.bel.mono HwB.out.size)⟩
              · unfold errDown
                have hS8 := hS7.below Hb8.out
                have bd : Below w8.heap.size w8 w8.drew := (Below.refl _ _).drew
                have HBd := Lib.hid (HB8.out.below bd)
                have kW := conv_bytes HBd.out
                have hrs := row_form (hS8.below bd) (by have := curRow_len Hall.out N; omega)
                have Hd8 := Lib.hid (H8.out.below bd)
                have HTd := Lib.hid (HT8.out.below bd)
                clear Hlast7 HB7 hS7 hS8 bd HB8 H8 HT8
                generalize hstW : strB (curRow ps N) = stW at kW hrs
                have HstW := Lib.hid hstW
                clear hstW
                go_region_held (fun w' => (convert 22 9 (.slice q (curRow ps N).length c)).run Try.prog w' = .ok (.string stW) w')
                  (first | exact kW | exact kW9)
                  (first | (go_at_call 16; (with_reducible refine hrs.mono ?_); rintro _ w9 ⟨q9, m9, cc9, rfl, _, k9, b9⟩; clear hrs; have kW9 := conv_bytes (HBd.out.below b9); rw [HstW.out] at kW9; have H9 := Lib.hid (Hd8.out.below b9); have HT9 := Lib.hid (HTd.out.below b9); have HB9 := Lib.hid (HBd.out.below b9); clear b9))
                clear kW kW9 k9
                have hrw := row_form HT9.out (by have := Hn6.out.2; omega)
                go_upto_region 34 with (go_at_call 16; (with_reducible refine hrw.mono ?_); rintro _ w10 ⟨q10, m10, cc10, rfl, _, k10, b10⟩; clear hrw)
                have H10 := Lib.hid (H9.out.below b10)
                have hnu := number_any (HT9.out.below b10)
                have kL := conv_bytes (HU.out.below H10.out.bel)
                have kW10 := conv_bytes (HB9.out.below b10)
                obtain ⟨k0, _, _, _⟩ := Hcut.out.below H10.out.bel
                have hcell := (H10.out.bel.cell (p := a.add N) (World.block_lt_of_cell? wB _ Hcell0.out)).trans Hcell0.out
                clear k10 b10
                rcases hor with ⟨rfl, rfl⟩ | ⟨rfl, rfl⟩
                · by_cases he : curRow ps N = l
                  · have hs : strB (curRow ps N) = strB l := by rw [he]
                    rw [← hs] at kL
                    have hne : ((N : Int) + 1 == (N : Int) + 2) = false := by rw [beq_eq_false_iff_ne]; omega
                    have hne2 : ((N : Int) + 1 == (N : Int) + 1) = true := by simp
                    clear he hs
                    go_wp2_with (go_at_call 17; (with_reducible refine hnu.mono ?_); rintro _ _ ⟨rfl, rfl⟩)
                    go_ret
                    exact ⟨rfl, HwB.out.trans (H10.out.bel.mono HwB.out.size)⟩
                  · have hs : ((strB (curRow ps N)).toList == (strB l).toList) = false := by rw [strB_toList, strB_toList]; simpa using he
                    have hne2 : ((N : Int) + 1 == (N : Int) + 1) = true := by simp
                    clear he
                    go_wp2_with (go_at_call 17; (with_reducible refine hnu.mono ?_); rintro _ _ ⟨rfl, rfl⟩)
                    go_ret
                    exact ⟨rfl, HwB.out.trans (H10.out.bel.mono HwB.out.size)⟩
                · have hne : ((N : Int) + 1 + 1 == (N : Int) + 2) = true := by rw [beq_iff_eq]; omega
                  go_wp2_with (go_at_call 17; (with_reducible refine hnu.mono ?_); rintro _ _ ⟨rfl, rfl⟩)
                  go_ret
                  exact ⟨rfl, HwB.out.trans (H10.out.bel.mono HwB.out.size)⟩
/-- an argument of the statement, as a row's reading has it -/
def CutArg (w : World) (v : Value) : Prop := ∃ rq rl rc arm kq kl kc ps keep, v = .agg #[.slice rq rl rc, .int .i64 arm, .slice kq kl kc] ∧ Parts w (.slice rq rl rc) ps ∧ ps.length = rl ∧ Ints w (.slice kq kl kc) keep ∧ arm ≤ 9223372036854775807
set_option maxRecDepth 100000 in
theorem CutArg_of {H : Type} {enc : TypeId × Value → H} {w : World} {base : Nat} {spare : Nat → Bool} {held : Bool} {r : Reach} {b0 : Nat} {v : Value} {d : DataW H} {p : List MemPlace} (hv : Value.okWide Try.prog w r b0 64 v) (h : DataW.Trod enc Try.prog w base spare held 64 v d p) : CutArg w v := by
  obtain ⟨v0, v1, v2, y0, y1, y2, n, rfl, _, _, h0, h1, h2⟩ := Go.Joins.open_agg3 Try.underlying64 (by kernel_rfl) (by kernel_rfl : Try.prog.cellsOf 64 = 3) hv h
  obtain ⟨q, c, ps, rfl, hp⟩ := parts_of_trod h0
  obtain ⟨z, rfl, _, hz⟩ := int_of_trod h1
  obtain ⟨q2, c2, xs, rfl, hx, _⟩ := ints_of_trod h2
  exact ⟨q, _, c, z, q2, _, c2, ps, xs, rfl, hp, rfl, hx, hz⟩
theorem slotCuts_walk (v : Value) (w : World) (h : CutArg w v) : Calls Try.prog 8 #[v] w fun e w' => e = .returned (.bool true) ∧ Below w.heap.size w w' := by
  obtain ⟨rq, rl, rc, arm, kq, kl, kc, ps, keep, rfl, h1, h2, h3, h4⟩ := h
  exact cuts_ok rq rl rc arm kq kl kc ps keep w h1 h2 h3 (by omega)
end Go.Proofs.Ythohijahpjmhnaa
