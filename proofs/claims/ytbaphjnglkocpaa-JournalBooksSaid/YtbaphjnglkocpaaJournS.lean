import Derived.Test.YtbaphjnglkocpaaJournR
import Derived.Test.YtbaphjnglkocpaaArgs
/-
  JournalBooks.
-/
namespace Go.Proofs.Ytbaphjnglkocpaa
open Go.RowKit
theorem ne_nil_errV (w : World) : (binOp .neq 27 .nilIface .nilIface).run Try.prog w = .ok (.bool false) w := by kernel_rfl
def BkInv (w1 wr : World) (d : Dev) (j b : Nat) (B left : Int) (c : Nat) : Prop :=
  ∃ A m, JB w1 wr A d m c ∧ A.j = j ∧ m.dead = false ∧ m.booked = B ∧ left ≤ m.free ∧ wr.cell? ⟨b, 2, none⟩ = some (.pointer (some ⟨j, 0, none⟩)) ∧ ¬ A.Foot b
theorem JStep.cellb {w w' : World} {A A' : JAd} {b j : Nat} (h : JStep w w' A A') (hc : w.cell? ⟨b, 2, none⟩ = some (.pointer (some ⟨j, 0, none⟩))) (hn : ¬ A.Foot b) : w'.cell? ⟨b, 2, none⟩ = some (.pointer (some ⟨j, 0, none⟩)) ∧ ¬ A'.Foot b :=
  ⟨h.1.cell hc hn, fun hf => by
    have := World.block_lt_of_cell? w _ hc
    rcases h.2 b hf with h | h
    · exact hn h
    · simp only [] at this; omega⟩
/-- an Append of bytes 0, whatever room there is -/
theorem bk_append {w1 wr W : World} {d : Dev} {j b : Nat} {B : Int} {c s g : Nat} (h : BkInv w1 wr d j b B B c) (hcc : c ≤ 10000000) (hW : Below wr.heap.size wr W) (hs : 1 ≤ s) (hs2 : s ≤ 4096) (hb : Bytes W (.slice (some ⟨g, 0, none⟩) s s) (List.replicate s 0)) (hg : wr.heap.size ≤ g) :
    Calls Try.prog 12 #[.pointer (some ⟨j, 0, none⟩), .slice (some ⟨g, 0, none⟩) s s] W fun e w' => (∃ k x, e = .returned (.tuple #[.int .i64 k, x]) ∧ (x = .nilIface ∨ x = .iface 40 (.int .i64 5))) ∧ BkInv w1 w' d j b B B (c + 1) ∧ w'.cell? ⟨b, 2, none⟩ = some (.pointer (some ⟨j, 0, none⟩)) := by
  obtain ⟨A, m, hJ, rfl, hd, hbk, hfr, hc, hn⟩ := h
  by_cases hf : m.free - m.booked < s + 2
  · refine (japp_at hJ hcc hW List.length_replicate hb hg (put_full hd (by rw [List.length_replicate]; omega) (by rw [List.length_replicate]; omega) (by rw [List.length_replicate]; exact hf))).mono fun e w' ⟨he, A', hJ', hS, hE⟩ => ?_
    obtain ⟨h1, h2⟩ := hS.cellb hc hn
    exact ⟨⟨0, _, he, .inr (errV_pos (show (5 : Int) ≠ 0 by decide))⟩, ⟨A', m, hJ', hE.2.2.2.2, hd, hbk, hfr, h1, h2⟩, h1⟩
  · refine (japp_at hJ hcc hW List.length_replicate hb hg (put_add hd (by rw [List.length_replicate]; omega) (by rw [List.length_replicate]; omega) (by rw [List.length_replicate]; omega))).mono fun e w' ⟨he, A', hJ', hS, hE⟩ => ?_
    obtain ⟨h1, h2⟩ := hS.cellb hc hn
    exact ⟨⟨_, _, he, .inl rfl⟩, ⟨A', _, hJ', hE.2.2.2.2, hd, hbk, by rw [free_add, List.length_replicate]; omega, h1, h2⟩, h1⟩
/-- a Spend of bytes 0 in booked room -/
theorem bk_spend {w1 wr W : World} {d : Dev} {j b : Nat} {B left : Int} {c s g : Nat} (h : BkInv w1 wr d j b B left c) (hcc : c ≤ 10000000) (hW : Below wr.heap.size wr W) (hs : 1 ≤ s) (hs2 : s ≤ 4096) (hl : (s : Int) + 2 ≤ left) (hb : Bytes W (.slice (some ⟨g, 0, none⟩) s s) (List.replicate s 0)) (hg : wr.heap.size ≤ g) :
    Calls Try.prog 18 #[.pointer (some ⟨j, 0, none⟩), .slice (some ⟨g, 0, none⟩) s s] W fun e w' => (∃ k, e = .returned (.tuple #[.int .i64 k, .nilIface])) ∧ BkInv w1 w' d j b B (left - (s + 2)) (c + 1) ∧ w'.cell? ⟨b, 2, none⟩ = some (.pointer (some ⟨j, 0, none⟩)) := by
  obtain ⟨A, m, hJ, rfl, hd, hbk, hfr, hc, hn⟩ := h
  refine (jspend_at hJ hcc hW List.length_replicate hb hg (put_add hd (by rw [List.length_replicate]; omega) (by rw [List.length_replicate]; omega) (by rw [List.length_replicate]; omega))).mono fun e w' ⟨he, A', hJ', hS, hE⟩ => ?_
  obtain ⟨h1, h2⟩ := hS.cellb hc hn
  exact ⟨⟨_, he⟩, ⟨A', _, hJ', hE.2.2.2.2, hd, hbk, by rw [free_add, List.length_replicate]; omega, h1, h2⟩, h1⟩
set_option maxRecDepth 100000 in
set_option maxHeartbeats 2000000 in
theorem books_ok (n book : Int) (q : Option Addr) (len cap : Nat) (xs : List Int) (w : World) (hlc : len ≤ cap) (hxl : xs.length = len) (hx : Ints w (.slice q len cap) xs) : Calls Try.prog 4 #[.int .i64 n, .int .i64 book, .slice q len cap] w fun e w' => e = .returned (.bool true) ∧ Below w.heap.size w w' := by
  have hal := alive_ok w
  obtain ⟨m1, hm1, em1⟩ := mod_of n 20 (by omega) (by omega)
  have em1' : wrap64 ((IntKind.u64.wrap n).tmod 20) = (m1 : Int) := em1
  obtain ⟨N, hN⟩ : ∃ N : Nat, 2 + (m1 : Int) = (N : Int) := ⟨2 + m1, by omega⟩
  have hN1 : 2 ≤ N := by omega
  have hN2 : N ≤ 21 := by omega
  obtain ⟨Q, hQ⟩ : ∃ Q : Nat, (N : Int) * 470 = (Q : Int) := ⟨N * 470, by omega⟩
  have hQ1 : 0 < Q := by omega
  have hQ2 : Q ≤ 10000 := by omega
  have eu : IntKind.u64.wrap (Q : Int) = (Q : Int) := by rw [IntKind.wrap_u64]; omega
  have eq0 : ((Q : Int) == 0) = false := by simp; omega
  have eq1 : (Q : Int) ≠ 0 := by omega
  obtain ⟨B, hB, eB⟩ := mod_of book Q hQ1 (by omega)
  have hbg := fun w => begun_ok w (N : Int) (by omega) (by omega)
  have hm5 := makeErr 5
  have hq5 := neErr 5 5 (by decide) (by decide)
  have Hx := Lib.hid hx
  clear em1 hx
  by_cases h300 : 300 < len
  · have e3 : decide ((300 : Int) < (len : Int)) = true := by simp; omega
    go_enter Try.func4, Try.ntmps4
    go_wp2_with (go_at_call 10; (with_reducible refine hal.mono ?_); rintro _ w1 ⟨rfl, b1⟩; clear hal)
    go_ret
    exact ⟨rfl, b1⟩
  · have e3 : decide ((300 : Int) < (len : Int)) = false := by simp; omega
    go_enter Try.func4, Try.ntmps4
    go_upto_region 12 with (first
      | (go_at_call 10; (with_reducible refine hal.mono ?_); rintro _ w1 ⟨rfl, b1⟩; clear hal)
      | (go_at_call 11; (with_reducible refine (hbg _).mono ?_); rintro _ w2 ⟨b, A, d1, rfl, mo, h2, fr2, lb, nb⟩; clear hbg; obtain ⟨qm, cm, hself⟩ := mo.self; have hc2 := cell_in (o := 2) (u := .pointer (some ⟨A.j, 0, none⟩)) hself rfl;
          have hbk := jbook_any h2 (B : Int); rw [show (JM.new 1 N).book B = (0, { JM.new 1 N with booked := 0 + (B : Int) }) from by unfold JM.book; rw [if_neg (by omega), if_neg (by show ¬ (N : Int) * 470 - (0 : Nat) - 0 < B; omega)]; rfl, errV_zero] at hbk)
      | (go_at_call 17; (with_reducible refine hbk.mono ?_); rintro _ w3 ⟨rfl, h3, s3⟩; clear hbk))
    have HB1 := Lib.hid b1
    have Hst : Hid (BkInv w1 w3 d1 A.j b B B 3000) := Lib.hid (by
      obtain ⟨h1, h2⟩ := s3.cellb hc2 nb
      exact ⟨A, _, h3, rfl, rfl, by show (0 : Int) + B = B; omega, by show (B : Int) ≤ (N : Int) * 470 - (0 : Nat); omega, h1, h2⟩)
    have hlen : len ≤ 300 := by omega
    clear h2 fr2 mo hself nb b1 h3 s3 hc2
    generalize A.j = j at Hst
    go_wp2
    go_loopw [46] (fun o wr => ∃ (i : Nat), o = .int .i64 i ∧ i ≤ len ∧ BkInv w1 wr d1 j b B B (3000 + i)) (fun o _ => len - (intOf o).toNat)
    case atStart => exact ⟨0, rfl, Nat.zero_le _, Hst.out⟩
    case round =>
      clear Hst
      obtain ⟨i, rfl, hi, hR⟩ := hrel
      have HR := Lib.hid hR
      have hbel : Below w.heap.size w wr := by obtain ⟨A', m', hJ, _⟩ := hR; exact HB1.out.trans (hJ.db.bel.mono HB1.out.size)
      have Hbel := Lib.hid hbel
      by_cases hlt : i < len
      · have e0 : decide ((i : Int) < (len : Int)) = true := by simp; omega
        obtain ⟨x, hxi⟩ : ∃ x, xs[i]? = some x := ⟨_, List.getElem?_eq_getElem (by omega)⟩
        obtain ⟨q', cap', e, _, _, h3⟩ := Hx.out.below hbel
        obtain ⟨nb, no, hq, hcell⟩ := h3 i x hxi
        simp only [Value.slice.injEq] at e
        obtain rfl : q = some ⟨nb, no, none⟩ := e.1.trans hq
        obtain ⟨m2, hm2, em2⟩ := mod_of x 4096 (by omega) (by omega)
        have em2' : wrap64 ((IntKind.u64.wrap x).tmod 4096) = (m2 : Int) := em2
        obtain ⟨s, hs⟩ : ∃ s : Nat, 1 + (m2 : Int) = (s : Int) := ⟨1 + m2, by omega⟩
        have hs1 : 1 ≤ s := by omega
        have hs2 : s ≤ 4096 := by omega
        obtain ⟨cz, hmk⟩ := make_n s (by omega)
        have hmk1 := fun w => (hmk w).1
        have Hmk := Lib.hid (fun w => (hmk w).2)
        have hc2 : wr.cell? ⟨b, 2, none⟩ = some (.pointer (some ⟨j, 0, none⟩)) := by obtain ⟨_, _, _, _, _, _, _, hc, _⟩ := hR; exact hc
        have hB1 : Below wr.heap.size wr (wr.alloc (.cells cz 5)).drew := ((Below.refl _ _).alloc (Nat.le_refl _) _).drew
        have hap := bk_append HR.out (by omega) hB1 hs1 hs2 ((Hmk.out wr).below (below_drew _)) (Nat.le_refl _)
        have K1 : Hid (wr.drew.cell? ⟨b, 2, none⟩ = some (.pointer (some ⟨j, 0, none⟩))) := Lib.hid hc2
        have K2 : Hid ((wr.alloc (.cells cz 5)).drew.cell? ⟨b, 2, none⟩ = some (.pointer (some ⟨j, 0, none⟩))) := Lib.hid ((hB1.cell (World.block_lt_of_cell? wr _ hc2)).trans hc2)
        clear hR hbel em2 hmk e hq h3 hxi hc2
        go_upto_region 16 with fail
        clear hcell
        go_region_held3 (fun w' => w'.cell? ⟨b, 2, none⟩ = some (.pointer (some ⟨j, 0, none⟩)))
          (first | exact K1.out | exact K2.out | exact K3.out)
          (first | (go_at_call 12; (with_reducible refine hap.mono ?_); rintro _ w3 ⟨⟨k3, x3, rfl, hx3⟩, h3, c3⟩; clear hap; have K3 := Lib.hid c3; clear c3))
        all_goals
          have H3 := Lib.hid h3
          have Hm2 := Lib.hid hm2
          clear h3
          rcases hx3 with rfl | rfl
          all_goals
            go_wp2
            go_roundw
            case rel => exact ⟨i + 1, by go_num, by omega, H3.out⟩
            case measure => simp [intOf]; omega
      · obtain rfl : i = len := by omega
        have e0 : decide ((i : Int) < (i : Int)) = false := by simp
        have Hst2 : Hid (BkInv w1 wr d1 j b B B (3000 + i + 0)) := Lib.hid hR
        clear hR HR hbel Hbel
        go_wp2
        go_loopw [12] (fun o wr => ∃ (k left : Nat), o = .int .i64 left ∧ k + left ≤ B ∧ BkInv w1 wr d1 j b B left (3000 + i + k)) (fun o _ => (intOf o).toNat)
        case atStart => exact ⟨0, B, rfl, by omega, Hst2.out⟩
        case round =>
          clear Hst2
          obtain ⟨k, left, rfl, hkl, hR⟩ := hrel
          have HR := Lib.hid hR
          by_cases hlt : 2 < left
          · have e2 : decide ((2 : Int) < (left : Int)) = true := by simp; omega
            obtain ⟨s, hs⟩ : ∃ s : Nat, min ((left : Int) - 2) 4096 = (s : Int) := ⟨min (left - 2) 4096, by omega⟩
            have hs1 : 1 ≤ s := by omega
            have hs2 : s ≤ 4096 := by omega
            have hs3 : s + 2 ≤ left := by omega
            obtain ⟨cz, hmk⟩ := make_n s (by omega)
            have hmk1 := fun w => (hmk w).1
            have Hmk := Lib.hid (fun w => (hmk w).2)
            have hc2 : wr.cell? ⟨b, 2, none⟩ = some (.pointer (some ⟨j, 0, none⟩)) := by obtain ⟨_, _, _, _, _, _, _, hc, _⟩ := hR; exact hc
            have hB1 : Below wr.heap.size wr (wr.alloc (.cells cz 5)).drew := ((Below.refl _ _).alloc (Nat.le_refl _) _).drew
            have hap := bk_spend HR.out (by omega) hB1 hs1 hs2 (by omega) ((Hmk.out wr).below (below_drew _)) (Nat.le_refl _)
            have K1 : Hid (wr.drew.cell? ⟨b, 2, none⟩ = some (.pointer (some ⟨j, 0, none⟩))) := Lib.hid hc2
            have K2 : Hid ((wr.alloc (.cells cz 5)).drew.cell? ⟨b, 2, none⟩ = some (.pointer (some ⟨j, 0, none⟩))) := Lib.hid ((hB1.cell (World.block_lt_of_cell? wr _ hc2)).trans hc2)
            clear hR hmk hc2
            go_upto_region 23 with fail
            go_region_held3 (fun w' => w'.cell? ⟨b, 2, none⟩ = some (.pointer (some ⟨j, 0, none⟩)))
              (first | exact K1.out | exact K2.out | exact K3.out)
              (first | (go_at_call 18; (with_reducible refine hap.mono ?_); rintro _ w3 ⟨⟨k3, rfl⟩, h3, c3⟩; clear hap; have K3 := Lib.hid c3; clear c3))
            all_goals
              obtain ⟨l2, hl2⟩ : ∃ l2 : Nat, left = l2 + (s + 2) := ⟨left - (s + 2), by omega⟩
              have H3 : Hid (BkInv w1 w3 d1 j b B l2 (3000 + i + (k + 1))) := Lib.hid (by rw [show (l2 : Int) = (left : Int) - ((s : Int) + 2) from by omega]; exact h3)
              have el : (left : Int) - ((s : Int) + 2) = (l2 : Int) := by omega
              clear h3
              go_wp2
              go_roundw
              case rel => exact ⟨k + 1, l2, by go_num, by omega, H3.out⟩
              case measure => simp [intOf]; omega
          · have e2 : decide ((2 : Int) < (left : Int)) = false := by simp; omega
            go_wp2
            go_ret
            obtain ⟨A', m', hJ, _⟩ := HR.out
            exact ⟨rfl, HB1.out.trans (hJ.db.bel.mono HB1.out.size)⟩
theorem journalBooks_walk (n book : Int) (q : Option Addr) (len cap : Nat) (zs : List Int) (w : World) (_ : (Lit.int .i64 n).wf = true) (_ : (Lit.int .i64 book).wf = true) (hz : IsRow .i64 w q len cap zs) (_ : len * 8 ≤ 140737488351232) :
    Calls Try.prog 4 #[.int .i64 n, .int .i64 book, .slice q len cap] w fun e w' => e = .returned (.bool true) ∧ Below w.heap.size w w' := by
  obtain ⟨h1, h2⟩ := ints_of_row hz
  obtain ⟨q', cap', e, hl1, _, _⟩ := id h1
  simp only [Value.slice.injEq] at e
  obtain ⟨rfl, _, rfl⟩ := e
  exact books_ok n book q len cap _ w (by omega) h2 h1
end Go.Proofs.Ytbaphjnglkocpaa
