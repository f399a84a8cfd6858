import Derived.Test.YtbaphjnglkocpaaJournGet
import Derived.Test.YtbaphjnglkocpaaJournQ
import Derived.Test.YtbaphjnglkocpaaArgs
/-
  JournalTwice: an opening changes nothing.
-/
namespace Go.Proofs.Ytbaphjnglkocpaa
open Go.RowKit
theorem ne_nil_errV (w : World) : (binOp .neq 27 .nilIface .nilIface).run Try.prog w = .ok (.bool false) w := by kernel_rfl
theorem Ints.nil (w : World) : Ints w (.slice none 0 0) [] := ⟨none, 0, rfl, Nat.le_refl _, by unfold maxLen; omega, fun j x hx => by simp at hx⟩
theorem Low.arm (b : Int) (d : Dev) (k : Int) : Low b d (d.arm k) := ⟨rfl, fun _ _ => rfl, fun _ _ => rfl, fun _ _ => rfl⟩
theorem arm_db {w0 w : World} {p mn ms mc n : Nat} {d : Dev} (h : DB w0 w p mn ms mc d n) (k : Int) (h0 : 0 ≤ k) (h1 : k < 9223372036854775808) :
    Calls Try.prog 48 #[.pointer (some ⟨p, 0, none⟩), .int .i64 k] w fun e w' => e = .returned .nilIface ∧ DB w0 w' p mn ms mc (d.arm k) n ∧ Keeps (DFoot p mn ms mc) w w' :=
  (arm_ok w p mn ms mc d k h.lay h0).mono fun _ _ ⟨h1', h2, h3⟩ => ⟨h1', h.step h2 { h.ok with l0 := h0, l1 := h1 } (h3.mono (fun _ _ e => .inl e)), h3.mono (fun _ _ e => .inl e)⟩
/-- the law's model, as far as this law looks at it -/
structure MdAt (w : World) (b p j : Nat) : Prop where
  c0 : w.cell? ⟨b, 0, none⟩ = some (.pointer (some ⟨p, 0, none⟩))
  c2 : w.cell? ⟨b, 2, none⟩ = some (.pointer (some ⟨j, 0, none⟩))
theorem MdAt.keeps {S : Nat → Prop} {w w' : World} {b p j : Nat} (h : MdAt w b p j) (hk : Keeps S w w') (hs : ¬ S b) : MdAt w' b p j := ⟨hk.cell h.c0 hs, hk.cell h.c2 hs⟩
theorem MdAt.below {w w' : World} {b p j : Nat} (h : MdAt w b p j) (hb : Below w.heap.size w w') : MdAt w' b p j := h.keeps (S := fun _ => False) (Keeps.of_below hb) (fun e => e)
/-- records are appended and flushed: no sector of the slots is written -/
def TwInv (w1 wr : World) (dF : Dev) (p mn ms mc j b c : Nat) : Prop :=
  ∃ A m d, JB w1 wr A d m c ∧ A.j = j ∧ (A.p = p ∧ A.mn = mn ∧ A.ms = ms ∧ A.mc = mc) ∧ m.dead = false ∧ Live d ∧ m.at_ = 1 ∧ Low 3 dF d ∧ MdAt wr b p j ∧ ¬ A.Foot b
theorem TwInv.md {w1 wr : World} {dF : Dev} {p mn ms mc j b c : Nat} (h : TwInv w1 wr dF p mn ms mc j b c) : MdAt wr b p j := by
  obtain ⟨_, _, _, _, _, _, _, _, _, _, h, _⟩ := h; exact h
theorem TwInv.bel {w1 wr : World} {dF : Dev} {p mn ms mc j b c : Nat} (h : TwInv w1 wr dF p mn ms mc j b c) : Below w1.heap.size w1 wr := by
  obtain ⟨_, _, _, h, _⟩ := h; exact h.db.bel
theorem JStep.md {w w' : World} {A A' : JAd} {b p j : Nat} (h : JStep w w' A A') (hm : MdAt w b p j) (hn : ¬ A.Foot b) : MdAt w' b p j ∧ ¬ A'.Foot b :=
  ⟨hm.keeps h.1 hn, fun hf => by
    have := World.block_lt_of_cell? w _ hm.c0
    rcases h.2 b hf with h | h
    · exact hn h
    · simp only [] at this; omega⟩
section
variable {w1 wr W : World} {dF : Dev} {p mn ms mc j b c s g : Nat}
theorem tw_append (h : TwInv w1 wr dF p mn ms mc j b c) (hcc : c ≤ 10000000) (hW : Below wr.heap.size wr W) (hs : 1 ≤ s) (hs2 : s ≤ 4096) (hb : Bytes W (.slice (some ⟨g, 0, none⟩) s s) (List.replicate s 0)) (hg : wr.heap.size ≤ g) :
    Calls Try.prog 12 #[.pointer (some ⟨j, 0, none⟩), .slice (some ⟨g, 0, none⟩) s s] W fun e w' => (∃ k x, e = .returned (.tuple #[.int .i64 k, x]) ∧ (x = .nilIface ∨ x = .iface 40 (.int .i64 5))) ∧ TwInv w1 w' dF p mn ms mc j b (c + 1) ∧ w'.cell? ⟨b, 2, none⟩ = some (.pointer (some ⟨j, 0, none⟩)) := by
  obtain ⟨A, m, d, hJ, rfl, ⟨rfl, rfl, rfl, rfl⟩, hd, hl, ha, hlow, hm, hn⟩ := h
  by_cases hf : m.free - m.booked < s + 2
  · refine (japp_at hJ hcc hW List.length_replicate hb hg (put_full hd (by rw [List.length_replicate]; omega) (by rw [List.length_replicate]; omega) (by rw [List.length_replicate]; exact hf))).mono fun e w' ⟨he, A', hJ', hS, e1, e2, e3, e4, e5⟩ => ?_
    obtain ⟨h1, h2⟩ := hS.md hm hn
    exact ⟨⟨0, _, he, .inr (errV_pos (show (5 : Int) ≠ 0 by decide))⟩, ⟨A', m, d, hJ', e5, ⟨e1, e2, e3, e4⟩, hd, hl, ha, hlow, h1, h2⟩, h1.c2⟩
  · refine (japp_at hJ hcc hW List.length_replicate hb hg (put_add hd (by rw [List.length_replicate]; omega) (by rw [List.length_replicate]; omega) (by rw [List.length_replicate]; omega))).mono fun e w' ⟨he, A', hJ', hS, e1, e2, e3, e4, e5⟩ => ?_
    obtain ⟨h1, h2⟩ := hS.md hm hn
    exact ⟨⟨_, _, he, .inl rfl⟩, ⟨A', _, d, hJ', e5, ⟨e1, e2, e3, e4⟩, hd, hl, ha, hlow, h1, h2⟩, h1.c2⟩
theorem tw_flush (h : TwInv w1 wr dF p mn ms mc j b c) (hcc : c ≤ 10000000) (hF : ∀ k, dF.chg k = false) :
    Calls Try.prog 40 #[.pointer (some ⟨j, 0, none⟩)] wr fun e w' => e = .returned .nilIface ∧ TwInv w1 w' dF p mn ms mc j b (c + 3000) := by
  obtain ⟨A, m, d, hJ, rfl, ⟨rfl, rfl, rfl, rfl⟩, hd, hl, ha, hlow, hm, hn⟩ := h
  refine (jflush_any hJ hcc).mono fun e w' ⟨he, hJ', hS⟩ => ?_
  obtain ⟨d', g, ef, hl', hsz⟩ := flush_live hJ.ok hl hd
  have hfl := flush_low (d := d) m hJ.ok.n1 (fun k hk => by rw [hlow.chg k (by omega)]; exact hF k)
  rw [ef] at he hJ' hfl
  obtain ⟨h1, h2⟩ := hS.md hm hn
  exact ⟨he, A, _, d', hJ', rfl, ⟨rfl, rfl, rfl, rfl⟩, hd, hl', ha, hlow.trans (by rw [ha] at hfl; exact hfl), h1, h2⟩
theorem TwInv.more {c' : Nat} (h : TwInv w1 wr dF p mn ms mc j b c) (hc : c ≤ c') : TwInv w1 wr dF p mn ms mc j b c' := by
  obtain ⟨A, m, d, hJ, h⟩ := h; exact ⟨A, m, d, hJ.more hc, h⟩
/-- the last Flush, whatever it answers -/
theorem tw_last {A : JAd} {m : JM} {d : Dev} (hJ : JB w1 wr A d m c) (hcc : c ≤ 10000000) (hlow : Low 3 dF d) (ha : m.at_ = 1) (hF : ∀ k, dF.chg k = false) (hm : MdAt wr b A.p A.j) (hn : ¬ A.Foot b) :
    Calls Try.prog 40 #[.pointer (some ⟨A.j, 0, none⟩)] wr fun e w' => (∃ x, e = .returned (errV x)) ∧ ∃ d', DB w1 w' A.p A.mn A.ms A.mc d' (c + 3000) ∧ Low 3 dF d' ∧ MdAt w' b A.p A.j ∧ ¬ DFoot A.p A.mn A.ms A.mc b := by
  refine (jflush_any hJ hcc).mono fun e w' ⟨he, hJ', hS⟩ => ?_
  have hfl := flush_low (d := d) m hJ.ok.n1 (fun i hi => by rw [hlow.chg i (by omega)]; exact hF i)
  rw [ha] at hfl
  obtain ⟨h1, h2⟩ := hS.md hm hn
  exact ⟨⟨_, he⟩, _, hJ'.db, hlow.trans hfl, h1, fun e => hn (.inl e)⟩
end
/-- what an opened journal of 60 sectors answers, in every world that only grew -/
structure OpAt (w : World) (B : Nat) (A : JAd) (N : Nat) (F : Int) (recs : Nat → List UInt8) : Prop where
  few : N ≤ 28200
  next : ∀ W, Below w.heap.size w W → Calls Try.prog 15 #[.pointer (some ⟨A.j, 0, none⟩)] W fun e W' => e = .returned (.int .i64 (1 + (N : Int))) ∧ Below W.heap.size W W'
  first : ∀ W, Below w.heap.size w W → Calls Try.prog 16 #[.pointer (some ⟨A.j, 0, none⟩)] W fun e W' => e = .returned (.int .i64 1) ∧ W = W'
  free : ∀ W, Below w.heap.size w W → Calls Try.prog 13 #[.pointer (some ⟨A.j, 0, none⟩)] W fun e W' => e = .returned (.int .i64 F) ∧ Below W.heap.size W W'
  get : ∀ W, Below w.heap.size w W → ∀ k, k < N → Calls Try.prog 37 #[.pointer (some ⟨A.j, 0, none⟩), .int .i64 (1 + (k : Int))] W fun e W' => ∃ q c, e = .returned (.tuple #[.slice q (recs k).length c, .nilIface]) ∧ SubRow W' W.heap.size (.slice q (recs k).length c) (bytesV (recs k)) ∧ Below W.heap.size W W'
theorem opAt_of {w : World} {B : Nat} {A : JAd} {d : Dev} (h : JAt w B A (opJM d 60)) : OpAt w B A (opJM d 60).recs.length (opJM d 60).free (fun k => (opJM d 60).recs.getD k []) := by
  have hp : (opPieces d 60).2.length ≤ 28200 := Nat.le_trans (rdPieces_len d 1 60 0 60 0 (setG (fun _ => 0) (0 - 1) 0) []) (by simp)
  have hs : (opJM d 60).stream.length ≤ 28200 := by
    show (recsB (recsAll (opPieces d 60).2)).length ≤ _
    have := recsAll_len (opPieces d 60).2; omega
  have hN : (opJM d 60).recs.length ≤ 28200 := by
    have h1 := recsB_len_ge (opJM d 60).recs
    have h2 : (opJM d 60).stream.length = (recsB (opJM d 60).recs).length := rfl
    omega
  have hx : (opJM d 60).next = 1 + ((opJM d 60).recs.length : Int) := rfl
  have hf : (opJM d 60).first = 1 := rfl
  refine ⟨hN, fun W hb => ?_, fun W hb => ?_, fun W hb => ?_, fun W hb k hk => ?_⟩
  · have := jnext_at (h.below hb) (by rw [hf]; omega) (by rw [hx]; omega); rw [hx] at this; exact this
  · have := jfirst_any (h.below hb); rw [hf] at this; exact this
  · exact jfree_at (h.below hb) (by show (0 : Int) ≤ 60; omega) (by show (60 : Int) ≤ _; omega) (by omega)
  · have hr : (opJM d 60).recs[k]? = some ((opJM d 60).recs.getD k []) := by rw [List.getD_eq_getElem?_getD, List.getElem?_eq_getElem hk]; rfl
    have := jget_at (h.below hb) (by rw [hf]; omega) (by rw [hx]; omega) (by show (0 : Int) ≤ 0; omega) (by show (0 : Int) ≤ _; omega) (by omega) hr
    rw [hf] at this; exact this
theorem OpAt.below {w w' : World} {B : Nat} {A : JAd} {N : Nat} {F : Int} {recs : Nat → List UInt8} (h : OpAt w B A N F recs) (hb : Below w.heap.size w w') : OpAt w' B A N F recs :=
  ⟨h.few, fun W h' => h.next W (hb.trans (h'.mono hb.size)), fun W h' => h.first W (hb.trans (h'.mono hb.size)), fun W h' => h.free W (hb.trans (h'.mono hb.size)), fun W h' => h.get W (hb.trans (h'.mono hb.size))⟩
set_option maxRecDepth 100000 in
set_option maxHeartbeats 4000000 in
theorem twice_ok (q : Option Addr) (len cap : Nat) (xs : List Int) (qk : Option Addr) (lk ck : Nat) (keep : List Int) (times : Int) (w : World) (hlc : len ≤ cap) (hxl : xs.length = len) (hx : Ints w (.slice q len cap) xs) (hkk : Ints w (.slice qk lk ck) keep) :
    Calls Try.prog 9 #[.slice q len cap, .slice qk lk ck, .int .i64 times] w fun e w' => e = .returned (.bool true) ∧ Below w.heap.size w w' := by
  have hal := alive_ok w
  by_cases hlong : 40 < len ∨ 60 < lk
  · by_cases h40 : 40 < len
    · have e3 : decide ((40 : Int) < (len : Int)) = true := by simp; omega
      go_enter Try.func9, Try.ntmps9
      go_wp2_with (go_at_call 10; (with_reducible refine hal.mono ?_); rintro _ w1 ⟨rfl, b1⟩; clear hal)
      go_ret
      exact ⟨rfl, b1⟩
    · have e3 : decide ((40 : Int) < (len : Int)) = false := by simp; omega
      have e4 : decide ((60 : Int) < (lk : Int)) = true := by simp; omega
      go_enter Try.func9, Try.ntmps9
      go_wp2_with (go_at_call 10; (with_reducible refine hal.mono ?_); rintro _ w1 ⟨rfl, b1⟩; clear hal)
      go_ret
      exact ⟨rfl, b1⟩
  have hlen : len ≤ 40 := by omega
  have e3 : decide ((40 : Int) < (len : Int)) = false := by simp; omega
  have e4 : decide ((60 : Int) < (lk : Int)) = false := by simp; omega
  obtain ⟨m7, hm7, em7⟩ := mod_of times 7 (by omega) (by omega)
  have Em7 := Lib.hid em7
  have hbg := fun w => begun_ok w 60 (by omega) (by omega)
  have Hx := Lib.hid hx
  have Hkp := Lib.hid hkk
  clear hlong em7 hx hkk
  go_enter Try.func9, Try.ntmps9
  go_upto_region 8 with (first
    | (go_at_call 10; (with_reducible refine hal.mono ?_); rintro _ w1 ⟨rfl, b1⟩; clear hal)
    | (go_at_call 11; (with_reducible refine (hbg _).mono ?_); rintro _ w2 ⟨b, A, d1, rfl, mo, h2, fr2, lb, nb⟩; clear hbg))
  have HB1 := Lib.hid b1
  have Hfr := Lib.hid fr2
  have Hst : Hid (TwInv w1 w2 d1 A.p A.mn A.ms A.mc A.j b 3000) := Lib.hid (by
    obtain ⟨qm, cm, hself⟩ := mo.self
    exact ⟨A, _, d1, h2, rfl, ⟨rfl, rfl, rfl, rfl⟩, rfl, fr2.live, rfl, Low.refl 3 d1, ⟨cell_in hself rfl, cell_in hself rfl⟩, nb⟩)
  clear h2 fr2 mo nb b1 lb
  obtain ⟨p, mn, ms, mc, s, j, mg, vs, va, vn⟩ := A
  go_wp2
  go_loopw [37] (fun o wr => ∃ (i : Nat), o = .int .i64 i ∧ i ≤ len ∧ TwInv w1 wr d1 p mn ms mc j b (3000 + 4000 * i)) (fun o _ => len - (intOf o).toNat)
  case atStart => exact ⟨0, rfl, Nat.zero_le _, Hst.out⟩
  case round =>
    clear Hst
    obtain ⟨i, rfl, hi, hR⟩ := hrel
    have HR := Lib.hid hR
    have Hbel := Lib.hid (HB1.out.trans (hR.bel.mono HB1.out.size))
    by_cases hlt : i < len
    · have e0 : decide ((i : Int) < (len : Int)) = true := by simp; omega
      obtain ⟨x, hxi⟩ : ∃ x, xs[i]? = some x := ⟨_, List.getElem?_eq_getElem (by omega)⟩
      obtain ⟨q', cap', e, _, _, h3⟩ := Hx.out.below Hbel.out
      obtain ⟨nb, no, hq, hcell⟩ := h3 i x hxi
      simp only [Value.slice.injEq] at e
      obtain rfl : q = some ⟨nb, no, none⟩ := e.1.trans hq
      obtain ⟨m2, hm2, em2⟩ := mod_of x 1200 (by omega) (by omega)
      have em2' : wrap64 ((IntKind.u64.wrap x).tmod 1200) = (m2 : Int) := em2
      obtain ⟨s, hs⟩ : ∃ s : Nat, 1 + (m2 : Int) = (s : Int) := ⟨1 + m2, by omega⟩
      have em3 : IntKind.i64.wrap ((IntKind.u64.wrap x).tmod 1200) = (m2 : Int) := by rw [← em2']; rw [IntKind.wrap_i64]; unfold wrap64; rfl
      have ews : IntKind.i64.wrap (s : Int) = (s : Int) := by rw [IntKind.wrap_i64]; omega
      have hs1 : 1 ≤ s := by omega
      have hs2 : s ≤ 4096 := by omega
      obtain ⟨cz, hmk⟩ := make_n s (by omega)
      have hmk1 := fun w => (hmk w).1
      have Hmk := Lib.hid (fun w => (hmk w).2)
      have hc2 : wr.cell? ⟨b, 2, none⟩ = some (.pointer (some ⟨j, 0, none⟩)) := hR.md.c2
      have hB1 : Below wr.heap.size wr (wr.alloc (.cells cz 5)).drew := ((Below.refl _ _).alloc (Nat.le_refl _) _).drew
      have hap := tw_append HR.out (by omega) hB1 hs1 hs2 ((Hmk.out wr).below (below_drew _)) (Nat.le_refl _)
      have K1 : Hid (wr.drew.cell? ⟨b, 2, none⟩ = some (.pointer (some ⟨j, 0, none⟩))) := Lib.hid hc2
      have K2 : Hid ((wr.alloc (.cells cz 5)).drew.cell? ⟨b, 2, none⟩ = some (.pointer (some ⟨j, 0, none⟩))) := Lib.hid ((hB1.cell (World.block_lt_of_cell? wr _ hc2)).trans hc2)
      clear hR em2 hmk e hq h3 hxi hc2
      go_upto_region 11 with fail
      clear hcell
      go_region_held3 (fun w' => w'.cell? ⟨b, 2, none⟩ = some (.pointer (some ⟨j, 0, none⟩)))
        (first | exact K1.out | exact K2.out | exact K3.out)
        (first | (go_at_call 12; (with_reducible refine hap.mono ?_); rintro _ w3 ⟨⟨k3, x3, rfl, hx3⟩, h3, c3⟩; clear hap; have K3 := Lib.hid c3; clear c3))
      all_goals
        have H3 := Lib.hid h3
        have Hm2 := Lib.hid hm2
        have hfl := tw_flush h3 (by omega) Hfr.out.chg
        have c3 : w3.cell? ⟨b, 2, none⟩ = some (.pointer (some ⟨j, 0, none⟩)) := h3.md.c2
        clear h3
        rcases hx3 with rfl | rfl
        · by_cases hm3 : (i : Int) % 3 = 2
          · have e5 : ((i : Int) % 3 == 2) = true := by simp [hm3]
            clear hm3
            go_wp2_with (go_at_call 40; (with_reducible refine hfl.mono ?_); rintro _ w4 ⟨rfl, h4⟩; clear hfl; have H4 := Lib.hid h4; clear h4)
            go_roundw
            case rel => exact ⟨i + 1, by go_num, by omega, H4.out.more (by omega)⟩
            case measure => simp [intOf]; omega
          · have e5 : ((i : Int) % 3 == 2) = false := by simp [hm3]
            clear hm3 hfl
            go_wp2
            go_roundw
            case rel => exact ⟨i + 1, by go_num, by omega, H3.out.more (by omega)⟩
            case measure => simp [intOf]; omega
        · clear hfl
          go_wp2
          go_roundw
          case rel => exact ⟨i + 1, by go_num, by omega, H3.out.more (by omega)⟩
          case measure => simp [intOf]; omega
    · obtain rfl : i = len := by omega
      have e0 : decide ((i : Int) < (i : Int)) = false := by simp
      obtain ⟨A, m, d, hJ, ej, ⟨ep, emn, ems, emc⟩, hd, hl, ha, hlow, hm, hn⟩ := hR
      have e7 := Em7.out
      have e7' : IntKind.i64.wrap ((IntKind.u64.wrap times).tmod 7) = (m7 : Int) := by rw [← e7]; rw [IntKind.wrap_i64]; unfold wrap64; rfl
      have c0 := hm.c0
      have c2 := hm.c2
      have harm := arm_db hJ.db (m7 : Int) (by omega) (by omega)
      rw [ep] at harm
      have HJ := Lib.hid hJ
      have Hlow := Lib.hid hlow
      have Ha := Lib.hid ha
      have Hm := Lib.hid hm
      have Hn := Lib.hid hn
      have HE := Lib.hid (And.intro ej (And.intro ep (And.intro emn (And.intro ems emc))))
      clear hJ ej ep emn ems emc hd hl ha hlow hm hn HR
      go_upto_region 19 with (first
        | (go_at_call 48; (with_reducible refine harm.mono ?_); rintro _ w4 ⟨rfl, h4, k4⟩; clear harm c0 c2; have md4 := Hm.out.keeps (S := DFoot p A.mn A.ms A.mc) k4 (fun e => Hn.out (.inl (by rw [HE.out.2.1]; exact e)));
            have hJ4 : JB w1 w4 A (d.arm m7) m (3000 + 4000 * i) := HJ.out.dev (by rw [HE.out.2.1]; exact h4) (Nat.le_refl _) (by rw [HE.out.2.1]; exact k4) rfl; have hla := tw_last (b := b) hJ4 (by omega) (Hlow.out.trans (Low.arm 3 d m7)) Ha.out Hfr.out.chg (by rw [HE.out.1, HE.out.2.1]; exact md4) Hn.out; rw [HE.out.1, HE.out.2.1] at hla; have c0 := md4.c0; have c2 := md4.c2; clear h4 k4 md4)
        | (go_at_call 40; go_loud ((with_reducible refine hla.mono ?_)); rintro _ w5 ⟨⟨xe, rfl⟩, d5, h5, low5, md5, nb5⟩; clear hla c0 c2; have hcr := crash_db h5 _ keep (Hkp.out.below (HB1.out.trans (h5.bel.mono HB1.out.size))); have Hlow5 := Lib.hid low5; have Hmd5 := Lib.hid md5; have Hnb5 := Lib.hid nb5; have Hok5 := Lib.hid h5.ok; have c0 := md5.c0; have c2 := md5.c2; clear h5 low5 md5 nb5)
        | (go_at_call 49; (with_reducible refine hcr.mono ?_); rintro _ w6 ⟨rfl, h6, k6⟩; clear hcr c0 c2; have md6 := Hmd5.out.keeps k6 Hnb5.out; have cl6 := low_crash (a := 1) Hlow5.out Hok5.out Hfr.out.clean keep; have Hsz6 : Hid ((d5.crash keep).size = 60 + 3) := Lib.hid (Hlow5.out.size.trans Hfr.out.size); have hop := jopen_low h6 cl6 (by omega) (by omega) Hsz6.out; have Hcl6 := Lib.hid cl6; have Hmd6 := Lib.hid md6; have c0 := md6.c0; clear h6 k6 md6 cl6)
        | (go_at_call 39; (with_reducible refine hop.mono ?_); rintro _ w7 ⟨A7, rfl, hA7, h7, J7, k7, f7⟩; clear hop c0; have md7 := Hmd6.out.keeps k7 Hnb5.out; have Hmd7 := Lib.hid md7; have HA7 := Lib.hid hA7; have H7 := Lib.hid h7; have HJ7 := Lib.hid J7; clear md7 hA7 h7 J7 k7 f7))
      obtain ⟨M, hM⟩ : ∃ M, opJM (d5.crash keep) 60 = M := ⟨_, rfl⟩
      have HM := Lib.hid hM
      have HJ7' : Hid (JAt w7 w1.heap.size A7 M) := Lib.hid (by rw [← HM.out]; exact HJ7.out)
      obtain ⟨ck, hck⟩ : ∃ ck, 3000 + 4000 * i + 3000 = ck := ⟨_, rfl⟩
      have H7' : Hid (DB w1 w7 p A.mn A.ms A.mc (d5.crash keep) ck) := Lib.hid (by rw [← hck]; exact H7.out)
      have Hnb : Hid (¬ DFoot p A.mn A.ms A.mc b) := Lib.hid Hnb5.out
      have Hdc : Hid (∀ dk, (∀ x, dk.now x = (d5.crash keep).now x) → opJM dk 60 = M) := Lib.hid (fun dk h => (opJM_now h 60).trans HM.out)
      generalize d5.crash keep = dc at Hcl6 Hsz6 H7' Hdc
      clear hM HM HJ7 H7 hck Hnb5 Hok5 Hlow5 Hmd5 Hmd6 HJ Hlow Ha Hm Hn Em7 e7 e7' e0
      go_wp2
      go_loopw [14] (fun o wr => ∃ (i : Nat) (dk : Dev), o = .int .i64 i ∧ i ≤ 3 ∧ DB w1 wr p A.mn A.ms A.mc dk ck ∧ Clean dk 1 1 (jrow 0 1 0 []) ∧ (∀ x, dk.now x = dc.now x) ∧ dk.size = 60 + 3 ∧ JAt wr w1.heap.size A7 M ∧ MdAt wr b p j) (fun o _ => 3 - (intOf o).toNat)
      case atStart => exact ⟨0, dc, rfl, by omega, H7'.out, Hcl6.out, fun _ => rfl, Hsz6.out, HJ7'.out, Hmd7.out⟩
      case round =>
        clear H7' HJ7' Hmd7 Hcl6 Hsz6
        obtain ⟨n, dk, rfl, hn, hDk, hCk, hnk, hsk, hJk, hmk⟩ := hrel
        have c0 := hmk.c0
        have hcr := crash_db hDk _ [] (Ints.nil wr)
        have HD := Lib.hid hDk
        have HC := Lib.hid hCk
        have Hk := Lib.hid (And.intro hnk hsk)
        have HJk := Lib.hid hJk
        have Hmk := Lib.hid hmk
        clear hDk hCk hnk hsk hJk hmk
        by_cases h3 : n < 3
        · have e0 : decide ((n : Int) < 3) = true := by simp; omega
          have Hh3 := Lib.hid h3
          go_upto_region 26 with (first
            | (go_at_call 49; (with_reducible refine hcr.mono ?_); rintro _ w8 ⟨rfl, h8, k8⟩; clear hcr c0; have H8 := Lib.hid h8; have Hcl8 := Lib.hid (crash_clean HD.out.ok HC.out []); have Hn8 : Hid (∀ x, (dk.crash []).now x = dc.now x) := Lib.hid (fun x => by rw [dcrash_now HD.out.ok, if_neg (by simp), ← HC.out.same]; exact Hk.out.1 x);
                have HJ8 : Hid (JAt w8 w1.heap.size A7 M) := Lib.hid (HJk.out.dev (d := dk) (by rw [HA7.out.1, HA7.out.2.1, HA7.out.2.2.1, HA7.out.2.2.2]; exact HD.out.lay) (by rw [HA7.out.1, HA7.out.2.1, HA7.out.2.2.1, HA7.out.2.2.2]; exact k8)); have Hmd8 := Lib.hid (Hmk.out.keeps k8 Hnb.out); have c0 := Hmd8.out.c0; have hop := jopen_low h8 Hcl8.out (by omega) (by omega) (show (dk.crash []).size = 60 + 3 from Hk.out.2); rw [Hdc.out _ Hn8.out] at hop; clear h8 k8)
            | (go_at_call 39; (with_reducible refine hop.mono ?_); rintro _ w9 ⟨A9, rfl, hA9, h9, J9, k9, f9⟩; clear hop c0; have H9 := Lib.hid h9; have HJ9 := Lib.hid J9; have Hmd9 := Lib.hid (Hmd8.out.keeps k9 Hnb.out);
                have HJ79 : Hid (JAt w9 w1.heap.size A7 M) := Lib.hid (HJ8.out.dev (d := dk.crash []) (by rw [HA7.out.1, HA7.out.2.1, HA7.out.2.2.1, HA7.out.2.2.2]; exact H8.out.lay) (by rw [HA7.out.1, HA7.out.2.1, HA7.out.2.2.1, HA7.out.2.2.2]; exact k9)); clear hA9 h9 J9 k9 f9))
          have hO7 := opAt_of (d := dc) (w := w9) (B := w1.heap.size) (A := A7) (by rw [Hdc.out dc (fun _ => rfl)]; exact HJ79.out)
          have hO9 := opAt_of (d := dc) (w := w9) (B := w1.heap.size) (A := A9) (by rw [Hdc.out dc (fun _ => rfl)]; exact HJ9.out)
          generalize (opJM dc 60).recs.length = N at hO7 hO9
          generalize (opJM dc 60).free = F at hO7 hO9
          generalize (fun k => (opJM dc 60).recs.getD k []) = rf at hO7 hO9
          have hfew := hO7.few
          have HO7 := Lib.hid hO7
          have HO9 := Lib.hid hO9
          have Bc := Lib.hid (Below.refl w9.heap.size w9)
          clear hO7 hO9
          go_wp2_with (first
            | (go_at_call 15; (with_reducible refine (HO9.out.next _ Bc.out).mono ?_); rintro _ wx ⟨rfl, bx⟩; have By := Lib.hid (Bc.out.trans (bx.mono Bc.out.size)); clear Bc bx; have Bc := Lib.hid By.out; clear By)
            | (go_at_call 15; (with_reducible refine (HO7.out.next _ Bc.out).mono ?_); rintro _ wx ⟨rfl, bx⟩; have By := Lib.hid (Bc.out.trans (bx.mono Bc.out.size)); clear Bc bx; have Bc := Lib.hid By.out; clear By)
            | (go_at_call 16; (with_reducible refine (HO9.out.first _ Bc.out).mono ?_); rintro _ _ ⟨rfl, rfl⟩)
            | (go_at_call 16; (with_reducible refine (HO7.out.first _ Bc.out).mono ?_); rintro _ _ ⟨rfl, rfl⟩)
            | (go_at_call 13; (with_reducible refine (HO9.out.free _ Bc.out).mono ?_); rintro _ wx ⟨rfl, bx⟩; have By := Lib.hid (Bc.out.trans (bx.mono Bc.out.size)); clear Bc bx; have Bc := Lib.hid By.out; clear By)
            | (go_at_call 13; (with_reducible refine (HO7.out.free _ Bc.out).mono ?_); rintro _ wx ⟨rfl, bx⟩; have By := Lib.hid (Bc.out.trans (bx.mono Bc.out.size)); clear Bc bx; have Bc := Lib.hid By.out; clear By))
          have Bo := Lib.hid Bc.out
          clear Bc
          generalize wx = wo at Bo ⊢
          go_loopw [17] (fun o W => ∃ k : Nat, o = .int .i64 (1 + (k : Int)) ∧ k ≤ N ∧ Below w9.heap.size w9 W) (fun o _ => N + 1 - (intOf o).toNat)
          case atStart => exact ⟨0, by simp, Nat.zero_le _, Bo.out⟩
          case round =>
            clear Bo
            obtain ⟨k, rfl, hkN, hB⟩ := hrel
            have Bc := Lib.hid hB
            clear hB
            by_cases hk : k < N
            · have e1 : decide (1 + (k : Int) < 1 + (N : Int)) = true := by simp; omega
              go_upto_region 33 with (first
                | (go_at_call 15; (with_reducible refine (HO7.out.next _ Bc.out).mono ?_); rintro _ wx ⟨rfl, bx⟩; have By := Lib.hid (Bc.out.trans (bx.mono Bc.out.size)); clear Bc bx; have Bc := Lib.hid By.out; clear By)
                | (go_at_call 37; (with_reducible refine (HO7.out.get _ Bc.out k hk).mono ?_); rintro _ wx ⟨q1, c1, rfl, s1, bx⟩; have Hs1 := Lib.hid (Bytes.of_sub s1); have By := Lib.hid (Bc.out.trans (bx.mono Bc.out.size)); clear Bc bx s1; have Bc := Lib.hid By.out; clear By)
                | (go_at_call 37; (with_reducible refine (HO9.out.get _ Bc.out k hk).mono ?_); rintro _ wx ⟨q2, c2, rfl, s2, bx⟩; have hcv1 := conv_bytes (Hs1.out.below bx); have hcv2 := conv_bytes (Bytes.of_sub s2); have By := Lib.hid (Bc.out.trans (bx.mono Bc.out.size)); clear Bc bx s2; have Bc := Lib.hid By.out; clear By))
              go_wp2
              go_roundw
              case rel => exact ⟨k + 1, by go_num, by omega, Bc.out⟩
              case measure => simp [intOf]; omega
            · obtain rfl : k = N := by omega
              have e1 : decide (1 + (k : Int) < 1 + (k : Int)) = false := by simp
              go_wp2_with (first
                | (go_at_call 15; (with_reducible refine (HO7.out.next _ Bc.out).mono ?_); rintro _ wx ⟨rfl, bx⟩; have By := Lib.hid (Bc.out.trans (bx.mono Bc.out.size)); clear Bc bx; have Bc := Lib.hid By.out; clear By))
              go_roundw
              case rel => exact ⟨n + 1, dk.crash [], by go_num, Hh3.out, H9.out.below Bc.out, Hcl8.out, Hn8.out, Hk.out.2, HJ79.out.below Bc.out, Hmd9.out.below Bc.out⟩
              case measure => have := Hh3.out; simp [intOf]; omega
        · obtain rfl : n = 3 := by omega
          clear hcr c0
          go_wp2
          go_ret
          exact ⟨rfl, HB1.out.trans (HD.out.bel.mono HB1.out.size)⟩
theorem journalTwice_walk (q : Option Addr) (len cap : Nat) (zs : List Int) (qk : Option Addr) (lk ck : Nat) (ks : List Int) (times : Int) (w : World) (hz : IsRow .i64 w q len cap zs) (_ : len * 8 ≤ 140737488351232) (hk : IsRow .i64 w qk lk ck ks) (_ : lk * 8 ≤ 140737488351232) (_ : (Lit.int .i64 times).wf = true) :
    Calls Try.prog 9 #[.slice q len cap, .slice qk lk ck, .int .i64 times] w fun e w' => e = .returned (.bool true) ∧ Below w.heap.size w w' := by
  obtain ⟨h1, h2⟩ := ints_of_row hz
  obtain ⟨q', cap', e, hl1, _, _⟩ := id h1
  simp only [Value.slice.injEq] at e
  obtain ⟨rfl, _, rfl⟩ := e
  exact twice_ok q len cap _ qk lk ck _ times w (by omega) h2 h1 (ints_of_row hk).1
end Go.Proofs.Ytbaphjnglkocpaa
