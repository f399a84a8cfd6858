import Derived.Test.YtbaphjnglkocpaaJournB
import Derived.Laws.ResultCell
/-
  The journal's ring: a piece is read.
-/
namespace Go.Proofs.Ytbaphjnglkocpaa
open Go.RowKit
structure Held where
  gen : Int
  ahead : Int
  seq : Int
  bytes : List UInt8
def heldNone : Held := ⟨0, 0, 0, []⟩
def pieceRead (sec : List UInt8) : Held :=
  match unbox sec with
  | none => heldNone
  | some x => match takesM 3 x with
    | some ([g, a, s], rest) => if g < 1 ∨ s < 0 ∨ 470 < rest.length then heldNone else ⟨g, a, s, rest⟩
    | _ => heldNone
def heldV (h : Held) (q : Option Addr) (c : Nat) : Value := .agg #[.int .i64 h.gen, .int .i64 h.ahead, .int .i64 h.seq, .slice q h.bytes.length c]
def RReadPost (h : Held) (w : World) (e : Ending) (w' : World) : Prop := ∃ q c, e = .returned (.tuple #[.agg #[.int .i64 h.gen, .int .i64 h.ahead, .int .i64 h.seq, .slice q h.bytes.length c], .nilIface]) ∧ Bytes w' (.slice q h.bytes.length c) h.bytes ∧ Below w.heap.size w w'
theorem RReadPost.none {h : Held} {w w' : World} {e : Ending} (hx : h = heldNone) (he : e = .returned (.tuple #[.agg #[.int .i64 0, .int .i64 0, .int .i64 0, .slice none 0 0], .nilIface])) (hb : Below w.heap.size w w') : RReadPost h w e w' := by
  subst hx; exact ⟨Option.none, 0, he, Bytes.nil, hb⟩
theorem Takes3_none {w : World} {v : Value} {l : List UInt8} (h : Bytes w v l) (hl : l.length ≤ 1000000000000) (ht : takesM 3 l = none) :
    Calls Try.prog 72 #[v, .int .i64 3] w fun e w' => e = .returned (.tuple #[.slice none 0 0, .slice none 0 0, .iface 40 (.int .i64 4)]) ∧ Below w.heap.size w w' := by
  have := Takes_none (c := 3) h hl (by omega) ht
  rwa [errV_pos (by decide)] at this
theorem Takes3_some {w : World} {v : Value} {l rest : List UInt8} {a b c : Int} (h : Bytes w v l) (hl : l.length ≤ 1000000000000) (ht : takesM 3 l = some ([a, b, c], rest)) :
    Calls Try.prog 72 #[v, .int .i64 3] w fun e w' => ∃ g1 o1 c1 q2 c2, e = .returned (.tuple #[.slice (some ⟨g1, o1, none⟩) 3 c1, .slice q2 rest.length c2, .nilIface]) ∧ w'.cell? ⟨g1, o1, none⟩ = some (.int .i64 a) ∧ w'.cell? ⟨g1, o1 + 1, none⟩ = some (.int .i64 b) ∧ w'.cell? ⟨g1, o1 + 2, none⟩ = some (.int .i64 c) ∧ w.heap.size ≤ g1 ∧ 3 ≤ c1 ∧ SubRow w' w.heap.size (.slice q2 rest.length c2) (bytesV rest) ∧ Below w.heap.size w w' :=
  (Takes_some (c := 3) h hl (by omega) ht).mono fun _ _ ⟨v1, v2, he, s1, s2, hb⟩ => by
    obtain ⟨q2, c2, rfl, _⟩ := s2.form
    rw [bytesV_len] at s2 he
    rcases s1 with ⟨_, h0⟩ | ⟨g, off, cap, rfl, h1, _, h3, _, _, h6⟩
    · cases h0
    · exact ⟨g, off, cap, q2, c2, he, h6 0 _ rfl, h6 1 _ rfl, h6 2 _ rfl, h1, h3, s2, hb⟩
theorem HeldAt.lt {w : World} {b : Nat} {gen ahead seq : Int} {v : Value} (h : HeldAt w b gen ahead seq v) : b < w.heap.size := lt_of h
theorem HeldAt.no_byte {w : World} {b : Nat} {gen ahead seq : Int} {q : Option Addr} {k c : Nat} (h : HeldAt w b gen ahead seq (.slice q k c)) {a : Addr} {x : UInt8} (hc : w.cell? a = some (byteV x)) : a.block ≠ b := by
  intro e
  exact cells_byte hc (e ▸ h) (by simp)
theorem HeldAt.free {w : World} {b : Nat} {gen ahead seq : Int} {v : Value} (h : HeldAt w b gen ahead seq v) (o : Nat) : w.frozen? ⟨b, o, none⟩ = false := free_in h
theorem Below.held4 {w w2 : World} {b : Nat} (h : Below w.heap.size w w2) (hb : w.heap.size ≤ b) (v0 v1 v2 v3 : Value) : Below w.heap.size w ((((w2.setCell ⟨b, 0, none⟩ v0).setCell ⟨b, 1, none⟩ v1).setCell ⟨b, 2, none⟩ v2).setCell ⟨b, 3, none⟩ v3) :=
  (((h.setCell hb _).setCell hb _).setCell hb _).setCell hb _
theorem Keeps.held4 (w : World) (b : Nat) (v0 v1 v2 v3 : Value) : Keeps (· = b) w ((((w.setCell ⟨b, 0, none⟩ v0).setCell ⟨b, 1, none⟩ v1).setCell ⟨b, 2, none⟩ v2).setCell ⟨b, 3, none⟩ v3) := by
  have h0 : Keeps (· = b) w (w.setCell ⟨b, 0, none⟩ v0) := (Keeps.refl (· = b) w).setCell (p := ⟨b, 0, none⟩) (.inl rfl) v0
  have h1 := h0.setCell (p := ⟨b, 1, none⟩) (.inl rfl) v1
  have h2 := h1.setCell (p := ⟨b, 2, none⟩) (.inl rfl) v2
  exact h2.setCell (p := ⟨b, 3, none⟩) (.inl rfl) v3
section
variable {w0 w : World} {p mn ms mc m : Nat} {d : Dev} {at_ n k : Int}
theorem rread_down (h : DB w0 w p mn ms mc d m) (h0 : 0 ≤ k) (h1 : k < d.size) (hdn : d.down = true) :
    Calls Try.prog 102 #[.agg #[.pointer (some ⟨p, 0, none⟩), .int .i64 at_, .int .i64 n], .int .i64 k] w fun e w' => e = .returned (.tuple #[.agg #[.int .i64 0, .int .i64 0, .int .i64 0, .slice none 0 0], errV 3]) ∧ Below w.heap.size w w' := by
  have hal1 : Below w.heap.size w (w.alloc (.cells #[.pointer (some ⟨p, 0, none⟩), .int .i64 at_, .int .i64 n] 90)) := (Below.refl _ _).alloc (Nat.le_refl _) _
  have hal2 : Below w.heap.size w ((w.alloc (.cells #[.pointer (some ⟨p, 0, none⟩), .int .i64 at_, .int .i64 n] 90)).alloc (.cells #[.int .i64 0, .int .i64 0, .int .i64 0, .slice none 0 0] 130)) := hal1.alloc (by simp) _
  have hr := read_down _ p mn ms mc d (h.below hal2).lay k h0 h1 hdn
  rw [errV_pos (by decide)] at hr ⊢
  clear h
  go_enter Try.func102, Try.ntmps102
  go_wp2_with (go_at_call 24; (with_reducible refine hr.mono ?_); rintro _ _ ⟨rfl, rfl⟩)
  (try simp only [Exit.inBlock, Exit.then])
  refine bodyPost_ret (v := .tuple #[.agg #[.int .i64 0, .int .i64 0, .int .i64 0, .slice none 0 0], .iface 40 (.int .i64 3)]) ?_ rfl ⟨rfl, ?_⟩
  · rw [results_cell_tmp rfl]
    go_simp
  · exact hal2
set_option maxRecDepth 100000 in
set_option maxHeartbeats 1000000 in
theorem rread_live (h : DB w0 w p mn ms mc d m) (h0 : 0 ≤ k) (h1 : k < d.size) (hdn : d.down = false) :
    Calls Try.prog 102 #[.agg #[.pointer (some ⟨p, 0, none⟩), .int .i64 at_, .int .i64 n], .int .i64 k] w (RReadPost (pieceRead (d.now k)) w) := by
  have hal1 : Below w.heap.size w (w.alloc (.cells #[.pointer (some ⟨p, 0, none⟩), .int .i64 at_, .int .i64 n] 90)) := (Below.refl _ _).alloc (Nat.le_refl _) _
  have hal2 : Below w.heap.size w ((w.alloc (.cells #[.pointer (some ⟨p, 0, none⟩), .int .i64 at_, .int .i64 n] 90)).alloc (.cells #[.int .i64 0, .int .i64 0, .int .i64 0, .slice none 0 0] 130)) := hal1.alloc (by simp) _
  have hr := read_db (h.below hal2) k h0 h1 hdn
  have hsl := (h.ok.lens k).1
  have hH0 : HeldAt ((w.alloc (.cells #[.pointer (some ⟨p, 0, none⟩), .int .i64 at_, .int .i64 n] 90)).alloc (.cells #[.int .i64 0, .int .i64 0, .int .i64 0, .slice none 0 0] 130)) (w.heap.size + 1) 0 0 0 (.slice none 0 0) := by
    have := heap_alloc_new (w.alloc (.cells #[.pointer (some ⟨p, 0, none⟩), .int .i64 at_, .int .i64 n] 90)) (.cells #[.int .i64 0, .int .i64 0, .int .i64 0, .slice none 0 0] 130)
    rw [show (w.alloc (.cells #[.pointer (some ⟨p, 0, none⟩), .int .i64 at_, .int .i64 n] 90)).heap.size = w.heap.size + 1 from by simp] at this
    exact this
  have HH0 := Lib.hid hH0
  have HB0 := Lib.hid hal2
  generalize d.now k = sec at hr hsl ⊢
  have Hsl := Lib.hid hsl
  clear h hdn h1 hsl hal1 hal2 hH0
  cases hux : unbox sec with
  | none =>
    have Hx : Hid (pieceRead sec = heldNone) := Lib.hid (by unfold pieceRead; rw [hux])
    have Hux := Lib.hid hux
    clear hux
    go_enter Try.func102, Try.ntmps102
    go_wp2_with (first
      | (go_at_call 24; (with_reducible refine hr.mono ?_); rintro _ w1 ⟨v1, rfl, s1, b1⟩; clear hr; have hu := Unbox_none (Bytes.of_sub s1) Hux.out; clear s1)
      | (go_at_call 115; (with_reducible refine hu.mono ?_); rintro _ w2 ⟨rfl, b2⟩; clear hu; have HB2 : Hid (Below w.heap.size w w2) := Lib.hid (HB0.out.trans ((b1.trans (b2.mono b1.size)).mono HB0.out.size)); have HH2 := Lib.hid ((HH0.out.below b1).below b2); clear b1 b2; obtain ⟨z0, z1, z2, z3⟩ := HH2.out.cells4; have f0 := HH2.out.free 0; have f1 := HH2.out.free 1; have f2 := HH2.out.free 2; have f3 := HH2.out.free 3))
    (try simp only [Exit.inBlock, Exit.then])
    refine bodyPost_ret (v := .tuple #[.agg #[.int .i64 0, .int .i64 0, .int .i64 0, .slice none 0 0], .nilIface]) ?_ rfl (RReadPost.none Hx.out rfl (Below.held4 HB2.out (Nat.le_succ _) _ _ _ _))
    rw [results_cell_tmp rfl]
    go_simp
  | some x =>
    have hxl := (unbox_some hux).1
    rw [Hsl.out] at hxl
    have Hxl : Hid (x.length ≤ 1000) := Lib.hid (by omega)
    have Hux := Lib.hid hux
    have hpr : pieceRead sec = match takesM 3 x with
      | some ([g, a, s], rest) => if g < 1 ∨ s < 0 ∨ 470 < rest.length then heldNone else ⟨g, a, s, rest⟩
      | _ => heldNone := by unfold pieceRead; rw [hux]
    clear hux hxl
    cases htk : takesM 3 x with
    | none =>
      have Hx : Hid (pieceRead sec = heldNone) := Lib.hid (by rw [hpr, htk])
      have Htk := Lib.hid htk
      clear hpr htk
      go_enter Try.func102, Try.ntmps102
      go_wp2_with (first
        | (go_at_call 24; (with_reducible refine hr.mono ?_); rintro _ w1 ⟨v1, rfl, s1, b1⟩; clear hr; have hu := Unbox_some (Bytes.of_sub s1) Hux.out; clear s1)
        | (go_at_call 115; (with_reducible refine hu.mono ?_); rintro _ w2 ⟨q2, c2, rfl, s2, b2⟩; clear hu; have HB2 : Hid (Below w.heap.size w w2) := Lib.hid (HB0.out.trans ((b1.trans (b2.mono b1.size)).mono HB0.out.size)); have HH2 := Lib.hid ((HH0.out.below b1).below b2); clear b1 b2; have ht := Takes3_none (Bytes.of_sub s2) (by have := Hxl.out; omega) Htk.out; clear s2)
        | (go_at_call 72; (with_reducible refine ht.mono ?_); rintro _ w3 ⟨rfl, b3⟩; clear ht; have HB3 : Hid (Below w.heap.size w w3) := Lib.hid (HB2.out.trans (b3.mono HB2.out.size)); have HH3 := Lib.hid (HH2.out.below b3); clear b3; obtain ⟨z0, z1, z2, z3⟩ := HH3.out.cells4; have f0 := HH3.out.free 0; have f1 := HH3.out.free 1; have f2 := HH3.out.free 2; have f3 := HH3.out.free 3))
      (try simp only [Exit.inBlock, Exit.then])
      refine bodyPost_ret (v := .tuple #[.agg #[.int .i64 0, .int .i64 0, .int .i64 0, .slice none 0 0], .nilIface]) ?_ rfl (RReadPost.none Hx.out rfl (Below.held4 HB3.out (Nat.le_succ _) _ _ _ _))
      rw [results_cell_tmp rfl]
      go_simp
    | some pr =>
      obtain ⟨ns, rest⟩ := pr
      obtain ⟨hn3, hrl⟩ := takesM_len htk
      match ns, hn3 with
      | [g, a, s], _ =>
      rw [htk] at hpr
      simp only [] at hpr
      have Htk := Lib.hid htk
      have Hrl : Hid (rest.length ≤ 1000) := Lib.hid (by have := Hxl.out; omega)
      clear htk hrl
      by_cases k1 : g < 1
      · have Hx : Hid (pieceRead sec = heldNone) := Lib.hid (by rw [hpr, if_pos (.inl k1)])
        clear hpr
        have e1 : decide (g < 1) = true := by simp; omega
        go_enter Try.func102, Try.ntmps102
        go_wp2_with (first
          | (go_at_call 24; (with_reducible refine hr.mono ?_); rintro _ w1 ⟨v1, rfl, s1, b1⟩; clear hr; have hu := Unbox_some (Bytes.of_sub s1) Hux.out; clear s1)
          | (go_at_call 115; (with_reducible refine hu.mono ?_); rintro _ w2 ⟨q2, c2, rfl, s2, b2⟩; clear hu; have HB2 : Hid (Below w.heap.size w w2) := Lib.hid (HB0.out.trans ((b1.trans (b2.mono b1.size)).mono HB0.out.size)); have HH2 := Lib.hid ((HH0.out.below b1).below b2); clear b1 b2; have ht := Takes3_some (Bytes.of_sub s2) (by have := Hxl.out; omega) Htk.out; clear s2)
          | (go_at_call 72; (with_reducible refine ht.mono ?_); rintro _ w3 ⟨g3, o3, c3, q4, c4, rfl, y0, y1, y2, g3n, _, s4, b3⟩; clear ht; have HB3 : Hid (Below w.heap.size w w3) := Lib.hid (HB2.out.trans (b3.mono HB2.out.size)); have HH3 := Lib.hid (HH2.out.below b3); have Hg3 := Lib.hid (Nat.le_trans HH2.out.lt g3n); clear b3 g3n; obtain ⟨z0, z1, z2, z3⟩ := HH3.out.cells4; have f0 := HH3.out.free 0; have f1 := HH3.out.free 1; have f2 := HH3.out.free 2; have f3 := HH3.out.free 3; have Hs4 := Lib.hid s4; clear s4))
        (try simp only [Exit.inBlock, Exit.then])
        refine bodyPost_ret (v := .tuple #[.agg #[.int .i64 0, .int .i64 0, .int .i64 0, .slice none 0 0], .nilIface]) ?_ rfl (RReadPost.none Hx.out rfl (Below.held4 HB3.out (Nat.le_succ _) _ _ _ _))
        rw [results_cell_tmp rfl]
        go_simp
      · have e1 : decide (g < 1) = false := by simp; omega
        by_cases k2 : s < 0
        · have Hx : Hid (pieceRead sec = heldNone) := Lib.hid (by rw [hpr, if_pos (.inr (.inl k2))])
          clear hpr
          have e2 : decide (s < 0) = true := by simp; omega
          go_enter Try.func102, Try.ntmps102
          go_wp2_with (first
            | (go_at_call 24; (with_reducible refine hr.mono ?_); rintro _ w1 ⟨v1, rfl, s1, b1⟩; clear hr; have hu := Unbox_some (Bytes.of_sub s1) Hux.out; clear s1)
            | (go_at_call 115; (with_reducible refine hu.mono ?_); rintro _ w2 ⟨q2, c2, rfl, s2, b2⟩; clear hu; have HB2 : Hid (Below w.heap.size w w2) := Lib.hid (HB0.out.trans ((b1.trans (b2.mono b1.size)).mono HB0.out.size)); have HH2 := Lib.hid ((HH0.out.below b1).below b2); clear b1 b2; have ht := Takes3_some (Bytes.of_sub s2) (by have := Hxl.out; omega) Htk.out; clear s2)
            | (go_at_call 72; (with_reducible refine ht.mono ?_); rintro _ w3 ⟨g3, o3, c3, q4, c4, rfl, y0, y1, y2, g3n, _, s4, b3⟩; clear ht; have HB3 : Hid (Below w.heap.size w w3) := Lib.hid (HB2.out.trans (b3.mono HB2.out.size)); have HH3 := Lib.hid (HH2.out.below b3); have Hg3 := Lib.hid (Nat.le_trans HH2.out.lt g3n); clear b3 g3n; obtain ⟨z0, z1, z2, z3⟩ := HH3.out.cells4; have f0 := HH3.out.free 0; have f1 := HH3.out.free 1; have f2 := HH3.out.free 2; have f3 := HH3.out.free 3; have Hs4 := Lib.hid s4; clear s4))
          (try simp only [Exit.inBlock, Exit.then])
          refine bodyPost_ret (v := .tuple #[.agg #[.int .i64 0, .int .i64 0, .int .i64 0, .slice none 0 0], .nilIface]) ?_ rfl (RReadPost.none Hx.out rfl (Below.held4 HB3.out (Nat.le_succ _) _ _ _ _))
          rw [results_cell_tmp rfl]
          go_simp
        · have e2 : decide (s < 0) = false := by simp; omega
          by_cases k3 : 470 < rest.length
          · have Hx : Hid (pieceRead sec = heldNone) := Lib.hid (by rw [hpr, if_pos (.inr (.inr k3))])
            clear hpr
            have e3 : decide ((470 : Int) < (rest.length : Int)) = true := by simp; omega
            go_enter Try.func102, Try.ntmps102
            go_wp2_with (first
              | (go_at_call 24; (with_reducible refine hr.mono ?_); rintro _ w1 ⟨v1, rfl, s1, b1⟩; clear hr; have hu := Unbox_some (Bytes.of_sub s1) Hux.out; clear s1)
              | (go_at_call 115; (with_reducible refine hu.mono ?_); rintro _ w2 ⟨q2, c2, rfl, s2, b2⟩; clear hu; have HB2 : Hid (Below w.heap.size w w2) := Lib.hid (HB0.out.trans ((b1.trans (b2.mono b1.size)).mono HB0.out.size)); have HH2 := Lib.hid ((HH0.out.below b1).below b2); clear b1 b2; have ht := Takes3_some (Bytes.of_sub s2) (by have := Hxl.out; omega) Htk.out; clear s2)
              | (go_at_call 72; (with_reducible refine ht.mono ?_); rintro _ w3 ⟨g3, o3, c3, q4, c4, rfl, y0, y1, y2, g3n, _, s4, b3⟩; clear ht; have HB3 : Hid (Below w.heap.size w w3) := Lib.hid (HB2.out.trans (b3.mono HB2.out.size)); have HH3 := Lib.hid (HH2.out.below b3); have Hg3 := Lib.hid (Nat.le_trans HH2.out.lt g3n); clear b3 g3n; obtain ⟨z0, z1, z2, z3⟩ := HH3.out.cells4; have f0 := HH3.out.free 0; have f1 := HH3.out.free 1; have f2 := HH3.out.free 2; have f3 := HH3.out.free 3; have Hs4 := Lib.hid s4; clear s4))
            (try simp only [Exit.inBlock, Exit.then])
            refine bodyPost_ret (v := .tuple #[.agg #[.int .i64 0, .int .i64 0, .int .i64 0, .slice none 0 0], .nilIface]) ?_ rfl (RReadPost.none Hx.out rfl (Below.held4 HB3.out (Nat.le_succ _) _ _ _ _))
            rw [results_cell_tmp rfl]
            go_simp
          · have Hx : Hid (pieceRead sec = ⟨g, a, s, rest⟩) := Lib.hid (by rw [hpr, if_neg (by omega)])
            clear hpr
            have e3 : decide ((470 : Int) < (rest.length : Int)) = false := by simp; omega
            go_enter Try.func102, Try.ntmps102
            go_wp2_with (first
              | (go_at_call 24; (with_reducible refine hr.mono ?_); rintro _ w1 ⟨v1, rfl, s1, b1⟩; clear hr; have hu := Unbox_some (Bytes.of_sub s1) Hux.out; clear s1)
              | (go_at_call 115; (with_reducible refine hu.mono ?_); rintro _ w2 ⟨q2, c2, rfl, s2, b2⟩; clear hu; have HB2 : Hid (Below w.heap.size w w2) := Lib.hid (HB0.out.trans ((b1.trans (b2.mono b1.size)).mono HB0.out.size)); have HH2 := Lib.hid ((HH0.out.below b1).below b2); clear b1 b2; have ht := Takes3_some (Bytes.of_sub s2) (by have := Hxl.out; omega) Htk.out; clear s2)
              | (go_at_call 72; (with_reducible refine ht.mono ?_); rintro _ w3 ⟨g3, o3, c3, q4, c4, rfl, y0, y1, y2, g3n, _, s4, b3⟩; clear ht; have HB3 : Hid (Below w.heap.size w w3) := Lib.hid (HB2.out.trans (b3.mono HB2.out.size)); have HH3 := Lib.hid (HH2.out.below b3); have Hg3 := Lib.hid (Nat.le_trans HH2.out.lt g3n); clear b3 g3n; obtain ⟨z0, z1, z2, z3⟩ := HH3.out.cells4; have f0 := HH3.out.free 0; have f1 := HH3.out.free 1; have f2 := HH3.out.free 2; have f3 := HH3.out.free 3; have Hs4 := Lib.hid s4; clear s4))
            have y0' : w3.drew.cell? ⟨g3, o3, none⟩ = some (.int .i64 g) := y0
            have y1' : w3.drew.cell? ⟨g3, o3 + 1, none⟩ = some (.int .i64 a) := y1
            have y2' : w3.drew.cell? ⟨g3, o3 + 2, none⟩ = some (.int .i64 s) := y2
            have hc3 : 3 ≤ c3 := by assumption
            have HH4 := Lib.hid (HH3.out.below (Below.refl _ _).drew)
            have HB4 : Hid (Below w.heap.size w w3.drew) := Lib.hid HB3.out.drew
            have Hs4' := Lib.hid ((Bytes.of_sub Hs4.out).below (Below.refl _ _).drew)
            clear y0 y1 y2 z0 z1 z2 z3 f0 f1 f2 f3
            obtain ⟨z0, z1, z2, z3⟩ := HH4.out.cells4
            have f0 := HH4.out.free 0
            have f1 := HH4.out.free 1
            have f2 := HH4.out.free 2
            have f3 := HH4.out.free 3
            refine wp_region_still_tail 11 (by kernel_rfl) (by kernel_rfl) ?_
            simp only [List.take_succ_cons, List.take_zero, List.drop_succ_cons, List.drop_zero]
            change wpStill _ _ w3.drew (fun a' => wpList _ _ _ _ a' w3.drew) _ _
            generalize w3.drew = w4 at y0' y1' y2' z0 z1 z2 z3 f0 f1 f2 f3 HH4 HB4 Hs4' ⊢
            repeat still_step
            refine wpStill_nil ?_
            go_wp2
            (try simp only [Exit.inBlock, Exit.then])
            refine bodyPost_ret (v := .tuple #[.agg #[.int .i64 g, .int .i64 a, .int .i64 s, .slice q4 rest.length c4], .nilIface]) ?_ rfl (by rw [Hx.out]; exact ⟨q4, c4, rfl, Hs4'.out.kept (S := (· = w.heap.size + 1)) (Keeps.held4 w4 (w.heap.size + 1) _ _ _ _) (fun _ _ hc e => HH4.out.no_byte hc e), Below.held4 HB4.out (Nat.le_succ _) _ _ _ _⟩)
            rw [results_cell_tmp rfl]
            go_simp
end
end Go.Proofs.Ytbaphjnglkocpaa
