import Derived.Test.YtbaphjnglkocpaaJournV
import Derived.WalkMore
/-
  The journal is opened: its pieces are read.
-/
namespace Go.Proofs.Ytbaphjnglkocpaa
open Go.RowKit
/-- the greatest generation that the ring's first sectors tell, and one; 1 at least -/
def genTo (d : Dev) (at_ : Int) : Nat → Int
  | 0 => 1
  | i + 1 => max (genTo d at_ i) (IntKind.i64.wrap ((pieceRead (d.now (at_ + 2 + i))).gen + 1))
def setG (g : Int → Int) (k v : Int) : Int → Int := fun j => if j = k then v else g j
/-- the pieces from one on: who wrote them, their bytes -/
def rdPieces (d : Dev) (at_ n base : Int) : Nat → Int → (Int → Int) → List UInt8 → (Int → Int) × List UInt8
  | 0, _, g, st => (g, st)
  | f + 1, seq, g, st =>
    if seq < base + n then
      if (pieceRead (d.now (ringSec at_ n seq))).gen = 0 ∨ (pieceRead (d.now (ringSec at_ n seq))).seq ≠ seq ∨ (pieceRead (d.now (ringSec at_ n seq))).ahead ≠ g (seq - 1) then (g, st)
      else if (pieceRead (d.now (ringSec at_ n seq))).bytes.length < 470 then (setG g seq (pieceRead (d.now (ringSec at_ n seq))).gen, st ++ (pieceRead (d.now (ringSec at_ n seq))).bytes)
      else rdPieces d at_ n base f (seq + 1) (setG g seq (pieceRead (d.now (ringSec at_ n seq))).gen) (st ++ (pieceRead (d.now (ringSec at_ n seq))).bytes)
    else (g, st)
theorem pieceRead_len (l : List UInt8) : (pieceRead l).bytes.length ≤ 470 := by
  unfold pieceRead
  split
  · simp [heldNone]
  · split
    · split
      · simp [heldNone]
      · rename_i h; simp only [not_or, Int.not_lt, Nat.not_lt] at h; exact h.2.2
    · simp [heldNone]
theorem HeldAt.map {w w' : World} {b k : Nat} {gen ahead seq : Int} {v : Value} {l : IM} (h : HeldAt w b gen ahead seq v) (hm : IMap w k l) (hk : Keeps (· = k) w w') : HeldAt w' b gen ahead seq v :=
  hk.at h (fun e => by
    have h1 : b = k := e
    obtain ⟨_, _, a1, _⟩ := hm
    unfold HeldAt at h
    rw [h1, a1] at h
    cases h)
theorem Bytes.map {w w' : World} {v : Value} {k : Nat} {l : List UInt8} {L : IM} (h : Bytes w v l) (hm : IMap w k L) (hk : Keeps (· = k) w w') : Bytes w' v l :=
  h.kept (S := (· = k)) hk (fun a x hc e => by
    obtain ⟨_, _, a1, _⟩ := hm
    have h1 : a.block = k := e
    unfold World.cell? at hc
    rw [h1, a1] at hc
    simp at hc)
theorem RB.c3 {w0 w : World} {A : JAd} {d : Dev} {r : RM} {c : Nat} {N : Nat} (h : RB w0 w A d r c) (e : r.n = N) : w.cell? ⟨A.j, 0, none⟩ = some (.pointer (some ⟨A.p, 0, none⟩)) ∧ w.cell? ⟨A.j, 1, none⟩ = some (.int .i64 r.at_) ∧ w.cell? ⟨A.j, 2, none⟩ = some (.int .i64 N) :=
  ⟨h.at_.cells.c0, h.at_.cells.c1, by rw [← e]; exact h.at_.cells.c2⟩
section
variable {w0 w : World} {A : JAd} {d : Dev} {r : RM} {c : Nat} {start ahead : Int}
theorem jload_fin {W : World} {g : Int → Int} {st : List UInt8} {vs' : Value} {i : Nat} {base : Int} (hN : r.n = (i : Int)) (hb : start / 470 = base) (hs0 : 0 ≤ start) (hs1 : start ≤ 100000000000)
    (hR : RB w0 W { A with vs := vs' } d { r with base := base, gens := g, gen := genTo d r.at_ i, stream := st } c) (hS : JStep w W A { A with vs := vs' })
    (hG : rdPieces d r.at_ (i : Int) base i base (setG r.gens (base - 1) ahead) [] = (g, st)) (hl : st.length ≤ 2000000)
    (hpad : (start % 470).toNat ≤ (rdPieces d r.at_ r.n (start / 470) r.n.toNat (start / 470) (setG r.gens (start / 470 - 1) ahead) []).2.length) :
    Calls Try.prog 104 #[.pointer (some ⟨A.j, 0, none⟩), .int .i64 start] W fun e w' => e = .returned (.tuple #[]) ∧ ∃ A' gens' starts' stream' fl', RB w0 w' A' d { r with base := start / 470, gen := genTo d r.at_ r.n.toNat, gens := gens', stream := stream', starts := starts', flushed := fl' } c ∧
      gens' = (rdPieces d r.at_ r.n (start / 470) r.n.toNat (start / 470) (setG r.gens (start / 470 - 1) ahead) []).1 ∧
      stream' = (rdPieces d r.at_ r.n (start / 470) r.n.toNat (start / 470) (setG r.gens (start / 470 - 1) ahead) []).2.take ((start % 470).toNat + (recsB (recsAll ((rdPieces d r.at_ r.n (start / 470) r.n.toNat (start / 470) (setG r.gens (start / 470 - 1) ahead) []).2.drop (start % 470).toNat))).length) ∧
      starts' = startsOf start (recsAll ((rdPieces d r.at_ r.n (start / 470) r.n.toNat (start / 470) (setG r.gens (start / 470 - 1) ahead) []).2.drop (start % 470).toNat)) ∧
      fl' = (recsAll ((rdPieces d r.at_ r.n (start / 470) r.n.toNat (start / 470) (setG r.gens (start / 470 - 1) ahead) []).2.drop (start % 470).toNat)).length ∧
      JStep w w' A A' ∧ (A'.p = A.p ∧ A'.mn = A.mn ∧ A'.ms = A.ms ∧ A'.mc = A.mc ∧ A'.j = A.j ∧ A'.s = A.s) := by
  have hst : start = base * 470 + ((start % 470).toNat : Int) := by omega
  have hP : rdPieces d r.at_ r.n (start / 470) r.n.toNat (start / 470) (setG r.gens (start / 470 - 1) ahead) [] = (g, st) := by rw [hb, hN]; exact hG
  have hgN : genTo d r.at_ r.n.toNat = genTo d r.at_ i := by rw [hN]; rfl
  rw [hP] at hpad ⊢
  refine (records_any (start := start) (o := (start % 470).toNat) hR hst hpad (by show 0 ≤ base; omega) (by show base * 470 + (st.length : Int) ≤ _; omega) hl).mono ?_
  rintro e w' ⟨he, A', hR', hS', e1, e2, e3, e4, e5, e6⟩
  refine ⟨he, A', g, startsOf start (recsAll (st.drop (start % 470).toNat)), st.take ((start % 470).toNat + (recsB (recsAll (st.drop (start % 470).toNat))).length), (recsAll (st.drop (start % 470).toNat)).length, ?_, rfl, rfl, rfl, rfl, hS.trans hS', e1, e2, e3, e4, e5, e6⟩
  rw [hb, hgN]; exact hR'
set_option maxRecDepth 100000 in
set_option maxHeartbeats 2000000 in
theorem jload_any (h : RB w0 w A d r c) (hdn : d.down = false) (h0 : 0 ≤ r.at_) (h2 : 2 ≤ r.n) (h3 : r.n ≤ 2048) (hsz : r.at_ + 2 + r.n ≤ d.size) (hs0 : 0 ≤ start) (hs1 : start ≤ 100000000000) (hg : r.gen = 1) (hst : r.stream = [])
    (hpad : (start % 470).toNat ≤ (rdPieces d r.at_ r.n (start / 470) r.n.toNat (start / 470) (setG r.gens (start / 470 - 1) ahead) []).2.length) :
    Calls Try.prog 75 #[.pointer (some ⟨A.j, 0, none⟩), .int .i64 start, .int .i64 ahead] w fun e w' => e = .returned .nilIface ∧ ∃ A' gens' starts' stream' fl', RB w0 w' A' d { r with base := start / 470, gen := genTo d r.at_ r.n.toNat, gens := gens', stream := stream', starts := starts', flushed := fl' } c ∧
      gens' = (rdPieces d r.at_ r.n (start / 470) r.n.toNat (start / 470) (setG r.gens (start / 470 - 1) ahead) []).1 ∧
      stream' = (rdPieces d r.at_ r.n (start / 470) r.n.toNat (start / 470) (setG r.gens (start / 470 - 1) ahead) []).2.take ((start % 470).toNat + (recsB (recsAll ((rdPieces d r.at_ r.n (start / 470) r.n.toNat (start / 470) (setG r.gens (start / 470 - 1) ahead) []).2.drop (start % 470).toNat))).length) ∧
      starts' = startsOf start (recsAll ((rdPieces d r.at_ r.n (start / 470) r.n.toNat (start / 470) (setG r.gens (start / 470 - 1) ahead) []).2.drop (start % 470).toNat)) ∧
      fl' = (recsAll ((rdPieces d r.at_ r.n (start / 470) r.n.toNat (start / 470) (setG r.gens (start / 470 - 1) ahead) []).2.drop (start % 470).toNat)).length ∧
      JStep w w' A A' ∧ (A'.p = A.p ∧ A'.mn = A.mn ∧ A'.ms = A.ms ∧ A'.mc = A.mc ∧ A'.j = A.j ∧ A'.s = A.s) := by
  obtain ⟨N, hN⟩ : ∃ N : Nat, r.n = N := ⟨r.n.toNat, by omega⟩
  obtain ⟨base, hbase⟩ : ∃ base, start / 470 = base := ⟨_, rfl⟩
  have hb0 : 0 ≤ base := by omega
  have hb1 : base ≤ 1000000000 := by omega
  have hdv : start.tdiv 470 = base := by rw [Int.tdiv_eq_ediv_of_nonneg hs0]; exact hbase
  have H := Lib.hid h
  have c7 := h.at_.cells.c7
  have f7 := h.at_.free 7
  have ewb : IntKind.i64.wrap (base - 1) = base - 1 := by rw [IntKind.wrap_i64]; omega
  have Hbase := Lib.hid hbase
  have Hpad := Lib.hid hpad
  have HN := Lib.hid hN
  have ha2 : r.at_ ≤ 4096 := by have := h.db.ok.z2; omega
  have hN2 : N ≤ 2048 := by omega
  have hN1 : 2 ≤ N := by omega
  have hN3 : r.at_ + 2 + (N : Int) ≤ d.size := by omega
  clear h hpad hN h2 h3 hsz
  go_enter Try.func75, Try.ntmps75
  go_wp2
  go_step3
  go_upto_region 2 with fail
  have HR1 : Hid (RB w0 (w.setCell ⟨A.j, 7, none⟩ (.int .i64 base)) A d { r with base := base } c) := Lib.hid (H.out.updCell (m' := { r with base := base }) 7 _ (by rfl) rfl rfl rfl rfl rfl rfl rfl)
  have HS1 : Hid (JStep w (w.setCell ⟨A.j, 7, none⟩ (.int .i64 base)) A A) := Lib.hid ⟨(Keeps.cellAt (S := (· = A.j)) rfl _).mono (fun _ _ e => .inr (.inr (.inl e))), fun k e => .inl e⟩
  clear c7 f7
  refine wp_region_still_tail 10 (by kernel_rfl) (by kernel_rfl) ?_
  simp only [List.take_succ_cons, List.take_zero, List.drop_succ_cons, List.drop_zero]
  generalize w.setCell ⟨A.j, 7, none⟩ (.int .i64 base) = w1 at HR1 HS1 ⊢
  change wpStill _ _ w1.drew (fun a' => wpList _ _ _ _ a' w1.drew) _ _
  have HR2 := Lib.hid (HR1.out.below (below_drew w1))
  have HS2 : Hid (JStep w w1.drew A A) := Lib.hid (HS1.out.trans (JStep.below A (below_drew w1)))
  clear HR1 HS1
  generalize w1.drew = w2 at HR2 HS2 ⊢
  have c5 := HR2.out.at_.cells.c5
  have c7 : w2.cell? ⟨A.j, 7, none⟩ = some (.int .i64 base) := HR2.out.at_.cells.c7
  obtain ⟨lg, a1, a2⟩ := HR2.out.at_.gens
  obtain ⟨w3, hu1, hu2, hu3, hu4⟩ := run_mapUpdate_im (P := Try.prog) Try.underlying91 Try.underlying3 a1 (base - 1) (.int .i64 ahead)
  have HR3 : Hid (RB w0 w3 A d { r with base := base, gens := setG r.gens (base - 1) ahead } c) := Lib.hid (by
    have := HR2.out.gens (l := aput lg (base - 1) ahead) (g := setG r.gens (base - 1) ahead) (by rw [← enc_put]; exact hu2) (fun k => by
      rw [aget_aput]
      unfold setG
      split
      · rfl
      · exact a2 k) hu3
    exact this)
  have HS3 : Hid (JStep w w3 A A) := Lib.hid (HS2.out.trans (JStep.gens hu3))
  clear a1 a2 hu2 hu3 hu4 HR2 HS2
  repeat still_step
  refine wpStill_nil ?_
  have k2 : w3.cell? ⟨A.j, 2, none⟩ = some (.int .i64 N) := by rw [← HN.out]; exact HR3.out.at_.cells.c2
  go_upto_region 4 with fail
  clear c5 c7 hu1 k2 ewb hdv
  go_loopw [33] (fun t wr => ∃ i : Nat, t = .int .i64 i ∧ i ≤ N ∧ RB w0 wr A d { r with base := base, gens := setG r.gens (base - 1) ahead, gen := genTo d r.at_ i } c ∧ JStep w wr A A) (fun t _ => N - (intOf t).toNat)
  case atStart =>
    refine ⟨0, rfl, Nat.zero_le _, ?_, HS3.out⟩
    have := HR3.out
    rw [show genTo d r.at_ 0 = r.gen from hg.symm]
    exact this
  case round =>
    clear HR3 HS3
    obtain ⟨i, rfl, hi, hR, hS⟩ := hrel
    have HR := Lib.hid hR
    have HS := Lib.hid hS
    clear hR hS
    by_cases hlt : i < N
    · have e1 : decide ((i : Int) < (N : Int)) = true := by simp; omega
      obtain ⟨kk, hkk⟩ : ∃ kk, r.at_ + 2 + (i : Int) = kk := ⟨_, rfl⟩
      have Hkk := Lib.hid hkk
      have ewA : IntKind.i64.wrap (r.at_ + 2) = r.at_ + 2 := by rw [IntKind.wrap_i64]; omega
      have ewB : IntKind.i64.wrap kk = kk := by rw [IntKind.wrap_i64]; omega
      have hB1 : Hid (Below wr.heap.size wr wr.drew) := Lib.hid (below_drew wr)
      have hB2 : Hid (Below wr.heap.size wr (wr.alloc (.cells #[.int .i64 0, .int .i64 0, .int .i64 0, .slice none 0 0] 130)).drew) := Lib.hid ((Below.refl _ _).alloc (Nat.le_refl _) _).drew
      have S1 : Hid (wr.drew.cell? ⟨A.j, 0, none⟩ = some (.pointer (some ⟨A.p, 0, none⟩)) ∧ wr.drew.cell? ⟨A.j, 1, none⟩ = some (.int .i64 r.at_) ∧ wr.drew.cell? ⟨A.j, 2, none⟩ = some (.int .i64 N)) := Lib.hid ((HR.out.below hB1.out).c3 HN.out)
      have S2 : Hid ((wr.alloc (.cells #[.int .i64 0, .int .i64 0, .int .i64 0, .slice none 0 0] 130)).drew.cell? ⟨A.j, 0, none⟩ = some (.pointer (some ⟨A.p, 0, none⟩)) ∧ (wr.alloc (.cells #[.int .i64 0, .int .i64 0, .int .i64 0, .slice none 0 0] 130)).drew.cell? ⟨A.j, 1, none⟩ = some (.int .i64 r.at_) ∧ (wr.alloc (.cells #[.int .i64 0, .int .i64 0, .int .i64 0, .slice none 0 0] 130)).drew.cell? ⟨A.j, 2, none⟩ = some (.int .i64 N)) := Lib.hid ((HR.out.below hB2.out).c3 HN.out)
      have hrd1 := rread_live (at_ := r.at_) (n := (N : Int)) (k := kk) (HR.out.below hB1.out).db (by omega) (by omega) hdn
      have hrd2 := rread_live (at_ := r.at_) (n := (N : Int)) (k := kk) (HR.out.below hB2.out).db (by omega) (by omega) hdn
      have Hcl := pieceRead_len (d.now kk)
      generalize hpr : pieceRead (d.now kk) = hd at hrd1 hrd2 Hcl
      have Hpr := Lib.hid hpr
      clear hpr
      go_upto_region 6 with fail
      go_cut [8, 9] from 34 to 66 (fun t8 t9 wx => ∃ b q5 c5, t8 = .pointer (some ⟨b, 0, none⟩) ∧ t9 = .nilIface ∧ HeldAt wx b hd.gen hd.ahead hd.seq (.slice q5 hd.bytes.length c5) ∧ Bytes wx (.slice q5 hd.bytes.length c5) hd.bytes ∧ Below wr.heap.size wr wx)
      case first =>
        go_region_held3 (fun w' => w'.cell? ⟨A.j, 0, none⟩ = some (.pointer (some ⟨A.p, 0, none⟩)) ∧ w'.cell? ⟨A.j, 1, none⟩ = some (.int .i64 r.at_) ∧ w'.cell? ⟨A.j, 2, none⟩ = some (.int .i64 N))
          (first | (with_reducible exact S1.out) | (with_reducible exact S2.out) | (with_reducible exact S5.out) | (with_reducible exact S6.out) | (with_reducible exact S8.out) | (with_reducible exact (S7.out _ _ _ _)))
          (first
            | (go_at_call 102; (with_reducible refine hrd1.mono ?_); rintro _ w5 ⟨q5, c5, rfl, s5, b5⟩; have B5 : Hid (Below wr.heap.size wr w5) := Lib.hid (hB1.out.trans (b5.mono hB1.out.size)); have S5 : Hid (w5.cell? ⟨A.j, 0, none⟩ = some (.pointer (some ⟨A.p, 0, none⟩)) ∧ w5.cell? ⟨A.j, 1, none⟩ = some (.int .i64 r.at_) ∧ w5.cell? ⟨A.j, 2, none⟩ = some (.int .i64 N)) := Lib.hid ((HR.out.below B5.out).c3 HN.out); have S8 : Hid ((w5.alloc (.cells #[.int .i64 0, .int .i64 0, .int .i64 0, .slice none 0 0] 130)).cell? ⟨A.j, 0, none⟩ = some (.pointer (some ⟨A.p, 0, none⟩)) ∧ (w5.alloc (.cells #[.int .i64 0, .int .i64 0, .int .i64 0, .slice none 0 0] 130)).cell? ⟨A.j, 1, none⟩ = some (.int .i64 r.at_) ∧ (w5.alloc (.cells #[.int .i64 0, .int .i64 0, .int .i64 0, .slice none 0 0] 130)).cell? ⟨A.j, 2, none⟩ = some (.int .i64 N)) := Lib.hid ((HR.out.below (B5.out.alloc B5.out.size _)).c3 HN.out); have S6 : Hid ((w5.alloc (.cells #[.int .i64 hd.gen, .int .i64 hd.ahead, .int .i64 hd.seq, .slice q5 hd.bytes.length c5] 130)).cell? ⟨A.j, 0, none⟩ = some (.pointer (some ⟨A.p, 0, none⟩)) ∧ (w5.alloc (.cells #[.int .i64 hd.gen, .int .i64 hd.ahead, .int .i64 hd.seq, .slice q5 hd.bytes.length c5] 130)).cell? ⟨A.j, 1, none⟩ = some (.int .i64 r.at_) ∧ (w5.alloc (.cells #[.int .i64 hd.gen, .int .i64 hd.ahead, .int .i64 hd.seq, .slice q5 hd.bytes.length c5] 130)).cell? ⟨A.j, 2, none⟩ = some (.int .i64 N)) := Lib.hid ((HR.out.below (B5.out.alloc B5.out.size _)).c3 HN.out); have HS5 := Lib.hid s5; clear s5 b5)
            | (go_at_call 102; (with_reducible refine hrd2.mono ?_); rintro _ w5 ⟨q5, c5, rfl, s5, b5⟩; have HH5 : Hid (HeldAt w5 wr.heap.size 0 0 0 (.slice none 0 0)) := Lib.hid (HeldAt.below (HeldAt.below (w := wr.alloc _) (heap_alloc_new wr _) (below_drew _)) b5); have B5 : Hid (Below wr.heap.size wr w5) := Lib.hid (hB2.out.trans (b5.mono hB2.out.size)); have S5 : Hid (w5.cell? ⟨A.j, 0, none⟩ = some (.pointer (some ⟨A.p, 0, none⟩)) ∧ w5.cell? ⟨A.j, 1, none⟩ = some (.int .i64 r.at_) ∧ w5.cell? ⟨A.j, 2, none⟩ = some (.int .i64 N)) := Lib.hid ((HR.out.below B5.out).c3 HN.out); have S7 : Hid (∀ v0 v1 v2 v3, ((((w5.setCell ⟨wr.heap.size, 0, none⟩ v0).setCell ⟨wr.heap.size, 1, none⟩ v1).setCell ⟨wr.heap.size, 2, none⟩ v2).setCell ⟨wr.heap.size, 3, none⟩ v3).cell? ⟨A.j, 0, none⟩ = some (.pointer (some ⟨A.p, 0, none⟩)) ∧ ((((w5.setCell ⟨wr.heap.size, 0, none⟩ v0).setCell ⟨wr.heap.size, 1, none⟩ v1).setCell ⟨wr.heap.size, 2, none⟩ v2).setCell ⟨wr.heap.size, 3, none⟩ v3).cell? ⟨A.j, 1, none⟩ = some (.int .i64 r.at_) ∧ ((((w5.setCell ⟨wr.heap.size, 0, none⟩ v0).setCell ⟨wr.heap.size, 1, none⟩ v1).setCell ⟨wr.heap.size, 2, none⟩ v2).setCell ⟨wr.heap.size, 3, none⟩ v3).cell? ⟨A.j, 2, none⟩ = some (.int .i64 N)) := Lib.hid (fun v0 v1 v2 v3 => (HR.out.below (Below.held4 B5.out (Nat.le_refl _) v0 v1 v2 v3)).c3 HN.out); have HS5 := Lib.hid s5; clear s5 b5; obtain ⟨z0, z1, z2, z3⟩ := HH5.out.cells4; have f0 := HH5.out.free 0; have f1 := HH5.out.free 1; have f2 := HH5.out.free 2; have f3 := HH5.out.free 3))
        all_goals (go_wp2_with fail; go_meet)
        · exact ⟨_, q5, c5, rfl, rfl, heap_alloc_new w5 _, HS5.out.below ((Below.refl _ _).alloc (Nat.le_refl _) _), B5.out.alloc B5.out.size _⟩
        · refine ⟨_, q5, c5, rfl, rfl, ?_, HS5.out.kept (S := (· = wr.heap.size)) (Keeps.held4 w5 wr.heap.size _ _ _ _) (fun _ _ hc e => HH5.out.no_byte hc e), Below.held4 B5.out (Nat.le_refl _) _ _ _ _⟩
          unfold HeldAt
          rw [heap_setCell _ _ _ _ _ _ _ (heap_setCell _ _ _ _ _ _ _ (heap_setCell _ _ _ _ _ _ _ (heap_setCell _ _ _ _ _ _ _ HH5.out)))]
          rfl
      case rest =>
        obtain ⟨b, q5, c5, rfl, rfl, hh, hy, hb⟩ := hcut
        have HH := Lib.hid (hh.below (below_drew wc))
        have HR6 := Lib.hid (HR.out.below hb.drew)
        have HS6 : Hid (JStep wr wc.drew A A) := Lib.hid (JStep.below A hb.drew)
        clear hh hy hb hrd1 hrd2 S1 S2 hB1 hB2 ewA ewB
        go_upto_region 9 with fail
        refine wp_region_still_tail 9 (by kernel_rfl) (by kernel_rfl) ?_
        simp only [List.take_succ_cons, List.take_zero, List.drop_succ_cons, List.drop_zero]
        change wpStill _ _ wc.drew (fun a' => wpList _ _ _ _ a' wc.drew) _ _
        have HS7 : Hid (JStep w wc.drew A A) := Lib.hid (HS.out.trans HS6.out)
        clear HS HR HS6
        generalize wc.drew = w6 at HH HR6 HS7 ⊢
        obtain ⟨z0, z1, z2, z3⟩ := HH.out.cells4
        obtain ⟨gi, hgi⟩ : ∃ gi, genTo d r.at_ i = gi := ⟨_, rfl⟩
        have Hgi : Hid (genTo d r.at_ (i + 1) = max gi (IntKind.i64.wrap (hd.gen + 1))) := Lib.hid (by rw [← hgi, genTo, Hkk.out, Hpr.out])
        have c4 : w6.cell? ⟨A.j, 4, none⟩ = some (.int .i64 gi) := by rw [← hgi]; exact HR6.out.at_.cells.c4
        have f4 : w6.frozen? ⟨A.j, 4, none⟩ = false := HR6.out.at_.free 4
        have HR8 : Hid (RB w0 (w6.setCell ⟨A.j, 4, none⟩ (.int .i64 (max gi (IntKind.i64.wrap (hd.gen + 1))))) A d { r with base := base, gens := setG r.gens (base - 1) ahead, gen := genTo d r.at_ (i + 1) } c) := Lib.hid (HR6.out.updCell (m' := { r with base := base, gens := setG r.gens (base - 1) ahead, gen := genTo d r.at_ (i + 1) }) 4 _ (by rw [Hgi.out]; rfl) rfl rfl rfl rfl rfl rfl rfl)
        have HS8 : Hid (JStep w (w6.setCell ⟨A.j, 4, none⟩ (.int .i64 (max gi (IntKind.i64.wrap (hd.gen + 1))))) A A) := Lib.hid (HS7.out.trans ⟨(Keeps.cellAt (S := (· = A.j)) rfl _).mono (fun _ _ e => .inr (.inr (.inl e))), fun k e => .inl e⟩)
        clear HR6 HS7 Hpr hgi
        repeat still_step
        refine wpStill_nil ?_
        go_wp2
        go_roundw
        case rel =>
          rw [show wrap64 (hd.gen + 1) = IntKind.i64.wrap (hd.gen + 1) from (by rw [IntKind.wrap_i64]; unfold wrap64; omega)]
          exact ⟨i + 1, by go_num, by omega, HR8.out, HS8.out⟩
        case measure => simp [intOf]; omega
    · obtain rfl : i = N := by omega
      have e1 : decide ((i : Int) < (i : Int)) = false := by simp
      have c7 : wr.cell? ⟨A.j, 7, none⟩ = some (.int .i64 base) := HR.out.at_.cells.c7
      go_wp2
      go_step3
      go_upto_region 12 with fail
      have HJ : Hid (JStep w wr A { A with vs := A.vs }) := HS
      have HR1 : Hid (RB w0 wr { A with vs := A.vs } d { r with base := base, gens := setG r.gens (base - 1) ahead, gen := genTo d r.at_ i, stream := [] } c) := Lib.hid (by have := HR.out; rw [← hst]; exact this)
      obtain ⟨G, hG⟩ : ∃ G, rdPieces d r.at_ (i : Int) base i base (setG r.gens (base - 1) ahead) [] = G := ⟨_, rfl⟩
      have HG := Lib.hid hG
      have Hgg := Lib.hid hG
      clear HR HS c7 e1 hG hi
      generalize wr = w7 at HJ HR1 ⊢
      go_loopw [10] (fun t wr => ∃ (seq : Int) (f : Nat) (g : Int → Int) (st : List UInt8) (vs' : Value), t = .int .i64 seq ∧ base ≤ seq ∧ seq + (f : Int) = base + (i : Int) ∧ st.length ≤ (i - f) * 470 ∧ rdPieces d r.at_ (i : Int) base f seq g st = G ∧ RB w0 wr { A with vs := vs' } d { r with base := base, gens := g, gen := genTo d r.at_ i, stream := st } c ∧ JStep w wr A { A with vs := vs' }) (fun t _ => (base + (i : Int) - intOf t).toNat)
      case atStart => exact ⟨base, i, _, [], A.vs, rfl, Int.le_refl _, rfl, by simp, HG.out, HR1.out, HJ.out⟩
      case round =>
        clear HR1 HJ HG
        obtain ⟨seq, f, g, st, vs', rfl, hq0, hq1, hsl, hrp, hR, hS⟩ := hrel
        have HR := Lib.hid hR
        have HS := Lib.hid hS
        have Hrp := Lib.hid hrp
        have Hsl := Lib.hid hsl
        have c7 : wr.cell? ⟨A.j, 7, none⟩ = some (.int .i64 base) := hR.at_.cells.c7
        have c2 : wr.cell? ⟨A.j, 2, none⟩ = some (.int .i64 i) := (hR.c3 (A := { A with vs := vs' }) HN.out).2.2
        have ewD : IntKind.i64.wrap (base + (i : Int)) = base + (i : Int) := by rw [IntKind.wrap_i64]; omega
        clear hR hS hrp hsl
        cases f with
        | zero =>
          have e2 : decide (seq < base + (i : Int)) = false := by simp; omega
          go_upto_region 12 with fail
          go_quiet (fail)
          have hfin := jload_fin (w := w) (ahead := ahead) HN.out Hbase.out hs0 hs1 (HR.out.below (below_drewN (Below.refl _ _) nq)) (HS.out.trans (JStep.below _ (below_drewN (Below.refl _ _) nq))) (by rw [Hgg.out, ← Hrp.out]; rfl) (by have := Hsl.out; simp at this; omega) Hpad.out
          clear c7 c2 ewD
          generalize wr.drewN nq = w8 at hfin ⊢
          go_wp2_with (go_at_call 104; (with_reducible refine hfin.mono ?_); rintro _ w9 ⟨rfl, hpost⟩; clear hfin)
          rw [Exit.noGoto_ret]
          go_ret
          exact ⟨rfl, hpost⟩
        | succ f =>
          have e2 : decide (seq < base + (i : Int)) = true := by simp; omega
          go_upto_region 12 with fail
          go_quiet (fail)
          go_upto_region 14 with fail
          have HR2 := Lib.hid (HR.out.below (below_drewN (Below.refl _ _) nq))
          have HS2 : Hid (JStep w (wr.drewN nq) A { A with vs := vs' }) := Lib.hid (HS.out.trans (JStep.below _ (below_drewN (Below.refl _ _) nq)))
          clear HR HS c7 c2 ewD e2
          generalize wr.drewN nq = wr at HR2 HS2 ⊢
          have hq2 : 0 ≤ seq := by omega
          have Hkr : Hid (0 ≤ ringSec r.at_ (i : Int) seq ∧ ringSec r.at_ (i : Int) seq < d.size) := Lib.hid (by
            have hm0 : 0 ≤ seq % (i : Int) := Int.emod_nonneg _ (by omega)
            have hm1 : seq % (i : Int) < (i : Int) := Int.emod_lt_of_pos _ (by omega)
            unfold ringSec; omega)
          have hse := fun W => rsector_any (w := W) (q := some ⟨A.p, 0, none⟩) (at_ := r.at_) (n := (i : Int)) (seq := seq) h0 ha2 (by omega) (by omega) hq2
          obtain ⟨kk, hkk⟩ : ∃ kk, ringSec r.at_ (i : Int) seq = kk := ⟨_, rfl⟩
          have Hkk := Lib.hid hkk
          rw [hkk] at hse Hkr
          have HC : Hid (∀ W, Below wr.heap.size wr W → W.cell? ⟨A.j, 0, none⟩ = some (.pointer (some ⟨A.p, 0, none⟩)) ∧ W.cell? ⟨A.j, 1, none⟩ = some (.int .i64 r.at_) ∧ W.cell? ⟨A.j, 2, none⟩ = some (.int .i64 i)) := Lib.hid (fun W hB => (HR2.out.below hB).c3 (A := { A with vs := vs' }) HN.out)
          have hrd : ∀ W, Below wr.heap.size wr W → Calls Try.prog 102 #[.agg #[.pointer (some ⟨A.p, 0, none⟩), .int .i64 r.at_, .int .i64 (i : Int)], .int .i64 kk] W (RReadPost (pieceRead (d.now kk)) W) := fun W hB => rread_live (at_ := r.at_) (n := (i : Int)) (k := kk) (HR2.out.below hB).db Hkr.out.1 Hkr.out.2 hdn
          have Hcl := pieceRead_len (d.now kk)
          generalize hpr : pieceRead (d.now kk) = hd at hrd Hcl
          have Hpr := Lib.hid hpr
          have Hrd := Lib.hid hrd
          clear hpr hkk hrd
          have B1 : Hid (Below wr.heap.size wr wr.drew) := Lib.hid (below_drew wr)
          have B2 : Hid (Below wr.heap.size wr (wr.alloc (.cells #[.int .i64 0, .int .i64 0, .int .i64 0, .slice none 0 0] 130)).drew) := Lib.hid ((Below.refl _ _).alloc (Nat.le_refl _) _).drew
          have S1 : Hid (wr.drew.cell? ⟨A.j, 0, none⟩ = some (.pointer (some ⟨A.p, 0, none⟩)) ∧ wr.drew.cell? ⟨A.j, 1, none⟩ = some (.int .i64 r.at_) ∧ wr.drew.cell? ⟨A.j, 2, none⟩ = some (.int .i64 i)) := Lib.hid (HC.out _ (B1.out))
          have S2 : Hid ((wr.alloc (.cells #[.int .i64 0, .int .i64 0, .int .i64 0, .slice none 0 0] 130)).drew.cell? ⟨A.j, 0, none⟩ = some (.pointer (some ⟨A.p, 0, none⟩)) ∧ (wr.alloc (.cells #[.int .i64 0, .int .i64 0, .int .i64 0, .slice none 0 0] 130)).drew.cell? ⟨A.j, 1, none⟩ = some (.int .i64 r.at_) ∧ (wr.alloc (.cells #[.int .i64 0, .int .i64 0, .int .i64 0, .slice none 0 0] 130)).drew.cell? ⟨A.j, 2, none⟩ = some (.int .i64 i)) := Lib.hid (HC.out _ (B2.out))
          have hse1 := hse wr.drew
          have hse2 := hse (wr.alloc (.cells #[.int .i64 0, .int .i64 0, .int .i64 0, .slice none 0 0] 130)).drew
          clear hse
          go_cut [11, 12] from 71 to 143 (fun t11 t12 wx => ∃ b q5 c5, t11 = .pointer (some ⟨b, 0, none⟩) ∧ t12 = .nilIface ∧ HeldAt wx b hd.gen hd.ahead hd.seq (.slice q5 hd.bytes.length c5) ∧ Bytes wx (.slice q5 hd.bytes.length c5) hd.bytes ∧ Below wr.heap.size wr wx ∧ wr.heap.size ≤ b)
          case first =>
            go_region_held3 (fun w' => w'.cell? ⟨A.j, 0, none⟩ = some (.pointer (some ⟨A.p, 0, none⟩)) ∧ w'.cell? ⟨A.j, 1, none⟩ = some (.int .i64 r.at_) ∧ w'.cell? ⟨A.j, 2, none⟩ = some (.int .i64 i))
              (first | (with_reducible exact S1.out) | (with_reducible exact S2.out) | (with_reducible exact S5.out) | (with_reducible exact S5z.out) | (with_reducible exact S6.out) | (with_reducible exact S6z.out) | (with_reducible exact S6f.out) | (with_reducible exact (S7.out _ _ _ _)))
              (first
                | (go_at_call 103; (with_reducible refine hse1.mono ?_); rintro _ w5 ⟨rfl, b5⟩; have B5 : Hid (Below wr.heap.size wr w5) := Lib.hid (B1.out.trans (b5.mono B1.out.size)); clear b5; have S5 : Hid (w5.cell? ⟨A.j, 0, none⟩ = some (.pointer (some ⟨A.p, 0, none⟩)) ∧ w5.cell? ⟨A.j, 1, none⟩ = some (.int .i64 r.at_) ∧ w5.cell? ⟨A.j, 2, none⟩ = some (.int .i64 i)) := Lib.hid (HC.out _ (B5.out)); have S5z : Hid ((w5.alloc (.cells #[.int .i64 0, .int .i64 0, .int .i64 0, .slice none 0 0] 130)).cell? ⟨A.j, 0, none⟩ = some (.pointer (some ⟨A.p, 0, none⟩)) ∧ (w5.alloc (.cells #[.int .i64 0, .int .i64 0, .int .i64 0, .slice none 0 0] 130)).cell? ⟨A.j, 1, none⟩ = some (.int .i64 r.at_) ∧ (w5.alloc (.cells #[.int .i64 0, .int .i64 0, .int .i64 0, .slice none 0 0] 130)).cell? ⟨A.j, 2, none⟩ = some (.int .i64 i)) := Lib.hid (HC.out _ (B5.out.alloc B5.out.size _)); have hrA := Hrd.out _ B5.out; have hrB := Hrd.out _ (B5.out.alloc B5.out.size (.cells #[.int .i64 0, .int .i64 0, .int .i64 0, .slice none 0 0] 130)))
                | (go_at_call 103; (with_reducible refine hse2.mono ?_); rintro _ w5 ⟨rfl, b5⟩; have B5 : Hid (Below wr.heap.size wr w5) := Lib.hid (B2.out.trans (b5.mono B2.out.size)); have HH5 : Hid (HeldAt w5 wr.heap.size 0 0 0 (.slice none 0 0)) := Lib.hid (HeldAt.below (HeldAt.below (w := wr.alloc _) (heap_alloc_new wr _) (below_drew _)) b5); clear b5; have S5 : Hid (w5.cell? ⟨A.j, 0, none⟩ = some (.pointer (some ⟨A.p, 0, none⟩)) ∧ w5.cell? ⟨A.j, 1, none⟩ = some (.int .i64 r.at_) ∧ w5.cell? ⟨A.j, 2, none⟩ = some (.int .i64 i)) := Lib.hid (HC.out _ (B5.out)); have hrC := Hrd.out _ B5.out)
                | (go_at_call 102; (with_reducible refine hrA.mono ?_); rintro _ w6 ⟨q6, c6, rfl, s6, b6⟩; have B6 : Hid (Below wr.heap.size wr w6) := Lib.hid (B5.out.trans (b6.mono B5.out.size)); have HY6 := Lib.hid s6; clear s6 b6; have S6 : Hid (w6.cell? ⟨A.j, 0, none⟩ = some (.pointer (some ⟨A.p, 0, none⟩)) ∧ w6.cell? ⟨A.j, 1, none⟩ = some (.int .i64 r.at_) ∧ w6.cell? ⟨A.j, 2, none⟩ = some (.int .i64 i)) := Lib.hid (HC.out _ (B6.out)); have S6z : Hid ((w6.alloc (.cells #[.int .i64 0, .int .i64 0, .int .i64 0, .slice none 0 0] 130)).cell? ⟨A.j, 0, none⟩ = some (.pointer (some ⟨A.p, 0, none⟩)) ∧ (w6.alloc (.cells #[.int .i64 0, .int .i64 0, .int .i64 0, .slice none 0 0] 130)).cell? ⟨A.j, 1, none⟩ = some (.int .i64 r.at_) ∧ (w6.alloc (.cells #[.int .i64 0, .int .i64 0, .int .i64 0, .slice none 0 0] 130)).cell? ⟨A.j, 2, none⟩ = some (.int .i64 i)) := Lib.hid (HC.out _ (B6.out.alloc B6.out.size _)); have S6f : Hid ((w6.alloc (.cells #[.int .i64 hd.gen, .int .i64 hd.ahead, .int .i64 hd.seq, .slice q6 hd.bytes.length c6] 130)).cell? ⟨A.j, 0, none⟩ = some (.pointer (some ⟨A.p, 0, none⟩)) ∧ (w6.alloc (.cells #[.int .i64 hd.gen, .int .i64 hd.ahead, .int .i64 hd.seq, .slice q6 hd.bytes.length c6] 130)).cell? ⟨A.j, 1, none⟩ = some (.int .i64 r.at_) ∧ (w6.alloc (.cells #[.int .i64 hd.gen, .int .i64 hd.ahead, .int .i64 hd.seq, .slice q6 hd.bytes.length c6] 130)).cell? ⟨A.j, 2, none⟩ = some (.int .i64 i)) := Lib.hid (HC.out _ (B6.out.alloc B6.out.size _)); clear hrA hrB)
                | (go_at_call 102; (with_reducible refine hrB.mono ?_); rintro _ w6 ⟨q6, c6, rfl, s6, b6⟩; have B6 : Hid (Below wr.heap.size wr w6) := Lib.hid ((B5.out.alloc B5.out.size (.cells #[.int .i64 0, .int .i64 0, .int .i64 0, .slice none 0 0] 130)).trans (b6.mono (B5.out.alloc B5.out.size (.cells #[.int .i64 0, .int .i64 0, .int .i64 0, .slice none 0 0] 130)).size)); have HH6 : Hid (HeldAt w6 w5.heap.size 0 0 0 (.slice none 0 0)) := Lib.hid (HeldAt.below (w := w5.alloc _) (heap_alloc_new w5 _) b6); have HY6 := Lib.hid s6; clear s6 b6; have S6 : Hid (w6.cell? ⟨A.j, 0, none⟩ = some (.pointer (some ⟨A.p, 0, none⟩)) ∧ w6.cell? ⟨A.j, 1, none⟩ = some (.int .i64 r.at_) ∧ w6.cell? ⟨A.j, 2, none⟩ = some (.int .i64 i)) := Lib.hid (HC.out _ (B6.out)); have S7 : Hid (∀ v0 v1 v2 v3, ((((w6.setCell ⟨w5.heap.size, 0, none⟩ v0).setCell ⟨w5.heap.size, 1, none⟩ v1).setCell ⟨w5.heap.size, 2, none⟩ v2).setCell ⟨w5.heap.size, 3, none⟩ v3).cell? ⟨A.j, 0, none⟩ = some (.pointer (some ⟨A.p, 0, none⟩)) ∧ ((((w6.setCell ⟨w5.heap.size, 0, none⟩ v0).setCell ⟨w5.heap.size, 1, none⟩ v1).setCell ⟨w5.heap.size, 2, none⟩ v2).setCell ⟨w5.heap.size, 3, none⟩ v3).cell? ⟨A.j, 1, none⟩ = some (.int .i64 r.at_) ∧ ((((w6.setCell ⟨w5.heap.size, 0, none⟩ v0).setCell ⟨w5.heap.size, 1, none⟩ v1).setCell ⟨w5.heap.size, 2, none⟩ v2).setCell ⟨w5.heap.size, 3, none⟩ v3).cell? ⟨A.j, 2, none⟩ = some (.int .i64 i)) := Lib.hid (fun v0 v1 v2 v3 => HC.out _ (Below.held4 B6.out (B5.out.size) v0 v1 v2 v3)); obtain ⟨z0, z1, z2, z3⟩ := HH6.out.cells4; have f0 := HH6.out.free 0; have f1 := HH6.out.free 1; have f2 := HH6.out.free 2; have f3 := HH6.out.free 3)
                | (go_at_call 102; (with_reducible refine hrC.mono ?_); rintro _ w6 ⟨q6, c6, rfl, s6, b6⟩; have B6 : Hid (Below wr.heap.size wr w6) := Lib.hid (B5.out.trans (b6.mono B5.out.size)); have HH6 : Hid (HeldAt w6 wr.heap.size 0 0 0 (.slice none 0 0)) := Lib.hid (HH5.out.below b6); have HY6 := Lib.hid s6; clear s6 b6; have S6 : Hid (w6.cell? ⟨A.j, 0, none⟩ = some (.pointer (some ⟨A.p, 0, none⟩)) ∧ w6.cell? ⟨A.j, 1, none⟩ = some (.int .i64 r.at_) ∧ w6.cell? ⟨A.j, 2, none⟩ = some (.int .i64 i)) := Lib.hid (HC.out _ (B6.out)); have S7 : Hid (∀ v0 v1 v2 v3, ((((w6.setCell ⟨wr.heap.size, 0, none⟩ v0).setCell ⟨wr.heap.size, 1, none⟩ v1).setCell ⟨wr.heap.size, 2, none⟩ v2).setCell ⟨wr.heap.size, 3, none⟩ v3).cell? ⟨A.j, 0, none⟩ = some (.pointer (some ⟨A.p, 0, none⟩)) ∧ ((((w6.setCell ⟨wr.heap.size, 0, none⟩ v0).setCell ⟨wr.heap.size, 1, none⟩ v1).setCell ⟨wr.heap.size, 2, none⟩ v2).setCell ⟨wr.heap.size, 3, none⟩ v3).cell? ⟨A.j, 1, none⟩ = some (.int .i64 r.at_) ∧ ((((w6.setCell ⟨wr.heap.size, 0, none⟩ v0).setCell ⟨wr.heap.size, 1, none⟩ v1).setCell ⟨wr.heap.size, 2, none⟩ v2).setCell ⟨wr.heap.size, 3, none⟩ v3).cell? ⟨A.j, 2, none⟩ = some (.int .i64 i)) := Lib.hid (fun v0 v1 v2 v3 => HC.out _ (Below.held4 B6.out (Nat.le_refl _) v0 v1 v2 v3)); obtain ⟨z0, z1, z2, z3⟩ := HH6.out.cells4; have f0 := HH6.out.free 0; have f1 := HH6.out.free 1; have f2 := HH6.out.free 2; have f3 := HH6.out.free 3))
            all_goals (go_wp2_with fail; go_meet)
            · exact ⟨_, q6, c6, rfl, rfl, heap_alloc_new w6 _, HY6.out.below ((Below.refl _ _).alloc (Nat.le_refl _) _), B6.out.alloc B6.out.size _, B6.out.size⟩
            · refine ⟨_, q6, c6, rfl, rfl, ?_, HY6.out.kept (S := (· = w5.heap.size)) (Keeps.held4 w6 w5.heap.size _ _ _ _) (fun _ _ hc e => HH6.out.no_byte hc e), Below.held4 B6.out B5.out.size _ _ _ _, B5.out.size⟩
              unfold HeldAt
              rw [heap_setCell _ _ _ _ _ _ _ (heap_setCell _ _ _ _ _ _ _ (heap_setCell _ _ _ _ _ _ _ (heap_setCell _ _ _ _ _ _ _ HH6.out)))]
              rfl
            · refine ⟨_, q6, c6, rfl, rfl, ?_, HY6.out.kept (S := (· = wr.heap.size)) (Keeps.held4 w6 wr.heap.size _ _ _ _) (fun _ _ hc e => HH6.out.no_byte hc e), Below.held4 B6.out (Nat.le_refl _) _ _ _ _, Nat.le_refl _⟩
              unfold HeldAt
              rw [heap_setCell _ _ _ _ _ _ _ (heap_setCell _ _ _ _ _ _ _ (heap_setCell _ _ _ _ _ _ _ (heap_setCell _ _ _ _ _ _ _ HH6.out)))]
              rfl
          case rest =>
            obtain ⟨b, q5, c5, rfl, rfl, hh, hy, hb, hbb⟩ := hcut
            have Hvb : Hid (vs'.ownBlock ≠ some b ∧ b ≠ A.j) := Lib.hid (by have h := HR2.out.at_.new HR2.out.db.lay hbb; exact ⟨h.2.2.2.2.1, h.2.2.1⟩)
            clear hbb
            have HH := Lib.hid hh
            have HY := Lib.hid hy
            have HR6 := Lib.hid (HR2.out.below hb)
            have HS6 : Hid (JStep w wc A { A with vs := vs' }) := Lib.hid (HS2.out.trans (JStep.below _ hb))
            clear hh hy hb hse1 hse2 HR2 HS2 HC Hrd B1 B2 S1 S2
            generalize wc = wr at HH HY HR6 HS6 ⊢
            have kc5 : wr.cell? ⟨A.j, 5, none⟩ = some (.map (some A.mg)) := HR6.out.at_.cells.c5
            obtain ⟨z0, z1, z2, z3⟩ := HH.out.cells4
            have hlk : ∀ n, (Instr.lookup 91 (.map (some A.mg)) (.int .i64 (seq - 1)) false).run Try.prog (wr.drewN n) = .ok (.int .i64 (g (seq - 1))) (wr.drewN n) := fun n => (HR6.out.below (below_drewN (Below.refl _ _) n)).look (seq - 1)
            have ewS : IntKind.i64.wrap (seq - 1) = seq - 1 := by rw [IntKind.wrap_i64]; omega
            by_cases k1 : hd.gen = 0
            · have e1 : (hd.gen == 0) = true := by simp [k1]
              have K1 := Lib.hid k1
              clear k1
              go_upto_region 17 with fail
              go_quiet (fail)
              have hfin := jload_fin (w := w) (ahead := ahead) HN.out Hbase.out hs0 hs1 (HR6.out.below (below_drewN (Below.refl _ _) nq)) (HS6.out.trans (JStep.below _ (below_drewN (Below.refl _ _) nq))) (by rw [Hgg.out, ← Hrp.out, rdPieces, if_pos (by omega), Hkk.out, Hpr.out, if_pos (.inl K1.out)]) (by have h1 := Hsl.out; have h2 : (i - (f + 1)) * 470 ≤ 2048 * 470 := Nat.mul_le_mul_right _ (by omega); omega) Hpad.out
              clear kc5 hlk z0 z1 z2 z3
              generalize wr.drewN nq = w8 at hfin ⊢
              go_wp2_with (go_at_call 104; (with_reducible refine hfin.mono ?_); rintro _ w9 ⟨rfl, hpost⟩; clear hfin)
              rw [Exit.noGoto_ret]
              go_ret
              exact ⟨rfl, hpost⟩
            · have e1 : (hd.gen == 0) = false := by simp [k1]
              have K1 := Lib.hid k1
              clear k1
              by_cases k2 : hd.seq ≠ seq
              · have e2 : (hd.seq != seq) = true := by simp [k2]
                have K2 := Lib.hid k2
                clear k2
                go_upto_region 17 with fail
                go_quiet (fail)
                have hfin := jload_fin (w := w) (ahead := ahead) HN.out Hbase.out hs0 hs1 (HR6.out.below (below_drewN (Below.refl _ _) nq)) (HS6.out.trans (JStep.below _ (below_drewN (Below.refl _ _) nq))) (by rw [Hgg.out, ← Hrp.out, rdPieces, if_pos (by omega), Hkk.out, Hpr.out, if_pos (.inr (.inl K2.out))]) (by have h1 := Hsl.out; have h2 : (i - (f + 1)) * 470 ≤ 2048 * 470 := Nat.mul_le_mul_right _ (by omega); omega) Hpad.out
                clear kc5 hlk z0 z1 z2 z3
                generalize wr.drewN nq = w8 at hfin ⊢
                go_wp2_with (go_at_call 104; (with_reducible refine hfin.mono ?_); rintro _ w9 ⟨rfl, hpost⟩; clear hfin)
                rw [Exit.noGoto_ret]
                go_ret
                exact ⟨rfl, hpost⟩
              · have e2 : (hd.seq != seq) = false := by simpa using k2
                have K2 := Lib.hid k2
                clear k2
                by_cases k3 : hd.ahead ≠ g (seq - 1)
                · have e3 : (hd.ahead != g (seq - 1)) = true := by simp [k3]
                  have K3 := Lib.hid k3
                  clear k3
                  go_upto_region 17 with fail
                  go_quiet (fail)
                  have hfin := jload_fin (w := w) (ahead := ahead) HN.out Hbase.out hs0 hs1 (HR6.out.below (below_drewN (Below.refl _ _) nq)) (HS6.out.trans (JStep.below _ (below_drewN (Below.refl _ _) nq))) (by rw [Hgg.out, ← Hrp.out, rdPieces, if_pos (by omega), Hkk.out, Hpr.out, if_pos (.inr (.inr K3.out))]) (by have h1 := Hsl.out; have h2 : (i - (f + 1)) * 470 ≤ 2048 * 470 := Nat.mul_le_mul_right _ (by omega); omega) Hpad.out
                  clear kc5 hlk z0 z1 z2 z3
                  generalize wr.drewN nq = w8 at hfin ⊢
                  go_wp2_with (go_at_call 104; (with_reducible refine hfin.mono ?_); rintro _ w9 ⟨rfl, hpost⟩; clear hfin)
                  rw [Exit.noGoto_ret]
                  go_ret
                  exact ⟨rfl, hpost⟩
                · have e3 : (hd.ahead != g (seq - 1)) = false := by simpa using k3
                  have K3 := Lib.hid k3
                  clear k3
                  go_upto_region 17 with fail
                  go_quiet (fail)
                  have HH8 := Lib.hid (HH.out.below (below_drewN (Below.refl _ _) nq))
                  have HY8 := Lib.hid (HY.out.below (below_drewN (Below.refl _ _) nq))
                  have HR8 := Lib.hid (HR6.out.below (below_drewN (Below.refl _ _) nq))
                  have HS8 : Hid (JStep w (wr.drewN nq) A { A with vs := vs' }) := Lib.hid (HS6.out.trans (JStep.below _ (below_drewN (Below.refl _ _) nq)))
                  clear HH HY HR6 HS6 kc5 z0 z1 z2 z3 hlk e1 e2 e3
                  generalize wr.drewN nq = wr at HH8 HY8 HR8 HS8 ⊢
                  go_upto_region 18 with fail
                  refine wp_region_still_tail 7 (by kernel_rfl) (by kernel_rfl) ?_
                  simp only [List.take_succ_cons, List.take_zero, List.drop_succ_cons, List.drop_zero]
                  change wpStill _ _ wr.drew (fun a' => wpList _ _ _ _ a' wr.drew) _ _
                  have HH9 := Lib.hid (HH8.out.below (below_drew wr))
                  have HY9 := Lib.hid (HY8.out.below (below_drew wr))
                  have HR9 := Lib.hid (HR8.out.below (below_drew wr))
                  have HS9 : Hid (JStep w wr.drew A { A with vs := vs' }) := Lib.hid (HS8.out.trans (JStep.below _ (below_drew wr)))
                  clear HH8 HY8 HR8 HS8
                  generalize wr.drew = wr at HH9 HY9 HR9 HS9 ⊢
                  have kc5 : wr.cell? ⟨A.j, 5, none⟩ = some (.map (some A.mg)) := HR9.out.at_.cells.c5
                  obtain ⟨z0, z1, z2, z3⟩ := HH9.out.cells4
                  obtain ⟨lg, a1, a2⟩ := HR9.out.at_.gens
                  obtain ⟨w10, hu1, hu2, hu3, hu4⟩ := run_mapUpdate_im (P := Try.prog) Try.underlying91 Try.underlying3 a1 seq (.int .i64 hd.gen)
                  have HR10 : Hid (RB w0 w10 { A with vs := vs' } d { r with base := base, gens := setG g seq hd.gen, gen := genTo d r.at_ i, stream := st } c) := Lib.hid (by
                    have := HR9.out.gens (l := aput lg seq hd.gen) (g := setG g seq hd.gen) (by rw [← enc_put]; exact hu2) (fun k => by
                      rw [aget_aput]
                      unfold setG
                      split
                      · rfl
                      · exact a2 k) hu3
                    exact this)
                  have HS10 : Hid (JStep w w10 A { A with vs := vs' }) := Lib.hid (HS9.out.trans (JStep.gens (A := { A with vs := vs' }) hu3))
                  have HH10 := Lib.hid (HH9.out.map a1 hu3)
                  have HY10 := Lib.hid (HY9.out.map a1 hu3)
                  clear a1 a2 HR9 HS9 HY9
                  repeat still_step
                  refine wpStill_nil ?_
                  go_upto_region 19 with fail
                  obtain ⟨i8, hi8, hz8, hz81, hz82⟩ := info_parts info8
                  obtain ⟨qs, cs, es, hs1, hs2⟩ := HR10.out.at_.stream.form
                  rw [bytesV_len] at es hs1
                  have es' : vs' = .slice qs st.length cs := es
                  subst es'
                  have hst6 : SubRow w10.drew w0.heap.size (.slice qs st.length cs) (bytesV st) := HR10.out.at_.stream.below (below_drew _)
                  have hsrc6 := (HY10.out.below (below_drew w10)).src
                  have k6 : w10.drew.cell? ⟨A.j, 6, none⟩ = some (.slice qs st.length cs) := HR10.out.at_.cells.c6
                  have z3 := (HH10.out.below (below_drew w10)).cells4.2.2.2
                  have Hl6 : Hid (st.length ≤ 1000000) := Lib.hid (by have h1 := Hsl.out; have h2 : (i - (f + 1)) * 470 ≤ 2048 * 470 := Nat.mul_le_mul_right _ (by omega); omega)
                  have HszB : Hid (w0.heap.size ≤ w10.heap.size) := Lib.hid HR10.out.db.bel.size
                  clear es hs1 hs2
                  go_region_law (first
                    | (refine step_append_sub (by rfl) _ _ _ (by rfl) 5 i8 (.int .u8 0) 1 Try.underlying39 hi8 hz8 hz81 hz82 (by rfl) w0.heap.size _ _ (by rfl) hst6 _ (by rfl) (bytesV hd.bytes) hsrc6 (by rw [bytesV_len, bytesV_len]; have := Hl6.out; unfold maxLen; omega) (by rw [bytesV_len, bytesV_len]; have := Hl6.out; omega) (by have := HszB.out; exact this) ?_; rw [bytesV_len, bytesV_len]; intro q7 c7 w7 s7 k7' n7;
                        have HK7 : Hid (Keeps (fun k => (Value.slice qs st.length cs).ownBlock = some k) w10 w7) := Lib.hid ((Keeps.of_below (below_drew w10)).trans k7');
                        have h7 := HK7.out.at HR10.out.at_.self (fun e => (HR10.out.at_.aps _ e).2.2.1 rfl); have H7 := Lib.hid h7;
                        have k11 := cell_in (o := 6) (u := .slice qs st.length cs) h7 rfl; have f8 := free_in (o := 6) h7; clear h7 k7'))
                  all_goals
                    obtain ⟨L, hL⟩ : ∃ L, st.length + hd.bytes.length = L := ⟨_, rfl⟩
                    have HL := Lib.hid hL
                    rw [hL] at s7 n7 ⊢
                    clear hL
                    have kp6 : Keeps (· = A.j) w7 (w7.setCell ⟨A.j, 6, none⟩ (.slice q7 L c7)) := Keeps.cellAt (S := (· = A.j)) rfl _
                    have hn7 : ∀ k, (Value.slice q7 L c7).ownBlock = some k → (Value.slice qs st.length cs).ownBlock = some k ∨ w10.heap.size ≤ k := fun k e => by
                      rcases n7 with e' | e'
                      · exact .inl (e'.symm.trans e)
                      · right; rw [e] at e'; have h1 := Option.some.inj e'; have h2 : w10.drew.heap.size = w10.heap.size := rfl; omega
                    have hK18 : Keeps (fun k => k = A.j ∨ (Value.slice qs st.length cs).ownBlock = some k) w10 (w7.setCell ⟨A.j, 6, none⟩ (.slice q7 L c7)) := (HK7.out.mono (fun _ _ e => .inr e)).trans (kp6.mono (fun _ _ e => .inl e))
                    have hnj : ∀ k, (Value.slice q7 L c7).ownBlock = some k → ¬ k = A.j := fun k e e' => by
                      rcases hn7 k e with e2 | e2
                      · exact (HR10.out.at_.aps k e2).2.2.1 e'
                      · exact (HR10.out.at_.new HR10.out.db.lay e2).2.2.1 e'
                    have HR11 : Hid (RB w0 (w7.setCell ⟨A.j, 6, none⟩ (.slice q7 L c7)) { A with vs := .slice q7 L c7 } d { r with base := base, gens := setG g seq hd.gen, gen := genTo d r.at_ i, stream := st ++ hd.bytes } c) := Lib.hid (by
                      refine HR10.out.upd (m' := { r with base := base, gens := setG g seq hd.gen, gen := genTo d r.at_ i, stream := st ++ hd.bytes }) hK18 (fun k e => by rcases e with e | e; exact .inl e; exact .inr (.inl e)) (.slice q7 L c7) A.va (by rw [heap_setCell _ _ _ _ _ _ _ H7.out]; rfl) ?_ ?_ (fun k e => hn7 k e) (fun k e => .inl e) ?_ rfl rfl rfl rfl rfl
                      · have h := s7.block_keeps kp6 hnj
                        show SubRow _ _ _ (bytesV (st ++ hd.bytes))
                        unfold bytesV at h ⊢; rw [List.map_append]; exact h
                      · exact (HR10.out.at_.starts.block_keeps HK7.out (fun k e e' => (HR10.out.at_.aps k e').2.2.2.2.1 e)).block_keeps kp6 (fun k e e' => (HR10.out.at_.apa k e).2.2.1 e')
                      · intro k e e'
                        rcases hn7 k e with e2 | e2
                        · exact (HR10.out.at_.aps k e2).2.2.2.2.1 e'
                        · have := (HR10.out.at_.starts.lt k e').2; omega)
                    have HS11 : Hid (JStep w (w7.setCell ⟨A.j, 6, none⟩ (.slice q7 L c7)) A { A with vs := .slice q7 L c7 }) := Lib.hid (HS10.out.trans ⟨hK18.mono (fun k _ e => by rcases e with e | e; exact .inr (.inr (.inl e)); exact .inr (.inr (.inr (.inr (.inl e))))), fun k e => by
                      rcases e with e | e | e | e | e | e
                      · exact .inl (.inl e)
                      · exact .inl (.inr (.inl e))
                      · exact .inl (.inr (.inr (.inl e)))
                      · exact .inl (.inr (.inr (.inr (.inl e))))
                      · rcases hn7 k e with e' | e'
                        · exact .inl (.inr (.inr (.inr (.inr (.inl e')))))
                        · exact .inr e'
                      · exact .inl (.inr (.inr (.inr (.inr (.inr e)))))⟩)
                    have HH11 : Hid (HeldAt (w7.setCell ⟨A.j, 6, none⟩ (.slice q7 L c7)) b hd.gen hd.ahead hd.seq (.slice q5 hd.bytes.length c5)) := Lib.hid (hK18.at HH10.out (fun e => by rcases e with e | e; exact Hvb.out.2 e; exact Hvb.out.1 e))
                    have Hsl2 : Hid ((st ++ hd.bytes).length ≤ (i - f) * 470 ∧ (st ++ hd.bytes).length ≤ 2000000) := Lib.hid (by
                      have h1 := Hsl.out
                      have h3 := Hl6.out
                      rw [List.length_append]
                      refine ⟨?_, by omega⟩
                      have h2 : (i - f) * 470 = (i - (f + 1)) * 470 + 470 := by
                        rw [show i - f = (i - (f + 1)) + 1 from by omega, Nat.add_mul]
                      omega)
                    clear k6 k11 f8 hst6 hsrc6 z3 kp6 hn7 hK18 hnj s7 n7 HK7 H7 HR10 HS10 HH10 HY10 Hl6 HszB
                    generalize w7.setCell ⟨A.j, 6, none⟩ (.slice q7 L c7) = w8 at HR11 HS11 HH11 ⊢
                    obtain ⟨z0, z1, z2, z3⟩ := HH11.out.cells4
                    have Hst : Hid (rdPieces d r.at_ (i : Int) base (f + 1) seq g st = if hd.bytes.length < 470 then (setG g seq hd.gen, st ++ hd.bytes) else rdPieces d r.at_ (i : Int) base f (seq + 1) (setG g seq hd.gen) (st ++ hd.bytes)) := Lib.hid (by
                      rw [rdPieces, if_pos (by omega), Hkk.out, Hpr.out, if_neg (by intro hh; rcases hh with hh | hh | hh; exact K1.out hh; exact K2.out hh; exact K3.out hh)])
                    by_cases k4 : hd.bytes.length < 470
                    · have e4 : decide ((hd.bytes.length : Int) < 470) = true := by simp; omega
                      have hfin := jload_fin (w := w) (ahead := ahead) HN.out Hbase.out hs0 hs1 HR11.out HS11.out (by rw [Hgg.out, ← Hrp.out, Hst.out, if_pos k4]) Hsl2.out.2 Hpad.out
                      clear k4
                      go_wp2_with (go_at_call 104; (with_reducible refine hfin.mono ?_); rintro _ w9 ⟨rfl, hpost⟩; clear hfin)
                      rw [Exit.noGoto_ret]
                      go_ret
                      exact ⟨rfl, hpost⟩
                    · have e4 : decide ((hd.bytes.length : Int) < 470) = false := by simp; omega
                      have Hst2 : Hid (rdPieces d r.at_ (i : Int) base f (seq + 1) (setG g seq hd.gen) (st ++ hd.bytes) = G) := Lib.hid (by rw [← Hrp.out, Hst.out, if_neg k4])
                      clear k4
                      go_wp2
                      go_roundw
                      case rel => exact ⟨_, f, _, _, _, rfl, by omega, by omega, Hsl2.out.1, Hst2.out, HR11.out, HS11.out⟩
                      case measure => simp [intOf]; omega
end
end Go.Proofs.Ytbaphjnglkocpaa
