import Derived.Test.YtbaphjnglkocpaaJournG
import Derived.Deep.CutRange
/-
  The journal: Flush.
-/
namespace Go.Proofs.Ytbaphjnglkocpaa
open Go.RowKit
def JM.setGens (m : JM) (g : Int → Int) : JM := { m with gens := g }
def JM.kill (m : JM) : JM := { m with dead := true }
def JM.piece (m : JM) (seq : Int) : List UInt8 := (m.stream.drop ((seq - m.base) * 470).toNat).take 470
/-- the pieces from one on are written; an error's number, the device, who wrote which piece -/
def JM.fl (m : JM) : Nat → Dev → (Int → Int) → Int → Int × Dev × (Int → Int)
  | 0, d, g, _ => (0, d, g)
  | f + 1, d, g, seq =>
    if seq * 470 < m.fin then
      if (d.write (ringSec m.at_ m.n seq) (pieceB m.gen (g (seq - 1)) seq (m.piece seq))).1 ≠ 0 then
        ((d.write (ringSec m.at_ m.n seq) (pieceB m.gen (g (seq - 1)) seq (m.piece seq))).1, (d.write (ringSec m.at_ m.n seq) (pieceB m.gen (g (seq - 1)) seq (m.piece seq))).2, g)
      else JM.fl m f (d.write (ringSec m.at_ m.n seq) (pieceB m.gen (g (seq - 1)) seq (m.piece seq))).2 (fun k => if k = seq then m.gen else g k) (seq + 1)
    else (0, d, g)
def JM.seq0 (m : JM) : Int := (m.start + (recsB (m.recs.take m.flushed)).length) / 470
def flushEnd (m : JM) (r : Int × Dev × (Int → Int)) : Int × Dev × JM :=
  if r.1 ≠ 0 then (r.1, r.2.1, (m.setGens r.2.2).kill)
  else if r.2.1.sync.1 ≠ 0 then (r.2.1.sync.1, r.2.1.sync.2, (m.setGens r.2.2).kill)
  else (0, r.2.1.sync.2, { m with gens := r.2.2, flushed := m.recs.length })
/-- what a Flush does -/
def JM.flush (m : JM) (d : Dev) : Int × Dev × JM :=
  if m.dead then (3, d, m)
  else if m.flushed = m.recs.length then (if d.down then (3, d, m.kill) else (0, d, m))
  else flushEnd m (m.fl 3000 d m.gens m.seq0)
def FlushPost (w0 w : World) (A : JAd) (c : Nat) (x : Int × Dev × JM) (e : Ending) (w' : World) : Prop :=
  e = .returned (errV x.1) ∧ JB w0 w' A x.2.1 x.2.2 c ∧ JStep w w' A A
theorem JM.Ok.kill {m : JM} {d : Dev} {c : Nat} (h : m.Ok d c) : m.kill.Ok d c := { h with }
theorem JM.Ok.size {m : JM} {d d' : Dev} {c : Nat} (h : m.Ok d c) (e : d'.size = d.size) : m.Ok d' c := { h with a2 := by rw [e]; exact h.a2 }
theorem JM.Ok.setGens {m : JM} {d : Dev} {c : Nat} (h : m.Ok d c) (g : Int → Int) (hg : ∀ k, 0 ≤ g k ∧ g k ≤ (c : Int) + 1) : (m.setGens g).Ok d c := { h with gs := hg }
theorem write_size (d : Dev) (k : Int) (v : List UInt8) : (d.write k v).2.size = d.size := by
  unfold Dev.write
  split
  · rfl
  · split
    · rfl
    · split
      · show d.step.2.size = d.size; exact step_size d
      · exact step_size d
theorem sync_size (d : Dev) : d.sync.2.size = d.size := by
  unfold Dev.sync
  split
  · show d.step.2.size = d.size; exact step_size d
  · exact step_size d
section
variable {w0 w w' : World} {A : JAd} {m : JM} {d d' : Dev} {c c' : Nat}
theorem JB.dev (h : JB w0 w A d m c) (hd : DB w0 w' A.p A.mn A.ms A.mc d' c') (hc : c ≤ c') (hk : Keeps (DFoot A.p A.mn A.ms A.mc) w w') (hs : d'.size = d.size) : JB w0 w' A d' m c' :=
  ⟨hd, h.at_.dev h.db.lay hk, (h.ok.size hs).more hc⟩
theorem JStep.dev (h : Keeps (DFoot A.p A.mn A.ms A.mc) w w') : JStep w w' A A := ⟨h.mono (fun _ _ e => .inl e), fun _ e => .inl e⟩
theorem JB.gens (h : JB w0 w A d m c) {l : List (Int × Int)} {g : Int → Int} (hm : IMap w' A.mg (enc (fun n => .int .i64 n) l)) (hl : ∀ k, (aget l k).getD 0 = g k) (hk : Keeps (· = A.mg) w w') (hg : ∀ k, 0 ≤ g k ∧ g k ≤ (c : Int) + 1) : JB w0 w' A d (m.setGens g) c := by
  have ha := h.at_
  refine ⟨h.db.other hk (fun k hf e => ha.apg (e ▸ hf)) (fun k e => e ▸ ha.log), ⟨?_, ?_, ⟨l, hm, hl⟩, ?_, ?_, ?_, ha.los, ha.loj, ha.log, ha.apg, ha.aps, ha.apa⟩, h.ok.setGens g hg⟩
  · exact ha.slot.keeps hk (fun e => ha.sg e)
  · exact hk.at ha.self (fun e => ha.jg e)
  · exact ha.stream.block_keeps hk (fun k e e' => (ha.aps k e).2.2.2.1 e')
  · exact ha.starts.block_keeps hk (fun k e e' => (ha.apa k e).2.2.2.1 e')
  · exact ha.note.keeps' hk (fun hn k e e' => (ha.notej hn k e).2.2 e')
theorem JStep.gens (h : Keeps (· = A.mg) w w') : JStep w w' A A := ⟨h.mono (fun _ _ e => .inr (.inr (.inr (.inl e)))), fun _ e => .inl e⟩
theorem jfail_any (h : JB w0 w A d m c) (x : Int) :
    Calls Try.prog 54 #[.pointer (some ⟨A.j, 0, none⟩), errV x] w fun e w' => e = .returned (errV x) ∧ JB w0 w' A d (if x = 0 then m else m.kill) c ∧ JStep w w' A A := by
  have H := Lib.hid h
  have c13 := h.at_.cells.c13
  have fz := h.at_.free 13
  clear h
  by_cases hx : x = 0
  · subst hx
    rw [errV_zero, if_pos rfl]
    go_enter Try.func54, Try.ntmps54
    go_wp2
    go_ret
    exact ⟨rfl, H.out, JStep.refl _ _⟩
  · rw [errV_pos hx, if_neg hx]
    go_enter Try.func54, Try.ntmps54
    go_wp2
    go_ret
    exact ⟨rfl, H.out.updCell (m' := m.kill) (Nat.le_refl _) 13 _ rfl rfl rfl rfl rfl rfl rfl rfl H.out.ok.kill, Keeps.cellAt (S := A.Foot) (.inr (.inr (.inl rfl))) _, fun _ e => .inl e⟩
theorem jpower_any (h : JB w0 w A d m c) :
    Calls Try.prog 76 #[.pointer (some ⟨A.j, 0, none⟩)] w fun e w' => e = .returned (errV (if d.down then 3 else 0)) ∧ w = w' := by
  have hm := makeErr 3
  have c0 := h.at_.cells.c0
  have hd := down_db h.db
  clear h
  cases hdn : d.down with
  | true =>
    rw [hdn] at hd
    rw [if_pos rfl, errV_pos (by decide)]
    go_enter Try.func76, Try.ntmps76
    go_wp2_with (go_at_call 32; (with_reducible refine hd.mono ?_); rintro _ _ ⟨rfl, rfl⟩)
    go_ret
    exact ⟨rfl, rfl⟩
  | false =>
    rw [hdn] at hd
    rw [if_neg (by decide), errV_zero]
    go_enter Try.func76, Try.ntmps76
    go_wp2_with (go_at_call 32; (with_reducible refine hd.mono ?_); rintro _ _ ⟨rfl, rfl⟩)
    go_ret
    exact ⟨rfl, rfl⟩
theorem jflush_dead (h : JB w0 w A d m c) (hd : m.dead = true) : Calls Try.prog 40 #[.pointer (some ⟨A.j, 0, none⟩)] w (FlushPost w0 w A (c + 3000) (m.flush d)) := by
  have hm := makeErr 3
  have hdd := jdead_any h.at_
  rw [hd] at hdd
  have Hx : Hid (m.flush d = (3, d, m)) := Lib.hid (by unfold JM.flush; rw [if_pos hd])
  have H := Lib.hid h
  clear h hd
  go_enter Try.func40, Try.ntmps40
  go_wp2_with (go_at_call 41; (with_reducible refine hdd.mono ?_); rintro _ _ ⟨rfl, rfl⟩)
  go_ret
  rw [Hx.out]
  exact ⟨rfl, H.out.more (by omega), JStep.refl _ _⟩
theorem jflush_none (h : JB w0 w A d m c) (hcc : c ≤ 10000000) (hd : m.dead = false) (hf : m.flushed = m.recs.length) : Calls Try.prog 40 #[.pointer (some ⟨A.j, 0, none⟩)] w (FlushPost w0 w A (c + 3000) (m.flush d)) := by
  have hdd := jdead_any h.at_
  rw [hd] at hdd
  have hpw := fun w1 (b : Below w.heap.size w w1) => jpower_any (h.below b)
  have hfl := fun w1 (b : Below w.heap.size w w1) => jfail_any (h.below b) (if d.down then 3 else 0)
  have Hx : Hid (m.flush d = (if d.down then (3, d, m.kill) else (0, d, m))) := Lib.hid (by unfold JM.flush; rw [if_neg (by simp [hd]), if_pos hf])
  have c10 := h.at_.cells.c10
  have c8 := h.at_.cells.c8
  obtain ⟨q, cap, e, h1, h2⟩ := h.at_.vaForm
  rw [e] at c8
  have H := Lib.hid h
  have hlm : m.recs.length ≤ 100000000 := by have := h.ok.f2; have := h.ok.f1; unfold JM.next at *; omega
  rw [hf] at c10
  clear h hd e
  go_enter Try.func40, Try.ntmps40
  go_wp2_with (go_at_call 41; (with_reducible refine hdd.mono ?_); rintro _ _ ⟨rfl, rfl⟩)
  go_quiet (fail)
  have B1 : Hid (Below w.heap.size w (w.drewN nq)) := Lib.hid (below_drewN (Below.refl _ _) nq)
  clear c10 c8
  generalize w.drewN nq = w1 at B1 ⊢
  have hp1 := hpw w1 B1.out
  have hf1 := hfl w1 B1.out
  clear hpw hfl
  by_cases hz : d.down = true
  · rw [if_pos hz] at Hx hp1 hf1
    rw [errV_pos (by decide)] at hp1 hf1
    go_wp2_with (first | (go_at_call 76; (with_reducible refine hp1.mono ?_); rintro _ _ ⟨rfl, rfl⟩) | (go_at_call 54; (with_reducible refine hf1.mono ?_); rintro _ w2 ⟨rfl, h2, s2⟩))
    go_ret
    rw [Hx.out]
    exact ⟨rfl, h2.more (by omega), (JStep.below A B1.out).trans s2⟩
  · rw [if_neg hz] at Hx hp1 hf1
    rw [errV_zero] at hp1 hf1
    go_wp2_with (first | (go_at_call 76; (with_reducible refine hp1.mono ?_); rintro _ _ ⟨rfl, rfl⟩) | (go_at_call 54; (with_reducible refine hf1.mono ?_); rintro _ w2 ⟨rfl, h2, s2⟩))
    go_ret
    rw [Hx.out]
    exact ⟨rfl, h2.more (by omega), (JStep.below A B1.out).trans s2⟩
theorem JM.seq0_ge (m : JM) : m.base ≤ m.seq0 := by
  unfold JM.seq0 JM.start; omega
theorem JB.look (h : JB w0 w A d m c) (k : Int) : (Instr.lookup 91 (.map (some A.mg)) (.int .i64 k) false).run Try.prog w = .ok (.int .i64 (m.gens k)) w := by
  obtain ⟨l, a1, a2⟩ := h.at_.gens
  have hr := run_lookup_im (P := Try.prog) (E := 3) Try.underlying91 Try.underlying3 a1 (.int .i64 0) (by kernel_rfl) k false
  rw [hr, enc_get]
  have := a2 k
  cases hx : aget l k with
  | none => rw [hx] at this; simp at this ⊢; exact this
  | some x => rw [hx] at this; simp at this ⊢; exact this
def FlS (A : JAd) (gen ahead key : Int) (vs : Value) (w' : World) : Prop :=
  w'.cell? ⟨A.j, 4, none⟩ = some (.int .i64 gen) ∧ w'.cell? ⟨A.j, 5, none⟩ = some (.map (some A.mg)) ∧ w'.cell? ⟨A.j, 6, none⟩ = some vs ∧ (Instr.lookup 91 (.map (some A.mg)) (.int .i64 key) false).run Try.prog w' = .ok (.int .i64 ahead) w'
theorem JB.flS (h : JB w0 w A d m c) (key : Int) {vs : Value} (e : A.vs = vs) : FlS A m.gen (m.gens key) key vs w :=
  ⟨h.at_.cells.c4, h.at_.cells.c5, by rw [← e]; exact h.at_.cells.c6, h.look key⟩
set_option maxRecDepth 100000 in
set_option maxHeartbeats 2000000 in
theorem jflush_go (h : JB w0 w A d m c) (hcc : c ≤ 10000000) (hd : m.dead = false) (hf : m.flushed < m.recs.length) : Calls Try.prog 40 #[.pointer (some ⟨A.j, 0, none⟩)] w (FlushPost w0 w A (c + 3000) (m.flush d)) := by
  have hdd := jdead_any h.at_
  rw [hd] at hdd
  have Hx : Hid (m.flush d = flushEnd m (m.fl 3000 d m.gens m.seq0)) := Lib.hid (by unfold JM.flush; rw [if_neg (by simp [hd]), if_neg (by omega)])
  have c10 := h.at_.cells.c10
  have c8 := h.at_.cells.c8
  obtain ⟨q, cap, e, h1, h2⟩ := h.at_.vaForm
  rw [e] at c8
  have H := Lib.hid h
  have hlm : m.recs.length ≤ 100000000 := by have := h.ok.f2; have := h.ok.f1; unfold JM.next at *; omega
  have hst := h.at_.starts
  rw [e] at hst
  rcases hst with ⟨h0, _⟩ | ⟨g, off, cap', he, _, _, _, _, _, h6⟩
  · cases h0
  obtain ⟨rfl, _, rfl⟩ : q = some ⟨g, off, none⟩ ∧ True ∧ cap = cap' := by injection he with a1 a2 a3; exact ⟨a1, trivial, a3⟩
  have hix := h6 m.flushed _ (intsV_at (startsOf_at m.start m.recs m.flushed h.ok.fl))
  have hS0 : 0 ≤ m.start + (recsB (m.recs.take m.flushed)).length := by have := h.ok.b1; unfold JM.start; omega
  have Hq : Hid ((m.start + (recsB (m.recs.take m.flushed)).length) / 470 = m.seq0) := Lib.hid rfl
  have hdv : (m.start + (recsB (m.recs.take m.flushed)).length).tdiv 470 = m.seq0 := by rw [Int.tdiv_eq_ediv_of_nonneg hS0]; exact Hq.out
  have hdv2 : (m.start + (recsB (m.recs.take m.flushed)).length) / 470 = m.seq0 := Hq.out
  have Hq0 : Hid (m.base ≤ m.seq0 ∧ m.seq0 * 470 ≤ m.fin ∧ m.fin = m.base * 470 + m.stream.length) := Lib.hid (by
    refine ⟨m.seq0_ge, ?_, rfl⟩
    unfold JM.seq0 JM.fin JM.stream JM.start
    have hl : (recsB (m.recs.take m.flushed)).length ≤ (recsB m.recs).length := by
      have := congrArg List.length (recsB_app (m.recs.take m.flushed) (m.recs.drop m.flushed))
      rw [List.take_append_drop, List.length_append] at this
      omega
    rw [List.length_append]; omega)
  have hsq0 : 0 ≤ m.seq0 := by have := Hq0.out.1; have := H.out.ok.b1; omega
  have hsq1 : m.seq0 ≤ 1000000000000 := by have := Hq0.out.2.1; have := H.out.ok.b2; omega
  have hi0 : (0 : Int) ≤ (m.flushed : Int) := by omega
  have hi1 : (m.flushed : Int) < ((m.recs.length + 1 : Nat) : Int) := by omega
  have en : ((m.flushed : Int) == (m.recs.length : Int)) = false := by simp; omega
  generalize m.start + (recsB (m.recs.take m.flushed)).length = S0 at hix hdv hdv2 hS0 Hq
  clear h hd e he h6
  go_enter Try.func40, Try.ntmps40
  go_wp2_with (go_at_call 41; (with_reducible refine hdd.mono ?_); rintro _ _ ⟨rfl, rfl⟩)
  go_quiet (fail)
  go_wp2
  have hix' : (w.drewN nq).cell? ⟨g, off + m.flushed, none⟩ = some (.int .i64 S0) := hix
  have c8' : (w.drewN nq).cell? ⟨A.j, 8, none⟩ = some (.slice (some ⟨g, off, none⟩) (m.recs.length + 1) cap) := c8
  have c10' : (w.drewN nq).cell? ⟨A.j, 10, none⟩ = some (.int .i64 m.flushed) := c10
  have B1 : Hid (Below w.heap.size w (w.drewN nq)) := Lib.hid (below_drewN (Below.refl _ _) nq)
  clear hix c8 c10
  generalize w.drewN nq = w1 at hix' c8' c10' B1 ⊢
  go_quiet (fail)
  go_wp2
  have HS1 : Hid (JStep w (w1.drewN nq) A A) := Lib.hid (JStep.below A (below_drewN B1.out nq))
  have HJ1 : Hid (JB w0 (w1.drewN nq) A d m c) := Lib.hid (H.out.below (below_drewN B1.out nq))
  have Hrm : Hid ((m.stream.length : Int) ≤ m.n * 470 ∧ m.n ≤ 2048 ∧ 2 ≤ m.n) := Lib.hid ⟨H.out.ok.room, H.out.ok.n2, H.out.ok.n1⟩
  obtain ⟨qs, cs, es, hs1, hs2⟩ := H.out.at_.vsForm
  clear hix' c8' c10' B1 hdd hdv hdv2 hS0 Hq hi0 hi1 en h1 h2
  generalize w1.drewN nq = w2 at HS1 HJ1 ⊢
  go_loopw [3] (fun o wr => ∃ (i : Nat) (g : Int → Int) (d' : Dev), o = .int .i64 (m.base + i) ∧ (m.seq0 - m.base).toNat ≤ i ∧ i ≤ 2049 ∧ JB w0 wr A d' (m.setGens g) (c + i) ∧ JStep w wr A A ∧ m.fl 3000 d m.gens m.seq0 = m.fl (3000 - (i - (m.seq0 - m.base).toNat)) d' g (m.base + i)) (fun o _ => 3000 - (intOf o - m.base).toNat)
  case atStart =>
    have h1 := Hq0.out.1
    have h2 := Hq0.out.2.1
    have h3 := Hq0.out.2.2
    have h4 := Hrm.out
    refine ⟨(m.seq0 - m.base).toNat, m.gens, d, by rw [Int.toNat_of_nonneg (by omega)]; congr 1; omega, Nat.le_refl _, by omega, HJ1.out.more (by omega), HS1.out, ?_⟩
    rw [Nat.sub_self, Int.toNat_of_nonneg (by omega)]
    congr 1; omega
  case round =>
    clear HS1 HJ1
    obtain ⟨i, g, d', rfl, hi0, hi1, hJ, hS, hfl⟩ := hrel
    have HJ := Lib.hid hJ
    have HS := Lib.hid hS
    have Hfl := Lib.hid hfl
    have Hi0 := Lib.hid hi0
    have hc6 := hJ.at_.cells.c6
    rw [es] at hc6
    have hbd : 0 ≤ m.base ∧ m.base * 470 + m.stream.length ≤ 1000000000000 := ⟨H.out.ok.b1, by have := H.out.ok.b2; unfold JM.fin at this; omega⟩
    have hb0 := hbd.1
    have hb1 : m.base ≤ 10000000000 := by omega
    have hsl : m.stream.length ≤ 1000000 := by have := Hrm.out; omega
    have hend := jend_any (w := wr) (base := m.base) (q := qs) (n := m.stream.length) (cap := cs) hJ.at_.cells.c7 hc6 hbd.1 hbd.2
    clear hJ hS hfl hi0 hc6 hbd
    by_cases hlt : (m.base + i) * 470 < m.fin
    · have Hlt := Lib.hid hlt
      rw [Hq0.out.2.2] at hlt
      have e1 : decide ((m.base + (i : Int)) * 470 < m.base * 470 + (m.stream.length : Int)) = true := by simp; omega
      have es1 : m.base + (i : Int) - m.base = i := by omega
      obtain ⟨fr, hfr⟩ : ∃ fr : Nat, (i : Int) * 470 = (fr : Int) := ⟨i * 470, by omega⟩
      have hfl1 : fr < m.stream.length := by omega
      go_upto_region 9 with (go_at_call 77; (with_reducible refine hend.mono ?_); rintro _ w3 ⟨rfl, b3⟩; have HJ3 := Lib.hid (HJ.out.below b3); have HS3 : Hid (JStep w w3 A A) := Lib.hid (HS.out.trans (JStep.below A b3)); have c7 : w3.cell? ⟨A.j, 7, none⟩ = some (.int .i64 m.base) := HJ3.out.at_.cells.c7; clear b3 hend)
      clear c7 HJ HS
      obtain ⟨sx, hsx⟩ : ∃ sx, (if cs = fr then qs else Option.map (fun x => x.add fr) qs) = sx := ⟨_, rfl⟩
      obtain ⟨pl, hpl⟩ : ∃ pl : Nat, min ((fr : Int) + 470) (m.stream.length : Int) = ((fr + pl : Nat) : Int) ∧ pl ≤ 470 ∧ fr + pl ≤ m.stream.length := ⟨min 470 (m.stream.length - fr), by omega, by omega, by omega⟩
      have hpl1 : min ((fr : Int) + 470) (m.stream.length : Int) = (fr : Int) + (pl : Int) := by omega
      have hpl2 : (fr : Int) ≤ (fr : Int) + (pl : Int) := by omega
      have hpl3 : (fr : Int) + (pl : Int) ≤ (cs : Int) := by omega
      have hpl4 : (0 : Int) ≤ (fr : Int) + (pl : Int) := by omega
      have hpl5 : ((fr : Int) + (pl : Int)).toNat - fr = pl := by omega
      have hpl6 : ((fr : Int) + (pl : Int)).toNat = fr + pl := by omega
      have hfr0 : (0 : Int) ≤ (fr : Int) := by omega
      have ew1 : IntKind.i64.wrap (m.base + (i : Int) - 1) = m.base + (i : Int) - 1 := by rw [IntKind.wrap_i64]; omega
      have ew2 : IntKind.i64.wrap ((fr : Int) + 470) = (fr : Int) + 470 := by rw [IntKind.wrap_i64]; omega
      have Hpl := Lib.hid hpl
      go_cut [5] from 37 to 97 (fun hp wx => ∃ b, hp = .pointer (some ⟨b, 0, none⟩) ∧ HeldAt wx b m.gen (g (m.base + i - 1)) (m.base + i) (.slice sx pl (cs - fr)) ∧ Below w3.heap.size w3 wx)
      case first =>
        go_region_held3 (fun w' => w'.cell? ⟨A.j, 4, none⟩ = some (.int .i64 m.gen) ∧ w'.cell? ⟨A.j, 5, none⟩ = some (.map (some A.mg)) ∧ w'.cell? ⟨A.j, 6, none⟩ = some (.slice qs m.stream.length cs) ∧ (Instr.lookup 91 (.map (some A.mg)) (.int .i64 (m.base + (i : Int) - 1)) false).run Try.prog w' = .ok (.int .i64 (g (m.base + i - 1))) w')
          (first | exact (HJ3.out.below (below_drew w3)).flS (m.base + i - 1) es | exact (HJ3.out.below ((below_drew w3).alloc (Nat.le_refl _) _)).flS (m.base + i - 1) es | exact (HJ3.out.below (Below.held4 ((below_drew w3).alloc (Nat.le_refl _) _) (Nat.le_refl _) _ _ _ _)).flS (m.base + i - 1) es)
          (first | fail)
        all_goals (go_wp2_with fail; go_meet)
        all_goals exact ⟨_, rfl, heap_alloc_new w3 _, ((Below.refl _ _).alloc (Nat.le_refl _) _).drew⟩
      case rest =>
        obtain ⟨b, rfl, hh, hb⟩ := hcut
        have HJ5 := Lib.hid ((HJ3.out.below hb).below (below_drew wc))
        have HS5 : Hid (JStep w wc.drew A A) := Lib.hid (HS3.out.trans (JStep.below A hb.drew))
        have HH5 := Lib.hid (hh.below (below_drew wc))
        clear hh hb HJ3 HS3 ew1 ew2 hpl hpl1 hpl2 hpl3 hpl4 hpl5 hpl6 hfr0
        go_upto_region 10 with fail
        refine wp_region_still_tail 5 (by kernel_rfl) (by kernel_rfl) ?_
        simp only [List.take_succ_cons, List.take_zero, List.drop_succ_cons, List.drop_zero]
        change wpStill _ _ wc.drew (fun a' => wpList _ _ _ _ a' wc.drew) _ _
        generalize wc.drew = w5 at HJ5 HS5 HH5 ⊢
        obtain ⟨z0, z1, z2, z3⟩ := HH5.out.cells4
        have c0 := HJ5.out.at_.cells.c0
        have c1 : w5.cell? ⟨A.j, 1, none⟩ = some (.int .i64 m.at_) := HJ5.out.at_.cells.c1
        have c2 : w5.cell? ⟨A.j, 2, none⟩ = some (.int .i64 m.n) := HJ5.out.at_.cells.c2
        obtain ⟨l, hl, hll⟩ : ∃ l, m.piece (m.base + i) = l ∧ l.length = pl := ⟨_, rfl, by
          unfold JM.piece; rw [List.length_take, List.length_drop, show ((m.base + (i : Int) - m.base) * 470).toNat = fr from by rw [es1, hfr]; rfl]; have := Hpl.out; omega⟩
        have hlB : Bytes w5 (.slice sx l.length (cs - fr)) l := by
          have h1 := Bytes.of_sub HJ5.out.at_.stream
          rw [es] at h1
          have h2 := h1.sub fr pl (by have := Hpl.out; show fr + pl ≤ m.stream.length; omega)
          rw [hsx] at h2
          rw [hll, ← hl]
          unfold JM.piece
          rw [show ((m.base + (i : Int) - m.base) * 470).toNat = fr from by rw [es1, hfr]; rfl]
          have e : (m.stream.drop fr).take pl = (m.stream.drop fr).take 470 := by
            rw [List.take_eq_take_iff, List.length_drop]; have := Hpl.out; omega
          rw [← e]; exact h2
        have hwr := rwrite_any (at_ := m.at_) (n := m.n) (seq := m.base + i) (gen := m.gen) (ahead := g (m.base + i - 1)) (l := l) (q := sx) (cap := cs - fr) HJ5.out.db (by omega) (HJ5.out.ok.a1) (by have := HJ5.out.ok.a2; have := HJ5.out.db.ok.z2; have := HJ5.out.ok.n1; show m.at_ ≤ 4096; simp only [JM.setGens] at *; omega) Hrm.out.2.2 Hrm.out.2.1 (by omega) (by have := HJ5.out.ok.g1; have := HJ5.out.ok.g2; simp only [JM.setGens] at *; unfold int64; omega) (by have := HJ5.out.ok.gs (m.base + i - 1); simp only [JM.setGens] at *; unfold int64; omega) (by unfold int64; omega) hlB (by rw [hll]; exact Hpl.out.2.1)
        rw [hll] at hwr
        rw [← hl] at hwr
        have Hs5 : Hid (∀ D, (d'.write (ringSec m.at_ m.n (m.base + i)) D).2.size = d'.size) := Lib.hid (fun D => write_size _ _ _)
        repeat still_step
        refine wpStill_nil ?_
        generalize hr : d'.write (ringSec m.at_ m.n (m.base + i)) (pieceB m.gen (g (m.base + i - 1)) (m.base + i) (m.piece (m.base + i))) = r at hwr
        have Hr := Lib.hid hr
        go_upto_region 11 with (go_at_call 78; (with_reducible refine hwr.mono ?_); rintro _ w6 ⟨rfl, h6, k6⟩; clear hwr)
        have HJ6 : Hid (JB w0 w6 A r.2 (m.setGens g) (c + i + 1)) := Lib.hid (HJ5.out.dev h6 (by omega) k6 (by rw [← Hr.out]; exact write_size _ _ _))
        have HS6 : Hid (JStep w w6 A A) := Lib.hid (HS5.out.trans (JStep.dev k6))
        have hi2 : i ≤ 2048 := by have := Hlt.out; have := Hq0.out.2.2; have := Hrm.out; omega
        have Hf1 : Hid (3000 - (i - (m.seq0 - m.base).toNat) = (2999 - (i - (m.seq0 - m.base).toNat)) + 1) := Lib.hid (by have := Hi0.out; omega)
        clear h6 k6 HJ5 HS5 HH5 z0 z1 z2 z3 c0 c1 c2 hl hll hr Hs5
        by_cases e0 : r.1 = 0
        · rw [e0, errV_zero]
          have Hfl2 : Hid (m.fl 3000 d m.gens m.seq0 = m.fl (2999 - (i - (m.seq0 - m.base).toNat)) r.2 (fun k => if k = m.base + i then m.gen else g k) (m.base + i + 1)) := Lib.hid (by
            rw [Hfl.out, Hf1.out, JM.fl, if_pos Hlt.out, Hr.out, if_neg (by simp [e0])])
          go_upto_region 13 with fail
          refine wp_region_still_tail 9 (by kernel_rfl) (by kernel_rfl) ?_
          simp only [List.take_succ_cons, List.take_zero, List.drop_succ_cons, List.drop_zero]
          change wpStill _ _ w6.drew (fun a' => wpList _ _ _ _ a' w6.drew) _ _
          have HJ7 := Lib.hid (HJ6.out.below (below_drew w6))
          have HS7 : Hid (JStep w w6.drew A A) := Lib.hid (HS6.out.trans (JStep.below A (below_drew w6)))
          clear HJ6 HS6 Hfl Hr e0
          generalize w6.drew = w7 at HJ7 HS7 ⊢
          have c4 : w7.cell? ⟨A.j, 4, none⟩ = some (.int .i64 m.gen) := HJ7.out.at_.cells.c4
          have c5 := HJ7.out.at_.cells.c5
          obtain ⟨lg, a1, a2⟩ := HJ7.out.at_.gens
          obtain ⟨w8, hu1, hu2, hu3, hu4⟩ := run_mapUpdate_im (P := Try.prog) Try.underlying91 Try.underlying3 a1 (m.base + i) (.int .i64 m.gen)
          have HJ8 : Hid (JB w0 w8 A r.2 (m.setGens (fun k => if k = m.base + i then m.gen else g k)) (c + (i + 1))) := Lib.hid (by
            have := HJ7.out.gens (l := aput lg (m.base + i) m.gen) (g := fun k => if k = m.base + i then m.gen else g k) (by rw [← enc_put]; exact hu2) (fun k => by
              rw [aget_aput]
              split
              · rfl
              · exact a2 k) hu3 (fun k => by
              have h1 := HJ7.out.ok.gs k
              have h2 := HJ7.out.ok.g1
              have h3 := HJ7.out.ok.g2
              simp only [JM.setGens] at h1 h2 h3
              split <;> omega)
            exact this)
          have HS8 : Hid (JStep w w8 A A) := Lib.hid (HS7.out.trans (JStep.gens hu3))
          clear a1 a2 hu2 hu3 hu4 HJ7 HS7
          repeat still_step
          refine wpStill_nil ?_
          go_wp2
          go_roundw
          case rel =>
            exact ⟨i + 1, _, _, by go_num, by have := Hi0.out; omega, by omega, HJ8.out, HS8.out, by rw [Hfl2.out]; congr 1 <;> (have := Hi0.out; omega)⟩
          case measure => simp [intOf]; omega
        · rw [errV_pos e0]
          have hfl := jfail_any HJ6.out r.1
          rw [errV_pos e0, if_neg e0] at hfl
          have Hx2 : Hid (m.flush d = (r.1, r.2, (m.setGens g).kill)) := Lib.hid (by
            rw [Hx.out, Hfl.out, Hf1.out, JM.fl, if_pos Hlt.out, Hr.out, if_pos e0]
            unfold flushEnd
            rw [if_pos e0])
          have He := Lib.hid e0
          clear Hr e0
          go_wp2_with (go_at_call 54; (with_reducible refine hfl.mono ?_); rintro _ w7 ⟨rfl, h7, s7⟩)
          go_ret
          rw [Hx2.out]
          exact ⟨by rw [errV_pos He.out]; rfl, h7.more (by omega), HS6.out.trans s7⟩
    · have Hlt := Lib.hid hlt
      rw [Hq0.out.2.2] at hlt
      have e1 : decide ((m.base + (i : Int)) * 470 < m.base * 470 + (m.stream.length : Int)) = false := by simp; omega
      have Hx2 : Hid (m.flush d = flushEnd m (0, d', g)) := Lib.hid (by
        rw [Hx.out, Hfl.out]
        have hf1 : 3000 - (i - (m.seq0 - m.base).toNat) = (2999 - (i - (m.seq0 - m.base).toNat)) + 1 := by have := Hi0.out; omega
        rw [hf1, JM.fl, if_neg Hlt.out])
      go_upto_region 14 with (go_at_call 77; (with_reducible refine hend.mono ?_); rintro _ w3 ⟨rfl, b3⟩; have HJ3 := Lib.hid (HJ.out.below b3); have HS3 : Hid (JStep w w3 A A) := Lib.hid (HS.out.trans (JStep.below A b3)); clear b3 hend)
      clear HJ HS Hfl Hx
      have c0 := HJ3.out.at_.cells.c0
      have hsy := sync_db HJ3.out.db (by omega)
      have Hsz : Hid (d'.sync.2.size = d'.size) := Lib.hid (sync_size d')
      generalize hr : d'.sync = r at hsy Hsz
      have Hr := Lib.hid hr
      go_upto_region 15 with (go_at_call 57; (with_reducible refine hsy.mono ?_); rintro _ w6 ⟨rfl, h6, k6⟩; clear hsy)
      have HJ6 : Hid (JB w0 w6 A r.2 (m.setGens g) (c + i + 1)) := Lib.hid (HJ3.out.dev h6 (by omega) k6 Hsz.out)
      have HS6 : Hid (JStep w w6 A A) := Lib.hid (HS3.out.trans (JStep.dev k6))
      clear h6 k6 HJ3 HS3 c0 hr
      by_cases e0 : r.1 = 0
      · rw [e0, errV_zero]
        have Hx3 : Hid (m.flush d = (0, r.2, { m with gens := g, flushed := m.recs.length })) := Lib.hid (by rw [Hx2.out]; unfold flushEnd; rw [if_neg (by simp)]; show (if d'.sync.1 ≠ 0 then _ else (0, d'.sync.2, _)) = _; rw [Hr.out, if_neg (by simp [e0])])
        obtain ⟨qa, ca, ea, ha1, ha2⟩ := HJ6.out.at_.vaForm
        have c8 := HJ6.out.at_.cells.c8
        rw [ea] at c8
        have c8' : w6.cell? ⟨A.j, 8, none⟩ = some (.slice qa (m.recs.length + 1) ca) := c8
        have c10 := HJ6.out.at_.cells.c10
        have f10 := HJ6.out.at_.free 10
        clear c8 ha1 ha2 Hr e0
        go_wp2
        go_ret
        rw [Hx3.out]
        refine ⟨rfl, (HJ6.out.more (c' := c + 3000) (by omega)).updCell (m' := { m with gens := g, flushed := m.recs.length }) (Nat.le_refl _) 10 _ rfl rfl rfl rfl rfl rfl rfl rfl ?_, HS6.out.trans ⟨Keeps.cellAt (S := A.Foot) (.inr (.inr (.inl rfl))) _, fun _ e => .inl e⟩⟩
        exact { (HJ6.out.ok.more (c' := c + 3000) (by omega)) with fl := Nat.le_refl _ }
      · rw [errV_pos e0]
        have hfl := jfail_any HJ6.out r.1
        rw [errV_pos e0, if_neg e0] at hfl
        have Hx3 : Hid (m.flush d = (r.1, r.2, (m.setGens g).kill)) := Lib.hid (by rw [Hx2.out]; unfold flushEnd; rw [if_neg (by simp)]; show (if d'.sync.1 ≠ 0 then (d'.sync.1, d'.sync.2, _) else _) = _; rw [Hr.out, if_pos e0])
        have He := Lib.hid e0
        clear Hr e0
        go_wp2_with (go_at_call 54; (with_reducible refine hfl.mono ?_); rintro _ w7 ⟨rfl, h7, s7⟩)
        go_ret
        rw [Hx3.out]
        exact ⟨by rw [errV_pos He.out]; rfl, h7.more (by omega), HS6.out.trans s7⟩
theorem jflush_any (h : JB w0 w A d m c) (hcc : c ≤ 10000000) : Calls Try.prog 40 #[.pointer (some ⟨A.j, 0, none⟩)] w (FlushPost w0 w A (c + 3000) (m.flush d)) := by
  cases hd : m.dead with
  | true => exact jflush_dead h hd
  | false =>
    have := h.ok.fl
    by_cases hf : m.flushed = m.recs.length
    · exact jflush_none h hcc hd hf
    · exact jflush_go h hcc hd (by omega)
end
end Go.Proofs.Ytbaphjnglkocpaa
