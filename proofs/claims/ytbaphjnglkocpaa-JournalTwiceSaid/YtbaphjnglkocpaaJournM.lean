import Derived.Test.YtbaphjnglkocpaaJournL
import Derived.Deep.CutRange
/-
  The journal: Trim, the walk.
-/
namespace Go.Proofs.Ytbaphjnglkocpaa
open Go.RowKit
theorem Rng.sub {w : World} {it m : Nat} {l todo : IM} (h : Rng w it m l todo) {p : Int × Value} (hp : p ∈ todo) : p ∈ l := by
  obtain ⟨es, c, s, se, c0, _, _, he, _, _, _, hl⟩ := h
  have h1 : (Value.int .i64 p.1, p.2) ∈ todo.map (fun p => (Value.int .i64 p.1, p.2)) := List.mem_map.2 ⟨p, hp, rfl⟩
  rw [← hl] at h1
  obtain ⟨e, hem, hee⟩ := List.mem_map.1 h1
  have hem2 : e ∈ es.toList := by unfold leftOf at hem; simp at hem ⊢; exact hem.1
  have h2 : (Value.int .i64 p.1, p.2) ∈ l.map (fun p => (Value.int .i64 p.1, p.2)) := by rw [← he.same, ← hee]; exact List.mem_map.2 ⟨e, hem2, rfl⟩
  obtain ⟨q, hq, hqe⟩ := List.mem_map.1 h2
  obtain ⟨q1, q2⟩ := q
  obtain ⟨p1, p2⟩ := p
  simp only [Prod.mk.injEq, Value.int.injEq, true_and] at hqe
  rw [← hqe.1, ← hqe.2]; exact hq
theorem aget_adel {α : Type} (l : List (Int × α)) (k j : Int) : aget (adel l k) j = if j = k then none else aget l j := by
  unfold aget adel
  induction l with
  | nil => simp
  | cons p l ih =>
    by_cases hp : p.1 = k
    · rw [List.filter_cons_of_neg (by simp [hp]), ih]
      by_cases hj : j = k
      · rw [if_pos hj, if_pos hj]
      · rw [if_neg hj, if_neg hj, List.find?_cons_of_neg (by simp; omega)]
    · rw [List.filter_cons_of_pos (by simpa using hp)]
      by_cases hj : p.1 = j
      · rw [List.find?_cons_of_pos (by simpa using hj), List.find?_cons_of_pos (by simpa using hj), if_neg (by omega)]
      · rw [List.find?_cons_of_neg (by simpa using hj), List.find?_cons_of_neg (by simpa using hj)]; exact ih
section
variable {w0 w w' : World} {A : JAd} {m : JM} {d d' : Dev} {c c' : Nat} {v : Value} {lsn : Int} {note : List UInt8}
/-- what is changed lies elsewhere -/
theorem JB.far {S : Nat → Prop} (h : JB w0 w A d m c) (hk : Keeps S w w') (hS : ∀ k, S k → ¬ A.Foot k ∧ w0.heap.size ≤ k ∧ (A.vn.ownBlock = some k → m.note = [])) : JB w0 w' A d m c :=
  ⟨h.db.other hk (fun k hf hs => (hS k hs).1 (.inl hf)) (fun k hs => (hS k hs).2.1), h.at_.keeps hk (fun hs => (hS _ hs).1 (.inr (.inl rfl))) (fun hs => (hS _ hs).1 (.inr (.inr (.inl rfl)))) (fun hs => (hS _ hs).1 (.inr (.inr (.inr (.inl rfl))))) (fun k e hs => (hS k hs).1 (.inr (.inr (.inr (.inr (.inl e)))))) (fun k e hs => (hS k hs).1 (.inr (.inr (.inr (.inr (.inr e)))))) (fun hn k e hs => hn ((hS k hs).2.2 e)), h.ok⟩
theorem JB.new (h : JB w0 w A d m c) {k : Nat} (hk : w.heap.size ≤ k) : ¬ A.Foot k ∧ w0.heap.size ≤ k ∧ (A.vn.ownBlock = some k → m.note = []) := by
  have hn := h.at_.new h.db.lay hk
  have hb := h.db.bel.size
  refine ⟨fun hf => ?_, by omega, hn.2.2.2.2.2.2⟩
  rcases hf with hf | hf | hf | hf | hf | hf
  · exact hn.1 hf
  · exact hn.2.1 hf
  · exact hn.2.2.1 hf
  · exact hn.2.2.2.1 hf
  · exact hn.2.2.2.2.1 hf
  · exact hn.2.2.2.2.2.1 hf
/-- its rows are made anew -/
theorem JB.remade (h : JB w0 w A d m c) (hk : Keeps (· = A.j) w w') {m' : JM} {vs va vn : Value} (hok : m'.Ok d c')
    (hc : c ≤ c') (hself : w'.heap[A.j]? = some (.cells #[.pointer (some ⟨A.p, 0, none⟩), .int .i64 m'.at_, .int .i64 m'.n, .pointer (some ⟨A.s, 0, none⟩), .int .i64 m'.gen, .map (some A.mg), vs, .int .i64 m'.base, va, .int .i64 m'.first, .int .i64 m'.flushed, .int .i64 m'.booked, vn, .bool m'.dead] 93 (0, 0)))
    (e1 : m'.at_ = m.at_) (e2 : m'.num = m.num) (e3 : m'.sdead = m.sdead) (e4 : m'.gens = m.gens)
    (hs : SubRow w' w.heap.size vs (bytesV m'.stream)) (ha : SubRow w' w.heap.size va (intsV m'.starts)) (hn : SubRow w' w.heap.size vn (bytesV m'.note)) (d1 : ∀ k, vs.ownBlock = some k → va.ownBlock ≠ some k ∧ vn.ownBlock ≠ some k) (d2 : ∀ k, va.ownBlock = some k → vn.ownBlock ≠ some k) :
    JB w0 w' { A with vs := vs, va := va, vn := vn } d m' c' ∧ JStep w w' A { A with vs := vs, va := va, vn := vn } := by
  have hA := h.at_
  have hl := h.db.lay
  have hB := h.db.bel.size
  obtain ⟨l, a1, a2⟩ := hA.gens
  refine ⟨⟨(h.db.other hk (fun k hf e => hA.jd hl (e ▸ hf)) (fun k e => e ▸ hA.loj)).more hc, ⟨?_, hself, ⟨l, a1.keeps hk (fun e => hA.jg e.symm), by rw [e4]; exact a2⟩, hs.weaken hB, ha.weaken hB, Bytes.of_sub hn, hA.los, hA.loj, hA.log, hA.apg, fun k e => ?_, fun k e => ?_⟩, hok⟩, hk.mono (fun _ _ e => .inr (.inr (.inl e))), fun k e => ?_⟩
  · rw [e1, e2, e3]; exact hA.slot.keeps hk (fun e => hA.js e.symm)
  · have hnw := hA.new hl (hs.lt k e).1
    exact ⟨hnw.1, hnw.2.1, hnw.2.2.1, hnw.2.2.2.1, (d1 k e).1, fun e' => absurd e' (d1 k e).2⟩
  · have hnw := hA.new hl (ha.lt k e).1
    exact ⟨hnw.1, hnw.2.1, hnw.2.2.1, hnw.2.2.2.1, fun e' => absurd e' (d2 k e)⟩
  · rcases e with e | e | e | e | e | e
    · exact .inl (.inl e)
    · exact .inl (.inr (.inl e))
    · exact .inl (.inr (.inr (.inl e)))
    · exact .inl (.inr (.inr (.inr (.inl e))))
    · exact .inr (hs.lt k e).1
    · exact .inr (ha.lt k e).1
structure TrimR (w0 w : World) (A : JAd) (d : Dev) (m : JM) (c it : Nat) (b : Int) (l0 : List (Int × Int)) (k : Nat) (wr : World) (l T : List (Int × Int)) : Prop where
  rng : Rng wr it A.mg (enc (fun n => .int .i64 n) l) (enc (fun n => .int .i64 n) T)
  jb : JB w0 wr A d (m.setGens (fun s => (aget l s).getD 0)) c
  step : Keeps (fun k => k = A.mg) w wr
  nd : (T.map (·.1)).Nodup
  hi : ∀ s, b - 1 ≤ s → aget l s = aget l0 s
  any : ∀ s, aget l s = none ∨ aget l s = aget l0 s
  lo : ∀ s, s < b - 1 → s ∉ T.map (·.1) → aget l s = none
  len : k = T.length
def TrimPost (w0 w : World) (A : JAd) (c : Nat) (x : Int × Dev × JM) (e : Ending) (w' : World) : Prop :=
  e = .returned (errV x.1) ∧ ∃ A', JB w0 w' A' x.2.1 x.2.2 c ∧ JStep w w' A A' ∧ (A'.p = A.p ∧ A'.mn = A.mn ∧ A'.ms = A.ms ∧ A'.mc = A.mc ∧ A'.j = A.j)
theorem jtrim_dead (h : JB w0 w A d m c) (hd : m.dead = true) : Calls Try.prog 14 #[.pointer (some ⟨A.j, 0, none⟩), .int .i64 lsn, v] w (TrimPost w0 w A (c + 4000) (m.trim d lsn note)) := by
  have hm := makeErr 3
  have hdd := jdead_any h.at_
  rw [hd] at hdd
  have Hx : Hid (m.trim d lsn note = (3, d, m)) := Lib.hid (by unfold JM.trim; rw [if_pos hd])
  have H := Lib.hid h
  clear h hd
  go_enter Try.func14, Try.ntmps14
  go_wp2_with (go_at_call 41; (with_reducible refine hdd.mono ?_); rintro _ _ ⟨rfl, rfl⟩)
  go_ret
  rw [Hx.out]
  exact ⟨rfl, A, H.out.more (by omega), JStep.refl _ _, rfl, rfl, rfl, rfl, rfl⟩
theorem jtrim_range (h : JB w0 w A d m c) (hcc : c ≤ 10000000) (hd : m.dead = false) (hr : lsn < m.first ∨ m.next < lsn) : Calls Try.prog 14 #[.pointer (some ⟨A.j, 0, none⟩), .int .i64 lsn, v] w (TrimPost w0 w A (c + 4000) (m.trim d lsn note)) := by
  have hm := makeErr 1
  have hdd := jdead_any h.at_
  rw [hd] at hdd
  have hnx := jnext_any h.at_ h.ok (by omega)
  have c9 := h.at_.cells.c9
  have Hx : Hid (m.trim d lsn note = (1, d, m)) := Lib.hid (by unfold JM.trim; rw [if_neg (by simp [hd]), if_pos hr])
  have H := Lib.hid h
  by_cases h1 : lsn < m.first
  · have e1 : decide (lsn < m.first) = true := by simp; omega
    clear h hd
    go_enter Try.func14, Try.ntmps14
    go_wp2_with (go_at_call 41; (with_reducible refine hdd.mono ?_); rintro _ _ ⟨rfl, rfl⟩)
    go_ret
    rw [Hx.out]
    exact ⟨rfl, A, H.out.more (by omega), JStep.refl _ _, rfl, rfl, rfl, rfl, rfl⟩
  · have e1 : decide (lsn < m.first) = false := by simp; omega
    have e2 : decide (m.next < lsn) = true := by simp; omega
    clear h hd
    go_enter Try.func14, Try.ntmps14
    go_wp2_with (first | (go_at_call 41; (with_reducible refine hdd.mono ?_); rintro _ _ ⟨rfl, rfl⟩) | (go_at_call 15; (with_reducible refine hnx.mono ?_); rintro _ w1 ⟨rfl, b1⟩))
    go_ret
    rw [Hx.out]
    exact ⟨rfl, A, (H.out.below b1).more (by omega), JStep.below A b1, rfl, rfl, rfl, rfl, rfl⟩
theorem jtrim_long (h : JB w0 w A d m c) (hcc : c ≤ 10000000) (hd : m.dead = false) (h1 : m.first ≤ lsn) (h2 : lsn ≤ m.next) (hv : Bytes w v note) (hl : 400 < note.length) : Calls Try.prog 14 #[.pointer (some ⟨A.j, 0, none⟩), .int .i64 lsn, v] w (TrimPost w0 w A (c + 4000) (m.trim d lsn note)) := by
  have hm := makeErr 2
  have hdd := jdead_any h.at_
  rw [hd] at hdd
  have hnx := jnext_any h.at_ h.ok (by omega)
  have c9 := h.at_.cells.c9
  have Hx : Hid (m.trim d lsn note = (2, d, m)) := Lib.hid (by unfold JM.trim; rw [if_neg (by simp [hd]), if_neg (by omega), if_pos hl])
  have H := Lib.hid h
  have e1 : decide (lsn < m.first) = false := by simp; omega
  have e2 : decide (m.next < lsn) = false := by simp; omega
  obtain ⟨q, cap, rfl, g1, g2, _⟩ := hv
  have e3 : decide ((400 : Int) < (note.length : Int)) = true := by simp; omega
  clear h hd
  go_enter Try.func14, Try.ntmps14
  go_wp2_with (first | (go_at_call 41; (with_reducible refine hdd.mono ?_); rintro _ _ ⟨rfl, rfl⟩) | (go_at_call 15; (with_reducible refine hnx.mono ?_); rintro _ w1 ⟨rfl, b1⟩))
  go_ret
  rw [Hx.out]
  exact ⟨rfl, A, (H.out.below b1).more (by omega), JStep.below A b1, rfl, rfl, rfl, rfl, rfl⟩
set_option maxRecDepth 100000 in
set_option maxHeartbeats 2000000 in
theorem jtrim_go (h : JB w0 w A d m c) (hcc : c ≤ 10000000) (hd : m.dead = false) (h1 : m.first ≤ lsn) (h2 : lsn ≤ m.next) (hv : Bytes w v note) (hvf : note ≠ [] → ∀ k, v.ownBlock = some k → ¬ A.Foot k) (hl : note.length ≤ 400) : Calls Try.prog 14 #[.pointer (some ⟨A.j, 0, none⟩), .int .i64 lsn, v] w (TrimPost w0 w A (c + 4000) (m.trim d lsn note)) := by
  have hdd := jdead_any h.at_
  rw [hd] at hdd
  have hnx := jnext_any h.at_ h.ok (by omega)
  have hfl := fun w1 (b : Below w.heap.size w w1) => jflush_any (h.below b) (by omega)
  have c9 := h.at_.cells.c9
  have Hx : Hid (m.trim d lsn note = if (m.flush d).1 ≠ 0 then m.flush d else trimEnd (m.flush d).2.2 (m.flush d).2.1 lsn note) := Lib.hid (by unfold JM.trim; rw [if_neg (by simp [hd]), if_neg (by omega), if_neg (by omega)])
  have H := Lib.hid h
  have Hv := Lib.hid hv
  have Hvf := Lib.hid hvf
  have Hm1 : Hid ((m.flush d).2.2.first ≤ lsn ∧ lsn ≤ (m.flush d).2.2.next) := Lib.hid (by
    have := flush_same m d
    unfold JM.next at h2 ⊢
    rw [this.1, this.2.1]; exact ⟨h1, h2⟩)
  have e1 : decide (lsn < m.first) = false := by simp; omega
  have e2 : decide (m.next < lsn) = false := by simp; omega
  obtain ⟨q, cap, rfl, g1, g2, _⟩ := hv
  have e3 : decide ((400 : Int) < (note.length : Int)) = false := by simp; omega
  generalize m.flush d = f at hfl Hx Hm1
  obtain ⟨fe, d1, m1⟩ := f
  clear h hd hvf
  go_enter Try.func14, Try.ntmps14
  go_upto_region 8 with (first | (go_at_call 41; (with_reducible refine hdd.mono ?_); rintro _ _ ⟨rfl, rfl⟩) | (go_at_call 15; (with_reducible refine hnx.mono ?_); rintro _ w1 ⟨rfl, b1⟩; have hfl1 := hfl w1 b1) | (go_at_call 40; (with_reducible refine hfl1.mono ?_); rintro _ w2 ⟨rfl, h2, s2⟩))
  have HS2 : Hid (JStep w w2 A A) := Lib.hid ((JStep.below A b1).trans s2)
  have HJ2 : Hid (JB w0 w2 A d1 m1 (c + 3000)) := Lib.hid h2
  have Hm1 : Hid (m1.first ≤ lsn ∧ lsn ≤ m1.next) := Hm1
  have Hx : Hid (m.trim d lsn note = if fe ≠ 0 then (fe, d1, m1) else trimEnd m1 d1 lsn note) := Hx
  have Hv2 : Hid (Bytes w2 (.slice q note.length cap) note) := Lib.hid (Hv.out.keeps' HS2.out.1 Hvf.out)
  clear hdd hnx hfl hfl1 s2 h2 b1 c9
  by_cases hfe : fe = 0
  · subst hfe
    rw [errV_zero]
    have Hx2 : Hid (m.trim d lsn note = trimEnd m1 d1 lsn note) := Lib.hid (by rw [Hx.out, if_neg (by simp)])
    obtain ⟨kk, hkk⟩ : ∃ kk : Nat, lsn - m1.first = (kk : Int) := ⟨(lsn - m1.first).toNat, by have := Hm1.out.1; omega⟩
    have Hkk : Hid ((lsn - m1.first).toNat = kk) := Lib.hid (by omega)
    have Hkl : Hid (kk ≤ m1.recs.length) := Lib.hid (by have := Hm1.out.2; unfold JM.next at this; omega)
    have c9 := HJ2.out.at_.cells.c9
    have hf1 := HJ2.out.ok.f1
    have hf2 : lsn ≤ 100000000 := by have := HJ2.out.ok.f2; have := Hm1.out.2; omega
    have hf3 : m1.first ≤ 100000000 := by have := Hm1.out.1; omega
    have c8 := HJ2.out.at_.cells.c8
    obtain ⟨qa, ca, ea, ha1, ha2⟩ := HJ2.out.at_.vaForm
    have hst := HJ2.out.at_.starts
    rw [ea] at c8 hst
    rcases hst with ⟨h0, _⟩ | ⟨g, off, cap', he, _, _, _, _, _, h6⟩
    · cases h0
    obtain ⟨rfl, rfl⟩ : qa = some ⟨g, off, none⟩ ∧ ca = cap' := by injection he with a1 a2 a3; exact ⟨a1, a3⟩
    have hix := h6 kk _ (intsV_at (m1.starts_at kk Hkl.out))
    have hS0 : 0 ≤ m1.base * 470 + (m1.at0 kk : Int) := by have := HJ2.out.ok.b1; omega
    have hS1 : m1.base * 470 + (m1.at0 kk : Int) ≤ 1000000000000 := by have := HJ2.out.ok.b2; unfold JM.fin at this; have := m1.at0_le kk; omega
    have hdv : (m1.base * 470 + (m1.at0 kk : Int)).tdiv 470 = (m1.base * 470 + (m1.at0 kk : Int)) / 470 := Int.tdiv_eq_ediv_of_nonneg hS0
    have hi0 : (0 : Int) ≤ (kk : Int) := by omega
    have hi1 : (kk : Int) < ((m1.recs.length + 1 : Nat) : Int) := by have := Hkl.out; omega
    obtain ⟨st, hst0⟩ : ∃ st, m1.base * 470 + (m1.at0 kk : Int) = st := ⟨_, rfl⟩
    obtain ⟨b, hb0⟩ : ∃ b, st / 470 = b := ⟨_, rfl⟩
    rw [hst0] at hix hS0 hS1 hdv
    rw [hb0] at hdv
    have Hst0 := Lib.hid hst0
    have Hb0 := Lib.hid hb0
    have hb1 : 0 ≤ b := by omega
    have hb2 : b ≤ 1000000000000 := by omega
    have Hhe := Lib.hid he
    clear hst0 he h6
    go_upto_region 13 with fail
    have ew1 : IntKind.i64.wrap (b - 1) = b - 1 := by rw [IntKind.wrap_i64]; omega
    have Hts : Hid (trimSave m1 d1 lsn note = slotSave d1 m1.at_ m1.num [] m1.sdead (jrow st lsn (m1.gens (b - 1)) note)) := Lib.hid (by
      unfold trimSave; rw [Hkk.out, Hst0.out, Hb0.out])
    have Hgs : Hid (int64 (m1.gens (b - 1))) := Lib.hid (by have := HJ2.out.ok.gs (b - 1); unfold int64; omega)
    have hrow := jrow_any (w := w2.drew) (start := st) (first := lsn) (ahead := m1.gens (b - 1)) (Hv2.out.below (below_drew w2)) (by unfold int64; omega) (by unfold int64; omega) Hgs.out (by omega)
    have HR : Hid ((jrow st lsn (m1.gens (b - 1)) note).length ≤ 480) := Lib.hid (jrow_len hl)
    generalize jrow st lsn (m1.gens (b - 1)) note = R at hrow HR Hts
    have Hfx := Lib.hid (slotSave_facts d1 m1.at_ m1.num [] m1.sdead R)
    have hsv := fun (W : World) (B : Below w2.heap.size w2 W) (v : Value) (hv : Bytes W v R) => savew_any (new := R) [] (HJ2.out.below B).db (by omega) (HJ2.out.below B).at_.slot HJ2.out.at_.los hv HJ2.out.ok.a1 (by have := HJ2.out.ok.a2; have := HJ2.out.db.ok.z2; have := HJ2.out.ok.n1; omega) (by have := HJ2.out.ok.nm1; omega)
    generalize slotSave d1 m1.at_ m1.num [] m1.sdead R = r at hsv Hts Hfx
    have k3 : ∀ W, Below w2.heap.size w2 W → W.cell? ⟨A.j, 3, none⟩ = some (.pointer (some ⟨A.s, 0, none⟩)) ∧ W.cell? ⟨A.j, 5, none⟩ = some (.map (some A.mg)) ∧ (Instr.lookup 91 (.map (some A.mg)) (.int .i64 (b - 1)) false).run Try.prog W = .ok (.int .i64 (m1.gens (b - 1))) W := fun W B => ⟨(HJ2.out.below B).at_.cells.c3, (HJ2.out.below B).at_.cells.c5, (HJ2.out.below B).look (b - 1)⟩
    have K3 := Lib.hid k3
    have Hsv := Lib.hid hsv
    have Hca : Hid (m1.recs.length + 1 ≤ ca) := Lib.hid ha1
    clear k3 hsv ha1 ha2 hix hi0 hi1 c8 c9 hdv
    go_cut [11] from 13 (fun e wx => e = errV r.err ∧ JB w0 wx A r.dev { m1 with num := r.number, sdead := r.dead } (c + 3002) ∧ JStep w wx A A)
    case first =>
      go_region_held3 (fun w' => w'.cell? ⟨A.j, 3, none⟩ = some (.pointer (some ⟨A.s, 0, none⟩)) ∧ w'.cell? ⟨A.j, 5, none⟩ = some (.map (some A.mg)) ∧ (Instr.lookup 91 (.map (some A.mg)) (.int .i64 (b - 1)) false).run Try.prog w' = .ok (.int .i64 (m1.gens (b - 1))) w')
        (first | exact K3.out _ (below_drew w2) | exact K3.out _ B5.out | exact K6.out)
        (first
        | (go_at_call 53; (with_reducible refine hrow.mono ?_); rintro _ w5 ⟨q5, c5, rfl, hb5, b5⟩; clear hrow; have B5 : Hid (Below w2.heap.size w2 w5) := Lib.hid ((below_drew w2).trans b5); have hs5 := Hsv.out w5 B5.out _ hb5; clear hb5 b5)
        | (go_at_call 52; (with_reducible refine hs5.mono ?_); intro e6 w6 p6; clear hs5; have he6 := p6.1; subst he6; have P6 := Lib.hid ((HJ2.out.below B5.out).saved (by rfl) p6 (by omega) Hfx.out.1 Hfx.out.2.1 Hfx.out.2.2.1); clear p6; have K6 : Hid (w6.cell? ⟨A.j, 3, none⟩ = some (.pointer (some ⟨A.s, 0, none⟩)) ∧ w6.cell? ⟨A.j, 5, none⟩ = some (.map (some A.mg)) ∧ (Instr.lookup 91 (.map (some A.mg)) (.int .i64 (b - 1)) false).run Try.prog w6 = .ok (.int .i64 (m1.gens (b - 1))) w6) := Lib.hid ⟨P6.out.1.at_.cells.c3, P6.out.1.at_.cells.c5, P6.out.1.look (b - 1)⟩))
      all_goals (go_wp2_with fail; go_meet)
      all_goals exact ⟨rfl, P6.out.1, (HS2.out.trans (JStep.below A B5.out)).trans P6.out.2⟩
    case rest =>
      obtain ⟨rfl, hJ3, hS3⟩ := hcut
      have Hok1 : Hid (m1.Ok d1 (c + 3000)) := Lib.hid HJ2.out.ok
      clear hrow Hsv K3 ew1 HJ2 HS2 Hv2
      have Hv3 : Hid (Bytes wc (.slice q note.length cap) note) := Lib.hid (Hv.out.keeps' hS3.1 Hvf.out)
      by_cases her : r.err = 0
      · rw [her, errV_zero]
        have Hx3 : Hid (m.trim d lsn note = (0, r.dev, m1.cutTo kk lsn note r.number r.dead)) := Lib.hid (by rw [Hx2.out]; unfold trimEnd; rw [Hts.out, if_neg (by simp [her]), Hkk.out])
        have Hokc : Hid ((m1.cutTo kk lsn note r.number r.dead).Ok r.dev (c + 3003)) := Lib.hid (by
          have := Hok1.out.cutTo (d' := r.dev) Hfx.out.1 Hm1.out.1 Hm1.out.2 hl Hfx.out.2.1 Hfx.out.2.2.1 r.dead
          rw [Hkk.out] at this
          exact this.more (by omega))
        have HS3 := Lib.hid hS3
        have HJ3 := Lib.hid hJ3
        obtain ⟨l0, a1, a2⟩ := hJ3.at_.gens
        obtain ⟨W3, r1, r2, r3, r4⟩ := run_range_im (P := Try.prog) Try.underlying91 a1
        have c5 := hJ3.at_.cells.c5
        have Hnew := Lib.hid (hJ3.new (Nat.le_refl _))
        have Hst : Hid (TrimR w0 wc A r.dev { m1 with num := r.number, sdead := r.dead } (c + 3002) wc.heap.size b l0 l0.length W3 l0 l0) := Lib.hid
          ⟨r2, by have := hJ3.below r3; have e : (fun s => (aget l0 s).getD 0) = m1.gens := funext a2; unfold JM.setGens; rw [e]; exact this, Keeps.of_below r3, imap_nodup a1, fun _ _ => rfl, fun _ => .inr rfl, fun s h1 h2 => by
            cases hx : aget l0 s with
            | none => rfl
            | some x => exact absurd ((aget_some_iff l0 s).1 (by rw [hx]; rfl)) h2, rfl⟩
        have Ha2 : Hid (∀ k, (aget l0 k).getD 0 = m1.gens k) := Lib.hid a2
        clear hJ3 hS3 a1 a2 r2 r3 r4 Hx2 Hts Hfx
        go_wp2
        clear r1 c5
        go_loopg [] l0.length (fun k wr => ∃ l T, TrimR w0 wc A r.dev { m1 with num := r.number, sdead := r.dead } (c + 3002) wc.heap.size b l0 k wr l T)
        case atStart => exact ⟨l0, l0, Hst.out⟩
        case round =>
          clear Hst
          obtain ⟨l, T, hR⟩ := hrel
          rcases run_next_im (P := Try.prog) hR.rng 0 with ⟨h0, hr⟩ | ⟨p, hp, w4, hr, hR', hK, hsz4, hent⟩
          · have hT : T = [] := by unfold enc at h0; simpa using h0
            subst hT
            have hgf : (fun s => (aget l s).getD 0) = (m1.cutTo kk lsn note r.number r.dead).gens := funext fun s => by
              show _ = if s < (m1.base * 470 + (m1.at0 kk : Int)) / 470 - 1 then (0 : Int) else m1.gens s
              rw [Hst0.out, Hb0.out]
              split
              · rename_i h; rw [hR.lo s h (by simp)]; rfl
              · rename_i h; rw [hR.hi s (by omega)]; exact Ha2.out s
            have hJr := hR.jb
            rw [hgf] at hJr
            have HJr := Lib.hid hJr
            have HKr := Lib.hid hR.step
            clear hR hJr hgf h0
            go_upto_region 21 with fail
            clear hr
            obtain ⟨hco, hcs⟩ := m1.cut_stream kk lsn note r.number r.dead
            have hcst := m1.cut_starts kk lsn note r.number r.dead Hkl.out
            rw [Hst0.out, Hb0.out] at hco hcs
            obtain ⟨oN, hoN⟩ : ∃ oN, ((b - m1.base) * 470).toNat = oN := ⟨_, rfl⟩
            have hb3 : m1.base ≤ b := by rw [← Hb0.out, ← Hst0.out]; omega
            have hoI : (b - m1.base) * 470 = (oN : Int) := by omega
            rw [hoN] at hco hcs
            have holen : oN ≤ m1.stream.length := Nat.le_trans hco (m1.at0_le kk)
            obtain ⟨qs, cs, es, hs1, hs2⟩ := HJr.out.at_.vsForm
            have hs1' : m1.stream.length ≤ cs := hs1
            have c6 := HJr.out.at_.cells.c6
            rw [es] at c6
            have c6' : wr.cell? ⟨A.j, 6, none⟩ = some (.slice qs m1.stream.length cs) := c6
            have c7 : wr.cell? ⟨A.j, 7, none⟩ = some (.int .i64 m1.base) := HJr.out.at_.cells.c7
            have f6 := HJr.out.at_.free 6
            have hb4 : 0 ≤ m1.base := Hok1.out.b1
            obtain ⟨sx, hsx⟩ : ∃ sx, (if cs = oN then qs else Option.map (fun x => x.add oN) qs) = sx := ⟨_, rfl⟩
            have hBy : Bytes wr (.slice sx (m1.stream.length - oN) (cs - oN)) (m1.stream.drop oN) := by
              have h1 := Bytes.of_sub HJr.out.at_.stream
              rw [es] at h1
              have h2 := Bytes.sub' (l := m1.stream) h1 oN holen
              rw [hsx] at h2; exact h2
            have hsl1 : m1.stream.length ≤ 1000000 := by have := Hok1.out.room; have := Hok1.out.n2; omega
            have hcl := fun W (B : Below wr.heap.size wr W) => clone_len (hBy.below B) (by have := List.length_drop (l := m1.stream) (i := oN); omega)
            have Hdl : Hid ((m1.stream.drop oN).length = m1.stream.length - oN) := Lib.hid (List.length_drop ..)
            rw [Hdl.out] at hcl
            have hmn : min (oN : Int) (m1.stream.length : Int) = (oN : Int) := by omega
            have hq1 : (0 : Int) ≤ (oN : Int) := by omega
            have hq2 : (oN : Int) ≤ (m1.stream.length : Int) := by omega
            have hq3 : (m1.stream.length : Int) ≤ (cs : Int) := by omega
            have ewb : IntKind.i64.wrap (b - m1.base) = b - m1.base := by rw [IntKind.wrap_i64]; omega
            have ewo : IntKind.i64.wrap (oN : Int) = (oN : Int) := by rw [IntKind.wrap_i64]; omega
            have Hcs := Lib.hid hcs
            have Hcst := Lib.hid hcst
            clear hco hcs hcst c6 es hBy hoN
            go_cut [] from 13 (fun wx => ∃ q5 c5, wx.heap[A.j]? = some (.cells #[.pointer (some ⟨A.p, 0, none⟩), .int .i64 m1.at_, .int .i64 m1.n, .pointer (some ⟨A.s, 0, none⟩), .int .i64 m1.gen, .map (some A.mg), .slice q5 (m1.stream.length - oN) c5, .int .i64 m1.base, A.va, .int .i64 m1.first, .int .i64 m1.flushed, .int .i64 m1.booked, A.vn, .bool m1.dead] 93 (0, 0)) ∧ SubRow wx wr.heap.size (.slice q5 (m1.stream.length - oN) c5) (bytesV (m1.stream.drop oN)) ∧ Keeps (· = A.j) wr wx)
            case first =>
              go_region_law (first
                | (go_simp; go_at_call 55; (with_reducible refine (hcl _ (below_drew wr)).mono ?_); rintro _ w5 ⟨q5, c5, rfl, s5, b5⟩; have B5 : Hid (Below wr.heap.size wr w5) := Lib.hid ((below_drew wr).trans b5); have h5 := (Keeps.of_below (S := fun _ => False) B5.out).at HJr.out.at_.self (fun e => e); have k6 := cell_in (o := 6) (u := A.vs) h5 rfl; have f65 := free_in (o := 6) h5))
              all_goals (go_wp2_with fail; go_meet)
              all_goals
                have kp : Keeps (· = A.j) w5 (w5.setCell ⟨A.j, 6, none⟩ (.slice q5 (m1.stream.length - oN) c5)) := Keeps.cellAt (S := (· = A.j)) rfl _
                exact ⟨q5, c5, by rw [heap_setCell _ _ _ _ _ _ _ h5]; rfl, s5.block_keeps kp (fun k e e' => by have := (s5.lt k e).1; have := HJr.out.at_.ltj; subst e'; simp at this; omega), (Keeps.of_below B5.out).trans kp⟩
            case rest =>
              obtain ⟨q5, c5, hj5, hs5, hk5⟩ := hcut
              have Hj5 := Lib.hid hj5
              have Hs5 := Lib.hid hs5
              have Hk5 := Lib.hid hk5
              have hv5 : Bytes wr (.slice q note.length cap) note := Hv3.out.keeps' HKr.out (fun hn k e e' => Hvf.out hn k e (.inr (.inr (.inr (.inl e')))))
              have hv6 : Bytes wc (.slice q note.length cap) note := hv5.keeps' hk5 (fun hn k e e' => Hvf.out hn k e (.inr (.inr (.inl e'))))
              have hcn := clone_len hv6 (by omega)
              have hsz5 := hk5.size
              clear hj5 hs5 hk5 hv5 hv6
              go_upto_region 23 with (go_at_call 55; (with_reducible refine hcn.mono ?_); rintro _ w6 ⟨qn, cn, rfl, sn, bn⟩; have hj6 := (Keeps.of_below (S := fun _ => False) bn).at Hj5.out (fun e => e); have Hj6 := Lib.hid hj6; have k7 := cell_in (o := 7) (u := .int .i64 m1.base) hj6 rfl; have k9 := cell_in (o := 9) (u := .int .i64 m1.first) hj6 rfl; have k12 := cell_in (o := 12) (u := A.vn) hj6 rfl; have f7 := free_in (o := 7) hj6; have f9 := free_in (o := 9) hj6; have f12 := free_in (o := 12) hj6; clear hj6 hcn)
              have kp7 : Keeps (· = A.j) w6 (((w6.setCell ⟨A.j, 7, none⟩ (.int .i64 b)).setCell ⟨A.j, 9, none⟩ (.int .i64 lsn)).setCell ⟨A.j, 12, none⟩ (.slice qn note.length cn)) :=
                ((Keeps.cellAt (S := (· = A.j)) rfl _).trans (Keeps.cellAt (S := (· = A.j)) rfl _)).trans (Keeps.cellAt (S := (· = A.j)) rfl _)
              have hj7 : (((w6.setCell ⟨A.j, 7, none⟩ (.int .i64 b)).setCell ⟨A.j, 9, none⟩ (.int .i64 lsn)).setCell ⟨A.j, 12, none⟩ (.slice qn note.length cn)).heap[A.j]? = some (.cells #[.pointer (some ⟨A.p, 0, none⟩), .int .i64 m1.at_, .int .i64 m1.n, .pointer (some ⟨A.s, 0, none⟩), .int .i64 m1.gen, .map (some A.mg), .slice q5 (m1.stream.length - oN) c5, .int .i64 b, A.va, .int .i64 lsn, .int .i64 m1.flushed, .int .i64 m1.booked, .slice qn note.length cn, .bool m1.dead] 93 (0, 0)) := by
                rw [heap_setCell _ _ _ _ _ _ _ (heap_setCell _ _ _ _ _ _ _ (heap_setCell _ _ _ _ _ _ _ Hj6.out))]; rfl
              have hltj := HJr.out.at_.ltj
              have hnj : ∀ {X : Nat} {v : Value} {xs : List Value} {W : World}, wr.heap.size ≤ X → SubRow W X v xs → ∀ k, v.ownBlock = some k → ¬ k = A.j := fun hX hs k e e' => by have := (hs.lt k e).1; omega
              have sn7 := sn.block_keeps kp7 (hnj hsz5 sn)
              have s57 := (Hs5.out.below bn).block_keeps kp7 (hnj (Nat.le_refl _) Hs5.out)
              have hk7 : Keeps (· = A.j) wr (((w6.setCell ⟨A.j, 7, none⟩ (.int .i64 b)).setCell ⟨A.j, 9, none⟩ (.int .i64 lsn)).setCell ⟨A.j, 12, none⟩ (.slice qn note.length cn)) := (Hk5.out.trans (Keeps.of_below bn)).trans kp7
              have hsz7 : w6.heap.size ≤ (((w6.setCell ⟨A.j, 7, none⟩ (.int .i64 b)).setCell ⟨A.j, 9, none⟩ (.int .i64 lsn)).setCell ⟨A.j, 12, none⟩ (.slice qn note.length cn)).heap.size := kp7.size
              have hva7 := HJr.out.at_.starts.block_keeps hk7 (fun k e e' => by have := (HJr.out.at_.apa k e).2.2.1; exact this e')
              generalize ((w6.setCell ⟨A.j, 7, none⟩ (.int .i64 b)).setCell ⟨A.j, 9, none⟩ (.int .i64 lsn)).setCell ⟨A.j, 12, none⟩ (.slice qn note.length cn) = w7 at hj7 sn7 s57 hk7 hsz7 hva7 ⊢
              rw [ea] at hva7
              rcases hva7 with ⟨h0, _⟩ | ⟨g', off', cap', he', _, _, _, _, _, h6⟩
              · cases h0
              injection he' with he1 he2 he3
              injection he1 with he4
              injection he4 with he5 he6
              subst he5 he6 he3
              clear he2
              obtain ⟨nk, hnk⟩ : ∃ nk, m1.recs.length + 1 - kk = nk + 1 := ⟨m1.recs.length - kk, by have := Hkl.out; omega⟩
              have Hnk : Hid (nk = m1.recs.length - kk) := Lib.hid (by omega)
              have hxl : (m1.starts.drop kk).length = nk + 1 := by rw [List.length_drop, JM.starts, startsOf_len, hnk]
              have hic := iclone_any (w := w7) (a := ⟨g, off + kk, none⟩) (xs := m1.starts.drop kk) (cap := ca - kk) (fun j x hx => by
                rw [List.getElem?_drop] at hx
                rw [Addr.add_mid, Nat.add_assoc]
                exact h6 (kk + j) _ (intsV_at hx)) (by rw [hxl]; have := Hok1.out.f2; have := Hok1.out.f1; unfold JM.next at *; omega)
              rw [hxl] at hic
              have k8 := cell_in (o := 8) (u := A.va) hj7 rfl
              rw [ea] at k8
              have hca := Hca.out
              have hkl := Hkl.out
              have hck : ¬ ca = kk := by omega
              have hck2 : kk ≤ m1.recs.length + 1 := by omega
              have hck3 : (kk : Int) ≤ ((m1.recs.length + 1 : Nat) : Int) := by omega
              have hck4 : ((m1.recs.length + 1 : Nat) : Int) ≤ (ca : Int) := by omega
              have Hj7 := Lib.hid hj7
              have Hsn7 := Lib.hid sn7
              have Hs57 := Lib.hid s57
              have Hk7 := Lib.hid hk7
              have Hsz7 := Lib.hid hsz7
              have Hszn := Lib.hid bn.size
              have Hlts := Lib.hid Hs5.out.lt
              have Hltn := Lib.hid sn.lt
              clear hj7 sn7 s57 hk7 hsz7 h6 kp7 k7 k9 k12 f7 f9 f12 bn sn
              go_upto_region 24 with (go_at_call 56; (with_reducible refine hic.mono ?_); rintro _ w8 ⟨qv, cv, rfl, sv, bv⟩; have hj8 := (Keeps.of_below (S := fun _ => False) bv).at Hj7.out (fun e => e); have Hj8 := Lib.hid hj8; have k8' := cell_in (o := 8) (u := A.va) hj8 rfl; have f8' := free_in (o := 8) hj8; clear hj8 hic)
              have kp8 : Keeps (· = A.j) w8 (w8.setCell ⟨A.j, 8, none⟩ (.slice qv (nk + 1) cv)) := Keeps.cellAt (S := (· = A.j)) rfl _
              have hj9 : (w8.setCell ⟨A.j, 8, none⟩ (.slice qv (nk + 1) cv)).heap[A.j]? = some (.cells #[.pointer (some ⟨A.p, 0, none⟩), .int .i64 m1.at_, .int .i64 m1.n, .pointer (some ⟨A.s, 0, none⟩), .int .i64 m1.gen, .map (some A.mg), .slice q5 (m1.stream.length - oN) c5, .int .i64 b, .slice qv (nk + 1) cv, .int .i64 lsn, .int .i64 m1.flushed, .int .i64 m1.booked, .slice qn note.length cn, .bool m1.dead] 93 (0, 0)) := by
                rw [heap_setCell _ _ _ _ _ _ _ Hj8.out]; rfl
              have hbv := bv.size
              have sv9 := sv.block_keeps kp8 (hnj (Nat.le_trans hsz5 (Nat.le_trans Hszn.out Hsz7.out)) sv)
              have sn9 := (Hsn7.out.below bv).block_keeps kp8 (hnj hsz5 (Hsn7.out.below bv))
              have s59 := (Hs57.out.below bv).block_keeps kp8 (hnj (Nat.le_refl _) (Hs57.out.below bv))
              have hk9 : Keeps (· = A.j) wr (w8.setCell ⟨A.j, 8, none⟩ (.slice qv (nk + 1) cv)) := (Hk7.out.trans (Keeps.of_below bv)).trans kp8
              generalize w8.setCell ⟨A.j, 8, none⟩ (.slice qv (nk + 1) cv) = w9 at hj9 sv9 sn9 s59 hk9 ⊢
              have k89 := cell_in (o := 8) (u := .slice qv (nk + 1) cv) hj9 rfl
              have k109 := cell_in (o := 10) (u := .int .i64 m1.flushed) hj9 rfl
              have f109 := free_in (o := 10) hj9
              have Hj9 := Lib.hid hj9
              have Hsv9 := Lib.hid sv9
              have Hsn9 := Lib.hid sn9
              have Hs59 := Lib.hid s59
              have Hk9 := Lib.hid hk9
              have Hnj : Hid (∀ {X : Nat} {v : Value} {xs : List Value} {W : World}, wr.heap.size ≤ X → SubRow W X v xs → ∀ k, v.ownBlock = some k → ¬ k = A.j) := Lib.hid hnj
              have hnk2 : nk ≤ 100000000 := by have := Hok1.out.f2; have := Hok1.out.f1; unfold JM.next at *; omega
              have Hsz5 := Lib.hid hsz5
              have Hltv := Lib.hid sv.lt
              clear hj9 sv9 sn9 s59 hk9 kp8 hnj sv bv k8' f8' hbv
              go_wp2
              go_ret
              rw [Hx3.out]
              have kp : Keeps (· = A.j) w9 (w9.setCell ⟨A.j, 10, none⟩ (.int .i64 nk)) := Keeps.cellAt (S := (· = A.j)) rfl _
              have h57 : wr.heap.size ≤ w7.heap.size := Nat.le_trans Hsz5.out (Nat.le_trans Hszn.out Hsz7.out)
              have eb : (m1.cutTo kk lsn note r.number r.dead).base = b := by
                show (m1.base * 470 + (m1.at0 kk : Int)) / 470 = b
                rw [Hst0.out, Hb0.out]
              have ef : (m1.cutTo kk lsn note r.number r.dead).flushed = nk := Hnk.out.symm
              have hfin := HJr.out.remade (w' := w9.setCell ⟨A.j, 10, none⟩ (.int .i64 nk)) (Hk9.out.trans kp) (m' := m1.cutTo kk lsn note r.number r.dead) (vs := .slice q5 (m1.stream.length - oN) c5) (va := .slice qv (nk + 1) cv) (vn := .slice qn note.length cn) Hokc.out (by omega)
                (by rw [heap_setCell _ _ _ _ _ _ _ Hj9.out, eb, ef]; rfl) rfl rfl rfl rfl
                (by rw [Hcs.out]; exact Hs59.out.block_keeps kp (Hnj.out (Nat.le_refl _) Hs59.out))
                (by rw [Hcst.out]; exact (Hsv9.out.block_keeps kp (Hnj.out h57 Hsv9.out)).weaken h57)
                (((Hsn9.out.block_keeps kp (Hnj.out Hsz5.out Hsn9.out)).weaken Hsz5.out))
                (fun k e => ⟨fun e' => by have := (Hlts.out k e).2; have := (Hltv.out k e').1; have := Hszn.out; have := Hsz7.out; omega, fun e' => by have := (Hlts.out k e).2; have := (Hltn.out k e').1; omega⟩)
                (fun k e e' => by have := (Hltv.out k e).1; have := (Hltn.out k e').2; have := Hsz7.out; omega)
              exact ⟨rfl, _, hfin.1.more (by omega), (HS3.out.trans (JStep.gens HKr.out)).trans hfin.2, rfl, rfl, rfl, rfl, rfl⟩
          · obtain ⟨pp, hpp, rfl⟩ := List.mem_map.1 hp
            obtain ⟨s, n⟩ := pp
            have he := hent w4 rfl rfl
            rw [show IM.del (enc (fun n => .int .i64 n) T) s = enc (fun n => .int .i64 n) (adel T s) from enc_del _ _ _] at hR'
            have HR := Lib.hid hR
            have Hpp := Lib.hid hpp
            have HJ4 : Hid (JB w0 w4 A r.dev ({ m1 with num := r.number, sdead := r.dead }.setGens (fun s => (aget l s).getD 0)) (c + 3002)) := Lib.hid (hR.jb.far hK (fun k e => by subst e; exact Hnew.out))
            have HK4 : Hid (Keeps (fun k => k = A.mg) wc w4) := Lib.hid (hR.step.trans' hK (fun i hi e => by omega))
            have c5 := HJ4.out.at_.cells.c5
            clear hR hent hp hK hsz4 hpp
            by_cases hsb : s < b - 1
            · have e4 : decide (s < b - 1) = true := by simp; omega
              obtain ⟨w5, hd1, hd2, hd3, hd4⟩ := run_delete_rng (P := Try.prog) Try.underlying91 Try.underlying3 hR' s (.int .i64 n) (HR.out.rng.sub (List.mem_map.2 ⟨_, Hpp.out, rfl⟩)) (fun p hp => by
                obtain ⟨y, hy, rfl⟩ := List.mem_map.1 hp
                exact (adel_keys.1 (List.mem_map.2 ⟨y, hy, rfl⟩)).2) 0 3
              rw [show IM.del (enc (fun n => .int .i64 n) l) s = enc (fun n => .int .i64 n) (adel l s) from enc_del _ _ _] at hd2
              have Hd2 := Lib.hid hd2
              have Hd3 := Lib.hid hd3
              clear hR' hd2 hd3 hd4
              go_wp2
              have hR := HR.out
              have Hlen : Hid (T.length = (adel T s).length + 1 ∧ gk = T.length) := Lib.hid ⟨(perm_adel T (s, n) hR.nd Hpp.out).length_eq, hR.len⟩
              go_roundg (adel T s).length
              case measure => have h1 := Hlen.out.1; have h2 := Hlen.out.2; omega
              case rel =>
                have hgs := HJ4.out.ok.gs
                refine ⟨adel l s, adel T s, Hd2.out, HJ4.out.gens (l := adel l s) Hd2.out.imap (fun _ => rfl) Hd3.out (fun k => ?_), HK4.out.trans Hd3.out, adel_nodup _ _ hR.nd, fun k hk => ?_, fun k => ?_, fun k hk1 hk2 => ?_, rfl⟩
                · rw [aget_adel]
                  split
                  · exact ⟨Int.le_refl _, by show (0 : Int) ≤ _; omega⟩
                  · exact hgs k
                · rw [aget_adel, if_neg (by omega)]; exact hR.hi k hk
                · rw [aget_adel]
                  split
                  · exact .inl rfl
                  · exact hR.any k
                · rw [aget_adel]
                  split
                  · rfl
                  · rename_i hne
                    exact hR.lo k hk1 (fun hm => hk2 (adel_keys.2 ⟨hm, hne⟩))
            · have e4 : decide (s < b - 1) = false := by simp; omega
              have HR' := Lib.hid hR'
              clear hR'
              go_wp2
              have hR := HR.out
              have Hlen : Hid (T.length = (adel T s).length + 1 ∧ gk = T.length) := Lib.hid ⟨(perm_adel T (s, n) hR.nd Hpp.out).length_eq, hR.len⟩
              go_roundg (adel T s).length
              case measure => have h1 := Hlen.out.1; have h2 := Hlen.out.2; omega
              case rel => exact ⟨l, adel T s, HR'.out, HJ4.out, HK4.out, adel_nodup _ _ hR.nd, hR.hi, hR.any, fun k hk1 hk2 => hR.lo k hk1 (fun hm => hk2 (adel_keys.2 ⟨hm, by omega⟩)), rfl⟩
      · have hfl := jfail_any hJ3 r.err
        rw [errV_pos her, if_neg her] at hfl
        rw [errV_pos her]
        have Hx3 : Hid (m.trim d lsn note = (r.err, r.dev, { m1 with num := r.number, sdead := r.dead, dead := true })) := Lib.hid (by rw [Hx2.out]; unfold trimEnd; rw [Hts.out, if_pos her])
        have Her := Lib.hid her
        have HS3 := Lib.hid hS3
        clear hJ3 hS3 Hx2 Hts Hfx her
        go_wp2_with (go_at_call 54; (with_reducible refine hfl.mono ?_); rintro _ w7 ⟨rfl, h7, s7⟩)
        go_ret
        rw [Hx3.out]
        exact ⟨by rw [errV_pos Her.out]; rfl, A, h7.more (by omega), HS3.out.trans s7, rfl, rfl, rfl, rfl, rfl⟩
  · rw [errV_pos hfe]
    have Hx2 : Hid (m.trim d lsn note = (fe, d1, m1)) := Lib.hid (by rw [Hx.out, if_pos hfe])
    have He := Lib.hid hfe
    clear hfe
    go_wp2
    go_ret
    rw [Hx2.out]
    exact ⟨by rw [errV_pos He.out]; rfl, A, HJ2.out.more (by omega), HS2.out, rfl, rfl, rfl, rfl, rfl⟩
theorem jtrim_any (h : JB w0 w A d m c) (hcc : c ≤ 10000000) (hv : Bytes w v note) (hvf : note ≠ [] → ∀ k, v.ownBlock = some k → ¬ A.Foot k) : Calls Try.prog 14 #[.pointer (some ⟨A.j, 0, none⟩), .int .i64 lsn, v] w (TrimPost w0 w A (c + 4000) (m.trim d lsn note)) := by
  cases hd : m.dead with
  | true => exact jtrim_dead h hd
  | false =>
    by_cases hr : lsn < m.first ∨ m.next < lsn
    · exact jtrim_range h hcc hd hr
    · by_cases hl : 400 < note.length
      · exact jtrim_long h hcc hd (by omega) (by omega) hv hl
      · exact jtrim_go h hcc hd (by omega) (by omega) hv hvf (by omega)
end
end Go.Proofs.Ytbaphjnglkocpaa
