import Derived.Test.YtbaphjnglkocpaaJournU
import Derived.Deep.CutRange
import Derived.Laws.Shifts
/-
  The journal is opened: the records of its stream, the walk.
-/
namespace Go.Proofs.Ytbaphjnglkocpaa
open Go.RowKit
def RecPost (w0 w : World) (A : JAd) (d : Dev) (r : RM) (c : Nat) (start : Int) (o : Nat) (e : Ending) (w' : World) : Prop :=
  e = .returned (.tuple #[]) ∧ ∃ A', RB w0 w' A' d { r with stream := r.stream.take (o + (recsB (recsAll (r.stream.drop o))).length), starts := startsOf start (recsAll (r.stream.drop o)), flushed := (recsAll (r.stream.drop o)).length } c ∧ JStep w w' A A' ∧ (A'.p = A.p ∧ A'.mn = A.mn ∧ A'.ms = A.ms ∧ A'.mc = A.mc ∧ A'.j = A.j ∧ A'.s = A.s)
theorem SubRow.clip {w : World} {B : Nat} {q : Option Addr} {n cap t : Nat} {l : List UInt8} (h : SubRow w B (.slice q n cap) (bytesV l)) (ht : t ≤ l.length) : SubRow w B (.slice q t t) (bytesV (l.take t)) := by
  rcases h with ⟨e, hx⟩ | ⟨g, off, cap', e, h1, h2, h3, h4, h5, h6⟩
  · have hl : l = [] := by unfold bytesV at hx; simpa using hx
    subst hl
    obtain rfl : t = 0 := by simpa using ht
    injection e with e1
    subst e1
    exact .inl ⟨rfl, rfl⟩
  · injection e with e1 e2 e3
    subst e1
    rw [bytesV_len] at h3
    have hlen : (bytesV (l.take t)).length = t := by rw [bytesV_len, List.length_take]; omega
    refine .inr ⟨g, off, t, by rw [hlen], h1, h2, by rw [hlen]; exact Nat.le_refl _, by omega, fun j hj => h5 j (by omega), fun j u hu => h6 j u ?_⟩
    unfold bytesV at hu ⊢
    rw [List.getElem?_map, List.getElem?_take] at hu
    rw [List.getElem?_map]
    split at hu
    · exact hu
    · cases hu
theorem conv_byte (x : Nat) (_ : x < 256) (w : World) : (convert 5 3 (.int .u8 (x : Int))).run Try.prog w = .ok (.int .i64 (x : Int)) w := by
  have e : IntKind.i64.wrap (x : Int) = x := by rw [IntKind.wrap_i64]; omega
  unfold convert
  simp [run_underlying Try.underlying5, run_underlying Try.underlying3, Conv.intToInt, e]
theorem shl_byte (x : Nat) (_ : x < 256) (w : World) : (binOp .shl 3 (.int .i64 (x : Int)) (.int .u64 8)).run Try.prog w = .ok (.int .i64 ((x : Int) * 256)) w := by
  have e : binOp .shl 3 (.int .i64 (x : Int)) (.int .u64 8) = Op.shift .shl .i64 (x : Int) .u64 8 := rfl
  have e2 : IntKind.i64.wrap ((x : Int) * 256) = (x : Int) * 256 := by rw [IntKind.wrap_i64]; omega
  rw [e, shift_shl_any _ _ _ _ (by decide), show (2 : Int) ^ min (8 : Int).toNat IntKind.i64.bits = 256 from rfl, e2]
  rfl
theorem or_byte (x y : Nat) (hx : x < 256) (hy : y < 256) (w : World) : (binOp .or 3 (.int .i64 ((x : Int) * 256)) (.int .i64 (y : Int))).run Try.prog w = .ok (.int .i64 ((x * 256 + y : Nat) : Int)) w := by
  have e : binOp .or 3 (.int .i64 ((x : Int) * 256)) (.int .i64 (y : Int)) = Op.intBits .or .i64 ((x : Int) * 256) (y : Int) := by unfold binOp; simp
  rw [e]
  show (pure (Value.int .i64 (bits .or .i64 ((x : Int) * 256) (y : Int))) : Sem Value).run Try.prog w = _
  rw [or_hi_lo x y hx hy]; rfl
theorem recsB_len_ge (l : List (List UInt8)) : l.length ≤ (recsB l).length := by
  induction l with
  | nil => exact Nat.zero_le _
  | cons r l ih => rw [show recsB (r :: l) = recB r ++ recsB l from rfl, List.length_append, recB_len, List.length_cons]; omega
section
variable {w0 w wr : World} {A : JAd} {d : Dev} {r : RM} {c : Nat} {start : Int} {o : Nat}
/-- its stream is cut, the number of its records is told -/
theorem records_end {va' : Value} {done : List (List UInt8)} {qs : Option Addr} {cs : Nat} (hR : RB w0 wr { A with va := va' } d { r with starts := startsOf start done } c) (hS : JStep w wr A { A with va := va' }) (es : A.vs = .slice qs r.stream.length cs) (hl : o + (recsB done).length ≤ r.stream.length) (hd : recsAll (r.stream.drop o) = done) :
    RecPost w0 w A d r c start o (.returned (.tuple #[])) ((wr.setCell ⟨A.j, 6, none⟩ (.slice qs (o + (recsB done).length) (o + (recsB done).length))).setCell ⟨A.j, 10, none⟩ (.int .i64 (done.length : Int))) := by
  have ha := hR.at_
  have kp6 : Keeps (· = A.j) wr (wr.setCell ⟨A.j, 6, none⟩ (.slice qs (o + (recsB done).length) (o + (recsB done).length))) := Keeps.cellAt (S := (· = A.j)) rfl _
  have kp10 : Keeps (· = A.j) (wr.setCell ⟨A.j, 6, none⟩ (.slice qs (o + (recsB done).length) (o + (recsB done).length))) ((wr.setCell ⟨A.j, 6, none⟩ (.slice qs (o + (recsB done).length) (o + (recsB done).length))).setCell ⟨A.j, 10, none⟩ (.int .i64 (done.length : Int))) := Keeps.cellAt (S := (· = A.j)) rfl _
  have hkk := kp6.trans kp10
  have hown : ∀ k, (Value.slice qs (o + (recsB done).length) (o + (recsB done).length)).ownBlock = some k → A.vs.ownBlock = some k := fun k e => by rw [es]; cases qs with
    | none => cases e
    | some a => exact e
  have hsub : SubRow wr w0.heap.size (.slice qs (o + (recsB done).length) (o + (recsB done).length)) (bytesV (r.stream.take (o + (recsB done).length))) := by
    have h := ha.stream
    rw [show ({ A with va := va' } : JAd).vs = .slice qs r.stream.length cs from es] at h
    exact SubRow.clip h hl
  subst hd
  refine ⟨rfl, { A with vs := .slice qs (o + (recsB (recsAll (r.stream.drop o))).length) (o + (recsB (recsAll (r.stream.drop o))).length), va := va' }, hR.upd (m' := { r with stream := r.stream.take (o + (recsB (recsAll (r.stream.drop o))).length), starts := startsOf start (recsAll (r.stream.drop o)), flushed := ((recsAll (r.stream.drop o)).length : Int) }) (S := (· = A.j)) hkk (fun k e => .inl e) _ _ ?_ ?_ ?_ (fun k e => .inl (hown k e)) (fun k e => .inl e) (fun k e => (ha.aps k (hown k e)).2.2.2.2.1) rfl rfl rfl rfl rfl, ?_, rfl, rfl, rfl, rfl, rfl, rfl⟩
  · rw [heap_setCell _ _ _ _ _ _ _ (heap_setCell _ _ _ _ _ _ _ ha.self)]; rfl
  · exact hsub.block_keeps hkk (fun k e e' => (ha.aps k (hown k e)).2.2.1 e')
  · exact ha.starts.block_keeps hkk (fun k e e' => (ha.apa k e).2.2.1 e')
  · refine hS.trans ⟨hkk.mono (fun _ _ e => .inr (.inr (.inl e))), fun k e => ?_⟩
    rcases e with e | e | e | e | e | e
    · exact .inl (.inl e)
    · exact .inl (.inr (.inl e))
    · exact .inl (.inr (.inr (.inl e)))
    · exact .inl (.inr (.inr (.inr (.inl e))))
    · exact .inl (.inr (.inr (.inr (.inr (.inl (hown k e))))))
    · exact .inl (.inr (.inr (.inr (.inr (.inr e)))))
set_option maxRecDepth 100000 in
set_option maxHeartbeats 4000000 in
theorem records_any (h : RB w0 w A d r c) (hst : start = r.base * 470 + o) (ho : o ≤ r.stream.length) (hb0 : 0 ≤ r.base) (hb1 : r.base * 470 + r.stream.length ≤ 1000000000000) (hsl : r.stream.length ≤ 2000000) :
    Calls Try.prog 104 #[.pointer (some ⟨A.j, 0, none⟩), .int .i64 start] w (RecPost w0 w A d r c start o) := by
  obtain ⟨i0, hi0, hz0, hz1, hz2⟩ := info_parts infoI
  have H := Lib.hid h
  obtain ⟨qs, cs, es, hs1, hs2⟩ := h.at_.stream.form
  rw [bytesV_len] at es hs1
  have c7 := h.at_.cells.c7
  have c6 := h.at_.cells.c6
  have c8 := h.at_.cells.c8
  have f8 := h.at_.free 8
  rw [es] at c6
  have e1 : start - r.base * 470 = (o : Int) := by omega
  have e2 : decide ((r.stream.length : Int) < (o : Int)) = false := by simp; omega
  have hst0 : 0 ≤ start := by omega
  have hst1 : start ≤ 1000000000000 := by omega
  have Hst0 := Lib.hid hst
  have c8' : (w.alloc (.cells #[.int .i64 start] 3)).cell? ⟨A.j, 8, none⟩ = some A.va := cell_in (o := 8) (at_alloc h.at_.self _) rfl
  have f8' : (w.alloc (.cells #[.int .i64 start] 3)).frozen? ⟨A.j, 8, none⟩ = false := free_in (o := 8) (at_alloc h.at_.self _)
  clear h hst f8
  go_enter Try.func104, Try.ntmps104
  go_wp2
  have hal : Below w.heap.size w (w.alloc (.cells #[.int .i64 start] 3)) := (Below.refl _ _).alloc (Nat.le_refl _) _
  have kp : Keeps (· = A.j) (w.alloc (.cells #[.int .i64 start] 3)) ((w.alloc (.cells #[.int .i64 start] 3)).setCell ⟨A.j, 8, none⟩ (.slice (some ⟨w.heap.size, 0, none⟩) 1 1)) := Keeps.cellAt (S := (· = A.j)) rfl _
  have HJ0 := H.out.below hal
  have hltj := H.out.at_.ltj
  have hrow : SubRow ((w.alloc (.cells #[.int .i64 start] 3)).setCell ⟨A.j, 8, none⟩ (.slice (some ⟨w.heap.size, 0, none⟩) 1 1)) w0.heap.size (.slice (some ⟨w.heap.size, 0, none⟩) 1 1) (intsV (startsOf start [])) := by
    have hr : RowAt (w.alloc (.cells #[.int .i64 start] 3)) w.heap.size 1 [Value.int .i64 start] := RowAt.of_block (xs := [Value.int .i64 start]) (more := []) (T := 3) (heap_alloc_new w _)
    exact (hr.sub (by omega) (by unfold maxLen; omega) H.out.db.bel.size).block_keeps kp (fun k e e' => by have h1 : k = A.j := e'; have h2 : some w.heap.size = some k := e; have h3 := Option.some.inj h2; omega)
  have hR0 : RB w0 ((w.alloc (.cells #[.int .i64 start] 3)).setCell ⟨A.j, 8, none⟩ (.slice (some ⟨w.heap.size, 0, none⟩) 1 1)) { A with vs := A.vs, va := .slice (some ⟨w.heap.size, 0, none⟩) 1 1 } d { r with starts := startsOf start [] } c := by
    have hold := Keeps.of_below (S := (· = A.j)) hal
    refine H.out.upd (m' := { r with starts := startsOf start [] }) (S := (· = A.j)) (hold.trans kp) (fun k e => .inl e) A.vs (.slice (some ⟨w.heap.size, 0, none⟩) 1 1) ?_ ?_ hrow (fun k e => .inl e) (fun k e => .inr (by cases e; exact Nat.le_refl _)) (fun k e e' => ?_) rfl rfl rfl rfl rfl
    · rw [heap_setCell _ _ _ _ _ _ _ HJ0.at_.self]; rfl
    · exact HJ0.at_.stream.block_keeps kp (fun k e e' => (HJ0.at_.aps k e).2.2.1 e')
    · have := (H.out.at_.stream.lt k e).2; have h2 : some w.heap.size = some k := e'; have h1 := Option.some.inj h2
      omega
  have hS0 : JStep w ((w.alloc (.cells #[.int .i64 start] 3)).setCell ⟨A.j, 8, none⟩ (.slice (some ⟨w.heap.size, 0, none⟩) 1 1)) A { A with va := .slice (some ⟨w.heap.size, 0, none⟩) 1 1 } :=
    ⟨(Keeps.of_below hal).trans (kp.mono (fun _ _ e => .inr (.inr (.inl e)))), fun k e => by
      rcases e with e | e | e | e | e | e
      · exact .inl (.inl e)
      · exact .inl (.inr (.inl e))
      · exact .inl (.inr (.inr (.inl e)))
      · exact .inl (.inr (.inr (.inr (.inl e))))
      · exact .inl (.inr (.inr (.inr (.inr (.inl e)))))
      · cases e; exact .inr (Nat.le_refl _)⟩
  have Hst : Hid (∃ va', RB w0 ((w.alloc (.cells #[.int .i64 start] 3)).setCell ⟨A.j, 8, none⟩ (.slice (some ⟨w.heap.size, 0, none⟩) 1 1)) { A with va := va' } d { r with starts := startsOf start [] } c ∧ JStep w ((w.alloc (.cells #[.int .i64 start] 3)).setCell ⟨A.j, 8, none⟩ (.slice (some ⟨w.heap.size, 0, none⟩) 1 1)) A { A with va := va' }) := Lib.hid ⟨_, hR0, hS0⟩
  clear hal kp HJ0 hltj hrow hR0 hS0 c7 c6 c8 c8' f8' e1 e2
  generalize (w.alloc (.cells #[.int .i64 start] 3)).setCell ⟨A.j, 8, none⟩ (.slice (some ⟨w.heap.size, 0, none⟩) 1 1) = w1 at Hst ⊢
  go_loopw [4] (fun t wr => ∃ (done : List (List UInt8)) (va' : Value), t = .int .i64 ((o + (recsB done).length : Nat) : Int) ∧ o + (recsB done).length ≤ r.stream.length ∧ recsAll (r.stream.drop o) = done ++ recsAll (r.stream.drop (o + (recsB done).length)) ∧ RB w0 wr { A with va := va' } d { r with starts := startsOf start done } c ∧ JStep w wr A { A with va := va' }) (fun t _ => r.stream.length - (intOf t).toNat)
  case atStart =>
    obtain ⟨va', h1, h2⟩ := Hst.out
    exact ⟨[], va', rfl, ho, rfl, h1, h2⟩
  case round =>
    clear Hst
    obtain ⟨done, va', rfl, hdl, hda, hR, hS⟩ := hrel
    have hlen := hda
    obtain ⟨t, ht⟩ : ∃ t, o + (recsB done).length = t := ⟨_, rfl⟩
    have Ht := Lib.hid ht
    obtain ⟨sx, hsx⟩ : ∃ sx, (if cs = t then qs else Option.map (fun x => x.add t) qs) = sx := ⟨_, rfl⟩
    obtain ⟨K, hK⟩ : ∃ K, r.stream.length - t = K := ⟨_, rfl⟩
    have hdl' : t ≤ r.stream.length := by omega
    have hq1 : (0 : Int) ≤ (t : Int) := by omega
    have hq2 : (t : Int) ≤ (r.stream.length : Int) := by omega
    have hq3 : (r.stream.length : Int) ≤ (cs : Int) := by omega
    have hLl : (r.stream.drop t).length = K := by rw [List.length_drop, hK]
    have hBy : Bytes wr (.slice sx K (cs - t)) (r.stream.drop t) := by
      have h1 := Bytes.of_sub hR.at_.stream
      rw [show A.vs = .slice qs r.stream.length cs from es] at h1
      have h2 := Bytes.sub' (l := r.stream) h1 t hdl'
      rw [hsx, hK] at h2; exact h2
    rw [ht] at hlen hda ⊢
    by_cases hA : K < 2
    · have e5 : decide ((K : Int) < 2) = true := by simp; omega
      have Hda : Hid (recsAll (r.stream.drop o) = done) := Lib.hid (by rw [hda, recsAll_short _ (by rw [hLl]; exact hA), List.append_nil])
      clear hda hlen hBy hLl
      have hcl := fun W => clip_any W qs t cs (by omega)
      have k6 : wr.cell? ⟨A.j, 6, none⟩ = some (.slice qs r.stream.length cs) := by have := hR.at_.cells.c6; rw [← es]; exact this
      have f6 : wr.frozen? ⟨A.j, 6, none⟩ = false := hR.at_.free 6
      have k10 : wr.cell? ⟨A.j, 10, none⟩ = some (.int .i64 r.flushed) := hR.at_.cells.c10
      have f10 : wr.frozen? ⟨A.j, 10, none⟩ = false := hR.at_.free 10
      obtain ⟨qa, ca, ea, _, _⟩ := hR.at_.starts.form
      have hal : (intsV (startsOf start done)).length = done.length + 1 := by rw [intsV_len, startsOf_len]
      rw [show (intsV ({ r with starts := startsOf start done } : RM).starts).length = done.length + 1 from hal] at ea
      have k8 : wr.cell? ⟨A.j, 8, none⟩ = some (.slice qa (done.length + 1) ca) := by have := hR.at_.cells.c8; rw [← show va' = .slice qa (done.length + 1) ca from ea]; exact this
      have hdn : done.length ≤ 2000000 := by have h1 := recsB_len_ge done; omega
      have HR := Lib.hid hR
      have HS := Lib.hid hS
      clear hR hS ea hal
      go_wp2_with (go_at_call 117; (with_reducible refine (hcl _).mono ?_); rintro _ _ ⟨rfl, rfl⟩)
      go_end0
      have hfin := records_end HR.out HS.out es (by rw [Ht.out]; exact hdl') Hda.out
      rw [Ht.out] at hfin
      exact hfin
    · have e5 : decide ((K : Int) < 2) = false := by simp; omega
      obtain ⟨a, b, l, hL⟩ : ∃ a b l, r.stream.drop t = a :: b :: l := by
        match hh : r.stream.drop t with
        | [] => rw [hh] at hLl; simp at hLl; omega
        | [_] => rw [hh] at hLl; simp at hLl; omega
        | a :: b :: l => exact ⟨a, b, l, rfl⟩
      rw [hL] at hBy hda hLl
      have hll : l.length + 2 = K := by simpa using hLl
      obtain ⟨gg, rfl⟩ : ∃ gg, sx = some gg := by
        obtain ⟨q', c', e, _, _, h3⟩ := hBy
        obtain ⟨a', e', _⟩ := h3 0 a rfl
        cases e; exact ⟨a', e'⟩
      have hsp : gg.spot = none := by
        rw [show K = (a :: b :: l).length from by simp; omega] at hBy
        exact hBy.spot (by simp)
      obtain ⟨gb, go, sp⟩ := gg
      cases hsp
      rw [if_neg (by omega)] at hsx
      have ca0 := hBy.cell (j := 0) (b := a) rfl
      have ca1 := hBy.cell (j := 1) (b := b) rfl
      rw [Addr.add_mid, Nat.add_zero] at ca0
      rw [Addr.add_mid] at ca1
      obtain ⟨x, hxa⟩ : ∃ x, a.toNat = x := ⟨_, rfl⟩
      obtain ⟨y, hyb⟩ : ∃ y, b.toNat = y := ⟨_, rfl⟩
      have hx2 : x < 256 := by have := a.toNat_lt; omega
      have hy2 : y < 256 := by have := b.toNat_lt; omega
      rw [hxa] at ca0
      rw [hyb] at ca1
      obtain ⟨nn, hnn⟩ : ∃ nn, x * 256 + y = nn := ⟨_, rfl⟩
      have hnb : nn < 65536 := by omega
      have hcvA := conv_byte x hx2
      have hcvB := conv_byte y hy2
      have hshl := shl_byte x hx2
      have hbor := or_hi_lo x y hx2 hy2
      rw [hnn] at hbor
      have Hnn : Hid (a.toNat * 256 + b.toNat = nn) := Lib.hid (by rw [hxa, hyb]; exact hnn)
      clear hxa hyb hnn
      have hl1 : (0 : Int) < (K : Int) := by omega
      have hl2 : (1 : Int) < (K : Int) := by omega
      by_cases hB : nn = 0 ∨ l.length < nn
      · have Hda : Hid (recsAll (r.stream.drop o) = done) := Lib.hid (by rw [hda, recsAll_stop _ _ _ (by rw [Hnn.out]; exact hB), List.append_nil])
        clear hda hlen hBy hLl
        have eK : (K : Int) - 2 = (l.length : Int) := by omega
        have hK2 : 2 ≤ K := by omega
        have hlK : l.length ≤ 2000000 := by omega
        have k6 : wr.cell? ⟨A.j, 6, none⟩ = some (.slice qs r.stream.length cs) := by have := hR.at_.cells.c6; rw [← es]; exact this
        go_upto_region 6 with fail
        go_quiet (fail)
        try simp only [hbor]
        have HR1 := Lib.hid (hR.below (below_drewN (Below.refl _ _) nq))
        have HS1 : Hid (JStep w (wr.drewN nq) A { A with va := va' }) := Lib.hid (hS.trans (JStep.below _ (below_drewN (Below.refl _ _) nq)))
        clear hR hS k6 ca0 ca1 hcvA hcvB hshl hbor hl1 hl2
        generalize wr.drewN nq = wr at HR1 HS1 ⊢
        have hR := HR1.out
        have hS := HS1.out
        by_cases hn0 : nn = 0
        · have en : ((nn : Int) == 0) = true := by simp [hn0]
          have hcl := fun W => clip_any W qs t cs (by omega)
          have k6 : wr.cell? ⟨A.j, 6, none⟩ = some (.slice qs r.stream.length cs) := by have := hR.at_.cells.c6; rw [← es]; exact this
          have f6 : wr.frozen? ⟨A.j, 6, none⟩ = false := hR.at_.free 6
          have k10 : wr.cell? ⟨A.j, 10, none⟩ = some (.int .i64 r.flushed) := hR.at_.cells.c10
          have f10 : wr.frozen? ⟨A.j, 10, none⟩ = false := hR.at_.free 10
          obtain ⟨qa, ca, ea, _, _⟩ := hR.at_.starts.form
          have hal : (intsV (startsOf start done)).length = done.length + 1 := by rw [intsV_len, startsOf_len]
          rw [show (intsV ({ r with starts := startsOf start done } : RM).starts).length = done.length + 1 from hal] at ea
          have k8 : wr.cell? ⟨A.j, 8, none⟩ = some (.slice qa (done.length + 1) ca) := by have := hR.at_.cells.c8; rw [← show va' = .slice qa (done.length + 1) ca from ea]; exact this
          have hdn : done.length ≤ 2000000 := by have h1 := recsB_len_ge done; omega
          have HR := Lib.hid hR
          have HS := Lib.hid hS
          clear hR hS ea hal
          go_wp2_with (go_at_call 117; (with_reducible refine (hcl _).mono ?_); rintro _ _ ⟨rfl, rfl⟩)
          go_end0
          have hfin := records_end HR.out HS.out es (by rw [Ht.out]; exact hdl') Hda.out
          rw [Ht.out] at hfin
          exact hfin
        · have en : ((nn : Int) == 0) = false := by simp [hn0]
          have eg : decide ((l.length : Int) < (nn : Int)) = true := by simp; omega
          have hcl := fun W => clip_any W qs t cs (by omega)
          have k6 : wr.cell? ⟨A.j, 6, none⟩ = some (.slice qs r.stream.length cs) := by have := hR.at_.cells.c6; rw [← es]; exact this
          have f6 : wr.frozen? ⟨A.j, 6, none⟩ = false := hR.at_.free 6
          have k10 : wr.cell? ⟨A.j, 10, none⟩ = some (.int .i64 r.flushed) := hR.at_.cells.c10
          have f10 : wr.frozen? ⟨A.j, 10, none⟩ = false := hR.at_.free 10
          obtain ⟨qa, ca, ea, _, _⟩ := hR.at_.starts.form
          have hal : (intsV (startsOf start done)).length = done.length + 1 := by rw [intsV_len, startsOf_len]
          rw [show (intsV ({ r with starts := startsOf start done } : RM).starts).length = done.length + 1 from hal] at ea
          have k8 : wr.cell? ⟨A.j, 8, none⟩ = some (.slice qa (done.length + 1) ca) := by have := hR.at_.cells.c8; rw [← show va' = .slice qa (done.length + 1) ca from ea]; exact this
          have hdn : done.length ≤ 2000000 := by have h1 := recsB_len_ge done; omega
          have HR := Lib.hid hR
          have HS := Lib.hid hS
          clear hR hS ea hal
          go_wp2_with (go_at_call 117; (with_reducible refine (hcl _).mono ?_); rintro _ _ ⟨rfl, rfl⟩)
          go_end0
          have hfin := records_end HR.out HS.out es (by rw [Ht.out]; exact hdl') Hda.out
          rw [Ht.out] at hfin
          exact hfin
      · have Hda : Hid (recsAll (r.stream.drop o) = (done ++ [l.take nn]) ++ recsAll (l.drop nn)) := Lib.hid (by rw [hda, recsAll_step _ _ _ (by have := Hnn.out; omega) (by have := Hnn.out; omega), Hnn.out, List.append_assoc]; rfl)
        have hll2 : (l.take nn).length = nn := by rw [List.length_take]; omega
        have Hrb : Hid (o + (recsB (done ++ [l.take nn])).length = t + (2 + nn)) := Lib.hid (by rw [recsB_app, recsB_one, List.length_append, recB_len, hll2]; omega)
        have Hdr : Hid (r.stream.drop (t + (2 + nn)) = l.drop nn) := Lib.hid (by
          rw [← List.drop_drop, hL]
          rw [show 2 + nn = nn + 1 + 1 from by omega, List.drop_succ_cons, List.drop_succ_cons])
        have Hsa : Hid (startsOf start (done ++ [l.take nn]) = startsOf start done ++ [r.base * 470 + ((t : Int) + (2 + (nn : Int)))]) := Lib.hid (by
          rw [startsOf_app, hll2]
          congr 2
          have := Ht.out; have := Hst0.out; omega)
        clear hda hlen hBy hLl
        have e0 : ((nn : Int) == 0) = false := by simp; omega
        have eK : (K : Int) - 2 = (l.length : Int) := by omega
        have eg : decide ((l.length : Int) < (nn : Int)) = false := by simp; omega
        have hlK : l.length ≤ 2000000 := by omega
        have k6 : wr.cell? ⟨A.j, 6, none⟩ = some (.slice qs r.stream.length cs) := by have := hR.at_.cells.c6; rw [← es]; exact this
        go_upto_region 6 with fail
        go_quiet (fail)
        try simp only [hbor]
        have HR1 := Lib.hid (hR.below (below_drewN (Below.refl _ _) nq))
        have HS1 : Hid (JStep w (wr.drewN nq) A { A with va := va' }) := Lib.hid (hS.trans (JStep.below _ (below_drewN (Below.refl _ _) nq)))
        clear hR hS k6 ca0 ca1 hcvA hcvB hshl hbor hl1 hl2
        generalize wr.drewN nq = wr at HR1 HS1 ⊢
        have hR := HR1.out
        have hS := HS1.out
        go_upto_region 9 with fail
        obtain ⟨qa, ca, ea, _, _⟩ := hR.at_.starts.form
        have hal : (intsV (startsOf start done)).length = done.length + 1 := by rw [intsV_len, startsOf_len]
        have Hal := Lib.hid hal
        rw [show (intsV ({ r with starts := startsOf start done } : RM).starts).length = done.length + 1 from hal] at ea
        have ea' : va' = .slice qa (done.length + 1) ca := ea
        subst ea'
        have hB6 : Below wr.heap.size wr (wr.alloc (.cells #[.int .i64 (r.base * 470 + ((t : Int) + (2 + (nn : Int))))] 3)).drew := ((Below.refl _ _).alloc (Nat.le_refl _) _).drew
        have hst6 : SubRow (wr.alloc (.cells #[.int .i64 (r.base * 470 + ((t : Int) + (2 + (nn : Int))))] 3)).drew w0.heap.size (.slice qa (done.length + 1) ca) (intsV (startsOf start done)) := hR.at_.starts.below hB6
        have hsrc6 : Src Try.prog 1 32 (.slice (some ⟨wr.heap.size, 0, none⟩) 1 1) [Value.int .i64 (r.base * 470 + ((t : Int) + (2 + (nn : Int))))].length [.int .i64 (r.base * 470 + ((t : Int) + (2 + (nn : Int))))] (wr.alloc (.cells #[.int .i64 (r.base * 470 + ((t : Int) + (2 + (nn : Int))))] 3)).drew := src_one (w := wr.drew) Try.underlying32 _ rfl 3
        have k8a : wr.drew.cell? ⟨A.j, 8, none⟩ = some (.slice qa (done.length + 1) ca) := hR.at_.cells.c8
        have k7a : wr.drew.cell? ⟨A.j, 7, none⟩ = some (.int .i64 r.base) := hR.at_.cells.c7
        have k8b : (wr.alloc (.cells #[.int .i64 (r.base * 470 + ((t : Int) + (2 + (nn : Int))))] 3)).drew.cell? ⟨A.j, 8, none⟩ = some (.slice qa (done.length + 1) ca) := (hR.below hB6).at_.cells.c8
        have hdn : done.length ≤ 2000000 := by have h1 := recsB_len_ge done; have := Ht.out; omega
        have hb64 : r.base ≤ 1000000000000 := by omega
        have ewb : IntKind.i64.wrap (r.base * 470) = r.base * 470 := by rw [IntKind.wrap_i64]; omega
        have ewc : IntKind.i64.wrap (r.base * 470 + ((t : Int) + (2 + (nn : Int)))) = r.base * 470 + ((t : Int) + (2 + (nn : Int))) := by rw [IntKind.wrap_i64]; omega
        have HszB : Hid (w0.heap.size ≤ wr.heap.size) := Lib.hid hR.db.bel.size
        clear hR hS ea
        go_region_law (first
          | (refine step_append_sub (by rfl) _ _ _ (by rfl) 3 i0 (.int .i64 0) 8 Try.underlying32 hi0 hz0 hz1 hz2 (by rfl) w0.heap.size _ _ (by rfl) hst6 _ (by rfl) [.int .i64 (r.base * 470 + ((t : Int) + (2 + (nn : Int))))] hsrc6 (by rw [Hal.out]; simp; unfold maxLen; omega) (by rw [Hal.out]; simp; omega) (by have := HszB.out; show w0.heap.size ≤ (wr.alloc _).heap.size; simp; omega) ?_; rw [Hal.out, List.length_singleton]; intro q7 c7 w7 s7 k7' n7;
              have HK7 : Hid (Keeps (fun k => (Value.slice qa (done.length + 1) ca).ownBlock = some k) wr w7) := Lib.hid ((Keeps.of_below hB6).trans k7');
              have h7 := HK7.out.at HR1.out.at_.self (fun e => (HR1.out.at_.apa _ e).2.2.1 rfl); have H7 := Lib.hid h7;
              have k11 := cell_in (o := 8) (u := .slice qa (done.length + 1) ca) h7 rfl; have f8 := free_in (o := 8) h7; clear h7 k7'))
        all_goals
          go_wp2
          go_roundw
          case measure => simp [intOf]; omega
          case rel =>
            rw [← es]
            have kp8 : Keeps (· = A.j) w7 (w7.setCell ⟨A.j, 8, none⟩ (.slice q7 (done.length + 1 + 1) c7)) := Keeps.cellAt (S := (· = A.j)) rfl _
            have hn7 : ∀ k, (Value.slice q7 (done.length + 1 + 1) c7).ownBlock = some k → (Value.slice qa (done.length + 1) ca).ownBlock = some k ∨ wr.heap.size ≤ k := fun k e => by
              rcases n7 with e' | e'
              · exact .inl (e'.symm.trans e)
              · right; rw [e] at e'; have h1 := Option.some.inj e'; have h2 : (wr.alloc (.cells #[.int .i64 (r.base * 470 + ((t : Int) + (2 + (nn : Int))))] 3)).drew.heap.size = wr.heap.size + 1 := by show (wr.alloc _).heap.size = _; simp
                omega
            have hK18 : Keeps (fun k => k = A.j ∨ (Value.slice qa (done.length + 1) ca).ownBlock = some k) wr (w7.setCell ⟨A.j, 8, none⟩ (.slice q7 (done.length + 1 + 1) c7)) := (HK7.out.mono (fun _ _ e => .inr e)).trans (kp8.mono (fun _ _ e => .inl e))
            have hnj : ∀ k, (Value.slice q7 (done.length + 1 + 1) c7).ownBlock = some k → ¬ k = A.j := fun k e e' => by
              rcases hn7 k e with e2 | e2
              · exact (HR1.out.at_.apa k e2).2.2.1 e'
              · exact (HR1.out.at_.new HR1.out.db.lay e2).2.2.1 e'
            refine ⟨done ++ [l.take nn], by have := Hrb.out; omega, by rw [Hrb.out]; omega, by rw [Hrb.out, Hdr.out]; exact Hda.out, .slice q7 (done.length + 1 + 1) c7, HR1.out.upd (m' := { r with starts := startsOf start (done ++ [l.take nn]) }) hK18 (fun k e => by rcases e with e | e; exact .inl e; exact .inr (.inr e)) A.vs (.slice q7 (done.length + 1 + 1) c7)
              (by rw [heap_setCell _ _ _ _ _ _ _ H7.out]; rfl)
              ((HR1.out.at_.stream.block_keeps HK7.out (fun k e e' => (HR1.out.at_.aps k e).2.2.2.2.1 e')).block_keeps kp8 (fun k e e' => (HR1.out.at_.aps k e).2.2.1 e'))
              (by
                have h := s7.block_keeps kp8 hnj
                show SubRow _ _ _ (intsV (startsOf start (done ++ [l.take nn])))
                rw [Hsa.out]; unfold intsV at h ⊢; rw [List.map_append]; exact h)
              (fun k e => .inl e) (fun k e => hn7 k e)
              (fun k e e' => by
                rcases hn7 k e' with e2 | e2
                · exact (HR1.out.at_.aps k e).2.2.2.2.1 e2
                · have := (HR1.out.at_.stream.lt k e).2; omega)
              rfl rfl rfl rfl rfl, HS1.out.trans ⟨hK18.mono (fun k _ e => by rcases e with e | e; exact .inr (.inr (.inl e)); exact .inr (.inr (.inr (.inr (.inr e))))), fun k e => ?_⟩⟩
            rcases e with e | e | e | e | e | e
            · exact .inl (.inl e)
            · exact .inl (.inr (.inl e))
            · exact .inl (.inr (.inr (.inl e)))
            · exact .inl (.inr (.inr (.inr (.inl e))))
            · exact .inl (.inr (.inr (.inr (.inr (.inl e)))))
            · rcases hn7 k e with e' | e'
              · exact .inl (.inr (.inr (.inr (.inr (.inr e')))))
              · exact .inr e'
end
end Go.Proofs.Ytbaphjnglkocpaa
