import Derived.Test.YtbaphjnglkocpaaJournE
import Derived.Deep.RegionHeld3
import Derived.Laws.Shifts
/-
  The journal: a record is put.
-/
namespace Go.Proofs.Ytbaphjnglkocpaa
open Go.RowKit
def JM.add (m : JM) (r : List UInt8) : JM := { m with recs := m.recs ++ [r] }
/-- what Append and Spend do -/
def JM.put (m : JM) (r : List UInt8) (others : Int) : Int × Int × JM :=
  if m.dead then (0, 3, m)
  else if r.length = 0 ∨ 4096 < r.length then (0, 2, m)
  else if m.free - others < r.length + 2 then (0, 5, m)
  else (m.next, 0, m.add r)
theorem JM.add_stream (m : JM) (r : List UInt8) : (m.add r).stream = m.stream ++ recB r := by
  unfold JM.stream JM.add; rw [recsB_app, recsB_one, List.append_assoc]
theorem JM.add_starts (m : JM) (r : List UInt8) : (m.add r).starts = m.starts ++ [m.fin + 2 + r.length] := by
  unfold JM.starts JM.add
  rw [startsOf_app]
  congr 2
  show m.base * 470 + (m.pre.length : Int) + _ + 2 + _ = m.base * 470 + ((m.pre ++ recsB m.recs).length : Int) + 2 + _
  rw [List.length_append]
  omega
theorem JM.Ok.add {m : JM} {d : Dev} {c : Nat} {r : List UInt8} (h : m.Ok d c) (h1 : r.length ≠ 0) (h2 : r.length ≤ 4096) (h3 : ((r.length : Nat) : Int) + 2 ≤ m.free) : (m.add r).Ok d (c + 1) := by
  have h' := h.more (Nat.le_succ c)
  have hs : ((m.add r).stream.length : Int) = m.stream.length + 2 + r.length := by rw [m.add_stream, List.length_append, recB_len]; omega
  have hf := h.b2
  have hn := h.f2
  unfold JM.fin at hf
  unfold JM.next at hn
  unfold JM.free at h3
  refine { h' with b2 := ?_, rs := ?_, room := ?_, f2 := ?_, fl := ?_ }
  · unfold JM.fin; rw [hs]; show m.base * 470 + _ ≤ _; omega
  · intro x hx
    rcases List.mem_append.1 hx with hx | hx
    · exact h.rs x hx
    · simp at hx; subst hx; omega
  · rw [hs]; show _ ≤ m.n * 470; omega
  · unfold JM.next JM.add; simp; omega
  · unfold JM.add; simp; have := h.fl; omega
/-- where a call leaves a journal: what it may have changed, and where the new rows lie -/
def JStep (w w' : World) (A A' : JAd) : Prop := Keeps A.Foot w w' ∧ ∀ k, A'.Foot k → A.Foot k ∨ w.heap.size ≤ k
theorem JStep.refl (w : World) (A : JAd) : JStep w w A A := ⟨Keeps.refl _ _, fun _ h => .inl h⟩
theorem JStep.below {w w' : World} (A : JAd) (h : Below w.heap.size w w') : JStep w w' A A := ⟨Keeps.of_below h, fun _ h => .inl h⟩
theorem JStep.trans {w w1 w2 : World} {A A1 A2 : JAd} (h1 : JStep w w1 A A1) (h2 : JStep w1 w2 A1 A2) : JStep w w2 A A2 :=
  ⟨h1.1.trans' h2.1 (fun i hi hf => by rcases h1.2 i hf with h | h; exact h; omega), fun k hk => by
    rcases h2.2 k hk with h | h
    · exact h1.2 k h
    · have := h1.1.size; exact .inr (by omega)⟩
def PutPost (w0 w : World) (A : JAd) (d : Dev) (c : Nat) (x : Int × Int × JM) (e : Ending) (w' : World) : Prop :=
  e = .returned (.tuple #[.int .i64 x.1, errV x.2.1]) ∧ ∃ A', JB w0 w' A' d x.2.2 c ∧ JStep w w' A A' ∧ (A'.p = A.p ∧ A'.mn = A.mn ∧ A'.ms = A.ms ∧ A'.mc = A.mc ∧ A'.j = A.j)
theorem src_two {P : Program} {w : World} {t e : TypeId} (ht : P.underlying t = some (.slice e)) (x y : Value) (hx : x.oneCell' = true) (hy : y.oneCell' = true) (T : TypeId) : Src P 1 t (.slice (some ⟨w.heap.size, 0, none⟩) 2 2) [x, y].length [x, y] (w.alloc (.cells #[x, y] T)) := by
  refine Src.ofSlice _ ht ⟨w.heap.size, 0, none⟩ 2 2 _ (by simp) (fun j u hu => ?_) (fun u hu => by simp at hu; rcases hu with rfl | rfl <;> assumption)
  match j, hu with
  | 0, hu => simp at hu; subst hu; exact cell_in (heap_alloc_new w _) rfl
  | 1, hu => simp at hu; subst hu; exact cell_in (heap_alloc_new w _) rfl
theorem rec_bytes (n : Nat) (l : List UInt8) (h : l.length = n) (h2 : n ≤ 4096) : [Value.int .u8 ((n / 256 : Nat) : Int), .int .u8 ((n % 256 : Nat) : Int)] ++ bytesV l = bytesV (recB l) := by
  subst h
  unfold recB bytesV
  rw [List.map_cons, List.map_cons]
  have e1 : byteV (UInt8.ofNat (l.length / 256)) = .int .u8 ((l.length / 256 : Nat) : Int) := byteV_of (by omega)
  have e2 : byteV (UInt8.ofNat l.length) = .int .u8 ((l.length % 256 : Nat) : Int) := by
    unfold byteV; rw [UInt8.toNat_ofNat']
  rw [e1, e2]; rfl
section
variable {w0 w : World} {A : JAd} {m : JM} {d : Dev} {c : Nat} {v : Value} {r : List UInt8} {others : Int}
theorem jput_dead (h : JB w0 w A d m c) (hd : m.dead = true) : Calls Try.prog 51 #[.pointer (some ⟨A.j, 0, none⟩), v, .int .i64 others] w (PutPost w0 w A d (c + 1) (m.put r others)) := by
  have hm := makeErr 3
  have hdd := jdead_any h.at_
  rw [hd] at hdd
  have Hx : Hid (m.put r others = (0, 3, m)) := Lib.hid (by unfold JM.put; rw [if_pos hd])
  have H := Lib.hid h
  clear h hd
  go_enter Try.func51, Try.ntmps51
  go_wp2_with (go_at_call 41; (with_reducible refine hdd.mono ?_); rintro _ _ ⟨rfl, rfl⟩)
  go_ret2
  rw [Hx.out]
  exact ⟨rfl, A, H.out.more (Nat.le_succ c), JStep.refl _ _, rfl, rfl, rfl, rfl, rfl⟩
theorem jput_form (h : JB w0 w A d m c) (hd : m.dead = false) (hv : Bytes w v r) (hr : r.length = 0 ∨ 4096 < r.length) : Calls Try.prog 51 #[.pointer (some ⟨A.j, 0, none⟩), v, .int .i64 others] w (PutPost w0 w A d (c + 1) (m.put r others)) := by
  have hm := makeErr 2
  have hdd := jdead_any h.at_
  rw [hd] at hdd
  have Hx : Hid (m.put r others = (0, 2, m)) := Lib.hid (by unfold JM.put; rw [if_neg (by simp [hd]), if_pos hr])
  have H := Lib.hid h
  obtain ⟨q, cap, rfl, h1, h2, h3⟩ := hv
  clear h hd h3
  rcases hr with hr | hr
  · have e1 : ((r.length : Int) == 0) = true := by simp [hr]
    go_enter Try.func51, Try.ntmps51
    go_wp2_with (go_at_call 41; (with_reducible refine hdd.mono ?_); rintro _ _ ⟨rfl, rfl⟩)
    go_ret2
    rw [Hx.out]
    exact ⟨rfl, A, H.out.more (Nat.le_succ c), JStep.refl _ _, rfl, rfl, rfl, rfl, rfl⟩
  · have e1 : ((r.length : Int) == 0) = false := by simp; intro e; subst e; simp at hr
    have e2 : decide ((4096 : Int) < (r.length : Int)) = true := by simp; omega
    go_enter Try.func51, Try.ntmps51
    go_wp2_with (go_at_call 41; (with_reducible refine hdd.mono ?_); rintro _ _ ⟨rfl, rfl⟩)
    go_ret2
    rw [Hx.out]
    exact ⟨rfl, A, H.out.more (Nat.le_succ c), JStep.refl _ _, rfl, rfl, rfl, rfl, rfl⟩
theorem jput_full (h : JB w0 w A d m c) (hd : m.dead = false) (hv : Bytes w v r) (h0 : r.length ≠ 0) (h1 : r.length ≤ 4096) (ho : 0 ≤ others) (ho2 : others ≤ 1000000) (hf : m.free - others < r.length + 2) :
    Calls Try.prog 51 #[.pointer (some ⟨A.j, 0, none⟩), v, .int .i64 others] w (PutPost w0 w A d (c + 1) (m.put r others)) := by
  have hm := makeErr 5
  have hdd := jdead_any h.at_
  rw [hd] at hdd
  have hfr := jfree_any h.at_ h.ok
  have Hx : Hid (m.put r others = (0, 5, m)) := Lib.hid (by unfold JM.put; rw [if_neg (by simp [hd]), if_neg (by omega), if_pos hf])
  have H := Lib.hid h
  have f1 : 0 ≤ m.free := by have := h.ok.room; unfold JM.free; omega
  have f2 : m.free ≤ 1000000 := by have := h.ok.n2; unfold JM.free; omega
  obtain ⟨q, cap, rfl, g1, g2, g3⟩ := hv
  have e1 : ((r.length : Int) == 0) = false := by simp; intro e; subst e; simp at h0
  have e2 : decide ((4096 : Int) < (r.length : Int)) = false := by simp; omega
  have e3 : decide (m.free - others < (r.length : Int) + 2) = true := by simp; omega
  generalize m.free = F at hfr f1 f2 e3 hf
  clear h hd g3
  go_enter Try.func51, Try.ntmps51
  go_wp2_with (first | (go_at_call 41; (with_reducible refine hdd.mono ?_); rintro _ _ ⟨rfl, rfl⟩) | (go_at_call 13; (with_reducible refine hfr.mono ?_); rintro _ w1 ⟨rfl, b1⟩))
  go_ret2
  rw [Hx.out]
  exact ⟨rfl, A, (H.out.below b1).more (Nat.le_succ c), JStep.below A b1, rfl, rfl, rfl, rfl, rfl⟩
set_option maxRecDepth 100000 in
set_option maxHeartbeats 1000000 in
theorem jput_ok (h : JB w0 w A d m c) (hcc : c ≤ 10000000) (hd : m.dead = false) (hv : Bytes w v r) (hvf : ∀ k, v.ownBlock = some k → ¬ A.Foot k) (h0 : r.length ≠ 0) (h1 : r.length ≤ 4096) (ho : 0 ≤ others) (ho2 : others ≤ 1000000) (hf : ¬ m.free - others < r.length + 2) :
    Calls Try.prog 51 #[.pointer (some ⟨A.j, 0, none⟩), v, .int .i64 others] w (PutPost w0 w A d (c + 1) (m.put r others)) := by
  obtain ⟨i8, hi8, hz8, hz81, hz82⟩ := info_parts info8
  obtain ⟨i0, hi0, hz0, hz1, hz2⟩ := info_parts infoI
  have hdd := jdead_any h.at_
  rw [hd] at hdd
  have hfr := jfree_any h.at_ h.ok
  have Hx : Hid (m.put r others = (m.next, 0, m.add r)) := Lib.hid (by unfold JM.put; rw [if_neg (by simp [hd]), if_neg (by omega), if_neg hf])
  have Hok : Hid ((m.add r).Ok d (c + 1)) := Lib.hid (h.ok.add h0 h1 (by omega))
  have H := Lib.hid h
  have Hv := Lib.hid hv
  have Hvf := Lib.hid hvf
  have f1 : 0 ≤ m.free := by have := h.ok.room; unfold JM.free; omega
  have f2 : m.free ≤ 1000000 := by have := h.ok.n2; unfold JM.free; omega
  have hsl : m.stream.length ≤ 1000000 := by have := h.ok.room; have := h.ok.n2; omega
  have Hrl : Hid (m.recs.length ≤ 100000000) := Lib.hid (by have := h.ok.f2; have := h.ok.f1; unfold JM.next at *; omega)
  have Hfin : Hid (0 ≤ m.base ∧ m.base * 470 + (m.stream.length + 2 + r.length : Nat) ≤ 1000000000000 ∧ m.fin = m.base * 470 + m.stream.length) := Lib.hid ⟨h.ok.b1, by have := h.ok.b2; unfold JM.fin at this; omega, rfl⟩
  have e1 : ((r.length : Int) == 0) = false := by simp; intro e; subst e; simp at h0
  have e2 : decide ((4096 : Int) < (r.length : Int)) = false := by simp; omega
  have e3 : decide (m.free - others < (r.length : Int) + 2) = false := by simp; omega
  obtain ⟨q, cap, rfl, g1, g2, g3⟩ := hv
  generalize m.free = F at hfr f1 f2 e3 hf
  clear h hd g3 hvf
  go_enter Try.func51, Try.ntmps51
  go_upto_region 7 with (first | (go_at_call 41; (with_reducible refine hdd.mono ?_); rintro _ _ ⟨rfl, rfl⟩) | (go_at_call 13; (with_reducible refine hfr.mono ?_); rintro _ w1 ⟨rfl, b1⟩))
  have H1 := Lib.hid (H.out.below b1)
  have Hv1 := Lib.hid (Hv.out.below b1)
  have B1 := Lib.hid b1
  obtain ⟨qs, cs, es, cs1, cs2⟩ := H1.out.at_.vsForm
  have hj1 := H1.out.at_.self
  have hst1 := H1.out.at_.stream
  have c6 := cell_in (o := 6) (u := A.vs) hj1 rfl
  rw [es] at c6 hst1
  have Hj1 := Lib.hid hj1
  have Hal : Hid (∀ a b, Below w1.heap.size w1 (w1.alloc (.cells #[a, b] 5))) := Lib.hid (fun _ _ => (Below.refl _ _).alloc (Nat.le_refl _) _)
  have Hst1 := Lib.hid hst1
  have hB0 : w0.heap.size ≤ w1.heap.size := H1.out.db.bel.size
  have hsr : ∀ w, (binOp .shr 3 (.int .i64 (r.length : Int)) (.int .u64 8)).run Try.prog w = .ok (.int .i64 ((r.length / 256 : Nat) : Int)) w := by
    intro w
    have e : binOp .shr 3 (.int .i64 (r.length : Int)) (.int .u64 8) = Op.shift .shr .i64 (r.length : Int) .u64 8 := rfl
    rw [e, shift_shr_any _ _ _ _ (by decide)]
    rfl
  have hu1 : IntKind.u8.wrap (((r.length / 256 : Nat) : Int)) = ((r.length / 256 : Nat) : Int) := by rw [IntKind.wrap_u8]; omega
  have hu2 : IntKind.u8.wrap ((r.length : Nat) : Int) = ((r.length % 256 : Nat) : Int) := by rw [IntKind.wrap_u8]; omega
  clear hj1 hst1 H Hv
  have Hal2 := Lib.hid (Hal.out (.int .u8 ((r.length / 256 : Nat) : Int)) (.int .u8 ((r.length % 256 : Nat) : Int)))
  have hst2 := Hst1.out.below Hal2.out
  have hsrc2 := src_two (P := Try.prog) (w := w1) Try.underlying39 (.int .u8 ((r.length / 256 : Nat) : Int)) (.int .u8 ((r.length % 256 : Nat) : Int)) rfl rfl 5
  have Hl2 : Hid ((bytesV m.stream ++ [Value.int .u8 ((r.length / 256 : Nat) : Int), Value.int .u8 ((r.length % 256 : Nat) : Int)]).length = m.stream.length + 2) := Lib.hid (by rw [List.length_append, bytesV_len]; rfl)
  have Hl3 : Hid ((bytesV m.stream ++ [Value.int .u8 ((r.length / 256 : Nat) : Int), Value.int .u8 ((r.length % 256 : Nat) : Int)] ++ bytesV r).length = m.stream.length + 2 + r.length) := Lib.hid (by rw [List.length_append, List.length_append, bytesV_len, bytesV_len]; rfl)
  have Hvs : Hid (∀ k, (Value.slice qs m.stream.length cs).ownBlock = some k → A.vs.ownBlock = some k) := Lib.hid (fun k e => by rw [es]; exact e)
  go_upto_region 8 with (first
    | (at_builtin; refine wpList_append_sub _ rfl _ _ 39 rfl 5 i8 (.int .u8 0) 1 Try.underlying39 hi8 hz8 hz81 hz82 rfl w0.heap.size _ _ rfl hst2 _ rfl _ hsrc2 (by rw [bytesV_len]; simp; unfold maxLen; omega) (by rw [bytesV_len]; simp; omega) (by simp; omega) ?_; intro v2 w2 s2 k2 n2; clear hst2 hsrc2;
        have HK2 : Hid (Keeps (fun k => A.vs.ownBlock = some k) w1 w2) := Lib.hid ((Keeps.of_below Hal2.out).trans (k2.mono (fun k _ e => Hvs.out k e)));
        have HN2 : Hid (∀ k, v2.ownBlock = some k → A.vs.ownBlock = some k ∨ w1.heap.size ≤ k) := Lib.hid (fun k e => by rcases n2 with e' | e'; exact .inl (Hvs.out k (e'.symm.trans e)); right; rw [e] at e'; simp at e'; omega);
        have hv2 := Hv1.out.keeps HK2.out (fun k e e' => Hvf.out k e (.inr (.inr (.inr (.inr (.inl e'))))));
        have hsrc3 := hv2.src; have hB2 : w0.heap.size ≤ w2.heap.size := Nat.le_trans hB0 HK2.out.size; obtain ⟨q2, c2, ef2, gc1, gc2⟩ := s2.form; rw [Hl2.out] at ef2 gc1; subst ef2; clear k2 n2 hv2)
    | (at_builtin; refine wpList_append_sub _ rfl _ _ 39 rfl 5 i8 (.int .u8 0) 1 Try.underlying39 hi8 hz8 hz81 hz82 rfl w0.heap.size _ _ rfl s2 _ rfl _ hsrc3 (by rw [List.length_append, bytesV_len, bytesV_len]; simp; unfold maxLen; omega) (by rw [List.length_append, bytesV_len, bytesV_len]; simp; omega) hB2 ?_; intro v3 w3 s3 k3 n3; clear hsrc3 s2;
        have HK3 : Hid (Keeps (fun k => A.vs.ownBlock = some k) w1 w3) := Lib.hid (HK2.out.trans' k3 (fun i hi e => by rcases HN2.out i e with e' | e'; exact e'; omega));
        have HN3 : Hid (∀ k, v3.ownBlock = some k → A.vs.ownBlock = some k ∨ w1.heap.size ≤ k) := Lib.hid (fun k e => by rcases n3 with e' | e'; exact HN2.out k (e'.symm.trans e); right; rw [e] at e'; have := HK2.out.size; simp at e'; omega);
        obtain ⟨q3, c3, ef3, gd1, gd2⟩ := s3.form; rw [Hl3.out] at ef3 gd1; subst ef3; have hj3 := HK3.out.at Hj1.out (fun e => (H1.out.at_.aps _ e).2.2.1 rfl); have Hj3 := Lib.hid hj3; have c6' := cell_in (o := 6) (u := .slice qs m.stream.length cs) hj3 (by rw [← es]; rfl); have f6' := free_in (o := 6) hj3; clear hj3 k3 n3))
  have kp4 : Keeps (· = A.j) w3 (w3.setCell ⟨A.j, 6, none⟩ (.slice q3 (m.stream.length + 2 + r.length) c3)) := Keeps.cellAt (S := (· = A.j)) rfl _
  have h4 : (w3.setCell ⟨A.j, 6, none⟩ (.slice q3 (m.stream.length + 2 + r.length) c3)).heap[A.j]? = some (.cells #[.pointer (some ⟨A.p, 0, none⟩), .int .i64 m.at_, .int .i64 m.n, .pointer (some ⟨A.s, 0, none⟩), .int .i64 m.gen, .map (some A.mg), .slice q3 (m.stream.length + 2 + r.length) c3, .int .i64 m.base, A.va, .int .i64 m.first, .int .i64 m.flushed, .int .i64 m.booked, A.vn, .bool m.dead] 93 (0, 0)) := by
    rw [heap_setCell _ _ _ _ _ _ _ Hj3.out]; rfl
  have hnj : ∀ k, (Value.slice q3 (m.stream.length + 2 + r.length) c3).ownBlock = some k → k ≠ A.j ∧ A.va.ownBlock ≠ some k := fun k e => by
    rcases HN3.out k e with e' | e'
    · have := H1.out.at_.aps k e'; exact ⟨this.2.2.1, this.2.2.2.2.1⟩
    · have := H1.out.at_.new H1.out.db.lay e'; exact ⟨this.2.2.1, this.2.2.2.2.2.1⟩
  have Hnj := Lib.hid hnj
  have HK4 : Hid (Keeps (fun k => k = A.j ∨ A.vs.ownBlock = some k) w1 (w3.setCell ⟨A.j, 6, none⟩ (.slice q3 (m.stream.length + 2 + r.length) c3))) := Lib.hid ((HK3.out.mono (fun _ _ e => .inr e)).trans (kp4.mono (fun _ _ e => .inl e)))
  have s4 := s3.block_keeps kp4 (fun k e => (hnj k e).1)
  have Hs4 := Lib.hid s4
  generalize w3.setCell ⟨A.j, 6, none⟩ (.slice q3 (m.stream.length + 2 + r.length) c3) = w4 at h4 HK4 Hs4 ⊢
  have H4 := Lib.hid h4
  obtain ⟨qa, ca, ea, ca1, ca2⟩ := H1.out.at_.vaForm
  have hsa4 := H1.out.at_.starts.block_keeps HK4.out (fun k e e' => by
    rcases e' with rfl | e'
    · exact (H1.out.at_.apa _ e).2.2.1 rfl
    · exact (H1.out.at_.aps k e').2.2.2.2.1 e)
  rw [ea] at hsa4 h4
  have hend := jend_any (w := w4.drew) (cell_in (W := w4.drew) (o := 7) (u := .int .i64 m.base) h4 rfl) (cell_in (W := w4.drew) (o := 6) (u := .slice q3 (m.stream.length + 2 + r.length) c3) h4 rfl) Hfin.out.1 Hfin.out.2.1
  have K8 : Hid (w4.drew.cell? ⟨A.j, 8, none⟩ = some (.slice qa (m.recs.length + 1) ca)) := Lib.hid (cell_in (W := w4.drew) (o := 8) h4 rfl)
  have Hsa4 := Lib.hid hsa4
  have Hea : Hid (∀ k, (Value.slice qa (m.recs.length + 1) ca).ownBlock = some k → A.va.ownBlock = some k) := Lib.hid (fun k e => by rw [ea]; exact e)
  clear kp4 h4 hnj s3 s4 hsa4 HK3 HN2 HK2 Hj3 hfr hdd Hst1 Hal Hal2 Hv1 Hvs Hl2 g1 gc1 gc2 gd1 gd2 hsr hu1 hu2 c6 c6' f6'
  have HB4 : Hid (w0.heap.size ≤ w4.heap.size) := Lib.hid (Nat.le_trans hB0 HK4.out.size)
  have H1' : Hid (1 + (m.recs.length + 1) ≤ 200000000) := Lib.hid (by have := Hrl.out; omega)
  have Hil : Hid ((intsV m.starts).length = m.recs.length + 1) := Lib.hid (by rw [intsV_len, JM.starts, startsOf_len])
  generalize hL : m.stream.length + 2 + r.length = L at *
  have k8 := K8.out
  go_region_law (first
    | (go_simp; go_at_call 77; (with_reducible refine hend.mono ?_); rintro _ w5 ⟨rfl, b5⟩; have B5 : Hid (Below w4.heap.size w4 w5) := Lib.hid (((Below.refl _ _).drew).trans b5); clear b5;
        have B6 : Hid (Below w5.heap.size w5 (w5.alloc (.cells #[.int .i64 (m.base * 470 + (L : Int))] 3))) := Lib.hid ((Below.refl _ _).alloc (Nat.le_refl _) _);
        have hsa6 := (Hsa4.out.below B5.out).below B6.out; have hsrc6 := src_one (P := Try.prog) (w := w5) Try.underlying32 (.int .i64 (m.base * 470 + (L : Int))) rfl 3;
        have k9 : w5.cell? ⟨A.j, 8, none⟩ = some (.slice qa (m.recs.length + 1) ca) := cell_in (o := 8) ((Keeps.of_below (S := fun _ => False) B5.out).at H4.out (fun e => e)) (by rw [← ea]; rfl);
        have k10 : (w5.alloc (.cells #[.int .i64 (m.base * 470 + (L : Int))] 3)).cell? ⟨A.j, 8, none⟩ = some (.slice qa (m.recs.length + 1) ca) := cell_in (o := 8) ((Keeps.of_below (S := fun _ => False) B6.out).at ((Keeps.of_below (S := fun _ => False) B5.out).at H4.out (fun e => e)) (fun e => e)) (by rw [← ea]; rfl))
    | (refine step_append_sub (by rfl) _ _ _ (by rfl) 3 i0 (.int .i64 0) 8 Try.underlying32 hi0 hz0 hz1 hz2 (by rfl) w0.heap.size _ _ (by rfl) hsa6 _ (by rfl) [.int .i64 (m.base * 470 + (L : Int))] hsrc6 (by rw [Hil.out]; have := H1'.out; simp; unfold maxLen; omega) (by rw [Hil.out]; have := H1'.out; simp; omega) (by have := B5.out.size; have := HB4.out; simp; omega) ?_; rw [Hil.out, List.length_singleton]; intro q7 c7 w7 s7 k7 n7;
        have HK7 : Hid (Keeps (fun k => A.va.ownBlock = some k) w4 w7) := Lib.hid ((Keeps.of_below B5.out).trans ((Keeps.of_below B6.out).trans (k7.mono (fun k _ e => Hea.out k e))));
        have h7 := HK7.out.at H4.out (fun e => (H1.out.at_.apa _ e).2.2.1 rfl); have H7 := Lib.hid h7;
        have k11 : w7.cell? ⟨A.j, 8, none⟩ = some (.slice qa (m.recs.length + 1) ca) := cell_in (o := 8) h7 (by rw [← ea]; rfl); have f8 := free_in (o := 8) h7; clear h7 k7))
  all_goals
    have kp8 : Keeps (· = A.j) w7 (w7.setCell ⟨A.j, 8, none⟩ (.slice q7 (m.recs.length + 1 + 1) c7)) := Keeps.cellAt (S := (· = A.j)) rfl _
    have hsz7 := B5.out.size
    have hsz4 := HK4.out.size
    have hn7 : ∀ k, (Value.slice q7 (m.recs.length + 1 + 1) c7).ownBlock = some k → A.va.ownBlock = some k ∨ w4.heap.size ≤ k := fun k e => by
      rcases n7 with e' | e'
      · exact .inl (Hea.out k (e'.symm.trans e))
      · right; rw [e] at e'; simp at e'; omega
    have hK18 : Keeps (fun k => k = A.j ∨ A.vs.ownBlock = some k ∨ A.va.ownBlock = some k) w1 (w7.setCell ⟨A.j, 8, none⟩ (.slice q7 (m.recs.length + 1 + 1) c7)) :=
      ((HK4.out.mono (fun k _ e => by rcases e with e | e; exact .inl e; exact .inr (.inl e))).trans (HK7.out.mono (fun _ _ e => .inr (.inr e)))).trans (kp8.mono (fun _ _ e => .inl e))
    have HS : Hid (JStep w (w7.setCell ⟨A.j, 8, none⟩ (.slice q7 (m.recs.length + 1 + 1) c7)) A { A with vs := .slice q3 L c3, va := .slice q7 (m.recs.length + 1 + 1) c7 }) := Lib.hid
      ⟨(Keeps.of_below b1).trans (hK18.mono (fun k _ e => by rcases e with e | e | e; exact .inr (.inr (.inl e)); exact .inr (.inr (.inr (.inr (.inl e)))); exact .inr (.inr (.inr (.inr (.inr e)))))), fun k e => by
        have hb1 := b1.size
        rcases e with e | e | e | e | e | e
        · exact .inl (.inl e)
        · exact .inl (.inr (.inl e))
        · exact .inl (.inr (.inr (.inl e)))
        · exact .inl (.inr (.inr (.inr (.inl e))))
        · rcases HN3.out k e with e' | e'
          · exact .inl (.inr (.inr (.inr (.inr (.inl e')))))
          · exact .inr (Nat.le_trans hb1 e')
        · rcases hn7 k e with e' | e'
          · exact .inl (.inr (.inr (.inr (.inr (.inr e')))))
          · exact .inr (Nat.le_trans hb1 (Nat.le_trans hsz4 e'))⟩
    have hfin : JB w0 (w7.setCell ⟨A.j, 8, none⟩ (.slice q7 (m.recs.length + 1 + 1) c7)) { A with vs := .slice q3 L c3, va := .slice q7 (m.recs.length + 1 + 1) c7 } d (m.add r) (c + 1) :=
      H1.out.upd (m' := m.add r) (S := fun k => k = A.j ∨ A.vs.ownBlock = some k ∨ A.va.ownBlock = some k) (Nat.le_succ c)
        hK18 (fun _ e => e) _ _
        (by rw [heap_setCell _ _ _ _ _ _ _ H7.out]; rfl)
        (by
          have h := (Hs4.out.block_keeps HK7.out (fun k e e' => (Hnj.out k e).2 e')).block_keeps kp8 (fun k e => (Hnj.out k e).1)
          rw [List.append_assoc, rec_bytes _ r rfl h1] at h
          rw [JM.add_stream]; unfold bytesV at h ⊢; rw [List.map_append]; exact h)
        (by
          have h := s7.block_keeps kp8 (fun k e => by
            rcases hn7 k e with e' | e'
            · exact (H1.out.at_.apa k e').2.2.1
            · exact (H1.out.at_.new H1.out.db.lay (Nat.le_trans hsz4 e')).2.2.1)
          rw [JM.add_starts]; unfold intsV at h ⊢; rw [List.map_append, Hfin.out.2.2]
          rw [show m.base * 470 + (m.stream.length : Int) + 2 + (r.length : Int) = m.base * 470 + (L : Int) from by rw [← hL]; omega]
          exact h)
        (fun k e => HN3.out k e)
        (fun k e => by rcases hn7 k e with e' | e'; exact .inl e'; exact .inr (Nat.le_trans hsz4 e'))
        (fun k e e' => by
          rcases hn7 k e' with e2 | e2
          · exact (Hnj.out k e).2 e2
          · have := (Hs4.out.lt k e).2; omega)
        rfl rfl rfl rfl rfl Hok.out
    have Hfin2 := Lib.hid hfin
    have hnx := jnext_any hfin.at_ hfin.ok (by omega)
    have Hnx : Hid ((m.add r).next = m.next + 1) := Lib.hid (by unfold JM.next JM.add; simp; omega)
    have hnx0 : 0 ≤ m.next := by have := H1.out.ok.f1; unfold JM.next; omega
    have hnx1 : m.next ≤ 100000000 := by have := H1.out.ok.f2; omega
    rw [Hnx.out] at hnx
    generalize w7.setCell ⟨A.j, 8, none⟩ (.slice q7 (m.recs.length + 1 + 1) c7) = w8 at hnx Hfin2 HS ⊢
    generalize m.next = X at hnx Hx hnx0 hnx1
    clear hfin hK18 kp8 hn7 hsz7 hsz4 s7 n7 HK7 H7 k11 f8 k10 k9 k8
    go_wp2_with (go_at_call 15; (with_reducible refine hnx.mono ?_); rintro _ w9 ⟨rfl, b9⟩)
    go_ret2
    rw [Hx.out]
    exact ⟨rfl, _, Hfin2.out.below b9, HS.out.trans (JStep.below _ b9), rfl, rfl, rfl, rfl, rfl⟩
end
end Go.Proofs.Ytbaphjnglkocpaa
