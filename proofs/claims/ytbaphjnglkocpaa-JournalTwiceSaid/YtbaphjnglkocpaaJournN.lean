import Derived.Test.YtbaphjnglkocpaaJournM
/-
  The journal over a device whose power is there: the plain law; the chapter's example.
-/
namespace Go.Proofs.Ytbaphjnglkocpaa
open Go.RowKit
section
variable {m : JM} {d : Dev} {c : Nat}
theorem ringSec_in (h : m.Ok d c) (seq : Int) : m.at_ + 2 ≤ ringSec m.at_ m.n seq ∧ ringSec m.at_ m.n seq < m.at_ + 2 + m.n ∧ 0 ≤ ringSec m.at_ m.n seq ∧ ringSec m.at_ m.n seq < d.size := by
  have h1 := h.n1
  have h2 := h.a1
  have h3 := h.a2
  have e1 := Int.emod_nonneg seq (show m.n ≠ 0 by omega)
  have e2 := Int.emod_lt_of_pos seq (show 0 < m.n by omega)
  unfold ringSec
  omega
theorem piece_len (m : JM) (seq : Int) : (m.piece seq).length ≤ 470 := by unfold JM.piece; rw [List.length_take]; omega
theorem write_live {d : Dev} {k : Int} {v : List UInt8} (hl : Live d) (h0 : 0 ≤ k) (h1 : k < d.size) (hv : v.length = 512) : ∃ d', d.write k v = (0, d') ∧ Live d' ∧ d'.size = d.size :=
  ⟨_, dwrite_ok h0 h1 hv hl.step.1, ⟨hl.step.2.1.down, hl.step.2.1.armed⟩, step_size d⟩
theorem sync_live {d : Dev} (hl : Live d) : ∃ d', d.sync = (0, d') ∧ Live d' ∧ d'.size = d.size := by
  obtain ⟨y1, _, y3, y4, y5, _, _⟩ := dsync_ok hl.step.1
  refine ⟨d.sync.2, ?_, ⟨y4, by rw [y5]; exact hl.armed⟩, y3⟩
  rw [← y1]
theorem fl_live (m : JM) (hn : 2 ≤ m.n) (h0 : 0 ≤ m.at_) : ∀ (f : Nat) (d : Dev) (g : Int → Int) (seq : Int), Live d → m.at_ + 2 + m.n ≤ d.size → ∃ d' g', m.fl f d g seq = (0, d', g') ∧ Live d' ∧ d'.size = d.size
  | 0, d, g, _, hl, _ => ⟨d, g, rfl, hl, rfl⟩
  | f + 1, d, g, seq, hl, hs => by
    rw [JM.fl]
    split
    · have e1 := Int.emod_nonneg seq (show m.n ≠ 0 by omega)
      have e2 := Int.emod_lt_of_pos seq (show 0 < m.n by omega)
      obtain ⟨d1, hw, hl1, hs1⟩ := write_live (k := ringSec m.at_ m.n seq) (v := pieceB m.gen (g (seq - 1)) seq (m.piece seq)) hl (by unfold ringSec; omega) (by unfold ringSec; omega) (pieceB_len (piece_len m seq))
      rw [hw, if_neg (by simp)]
      obtain ⟨d2, g2, e, hl2, hs2⟩ := fl_live m hn h0 f d1 (fun k => if k = seq then m.gen else g k) (seq + 1) hl1 (by rw [hs1]; exact hs)
      exact ⟨d2, g2, e, hl2, hs2.trans hs1⟩
    · exact ⟨d, g, rfl, hl, rfl⟩
def JM.flushed' (m : JM) (g : Int → Int) : JM := { m with gens := g, flushed := m.recs.length }
theorem flush_live (h : m.Ok d c) (hl : Live d) (hd : m.dead = false) : ∃ d' g, m.flush d = (0, d', m.flushed' g) ∧ Live d' ∧ d'.size = d.size := by
  unfold JM.flush
  rw [if_neg (by simp [hd])]
  split
  · rename_i e
    rw [if_neg (by simp [hl.down])]
    refine ⟨d, m.gens, ?_, hl, rfl⟩
    unfold JM.flushed'
    rw [← e]
  · obtain ⟨d1, g, e, hl1, hs1⟩ := fl_live m h.n1 h.a1 3000 d m.gens m.seq0 hl h.a2
    obtain ⟨d2, e2, hl2, hs2⟩ := sync_live hl1
    rw [e]
    unfold flushEnd
    rw [if_neg (by simp)]
    show ∃ d' g', (if d1.sync.1 ≠ 0 then _ else _) = _ ∧ _
    rw [e2]
    rw [if_neg (by simp)]
    exact ⟨d2, g, rfl, hl2, hs2.trans hs1⟩
theorem slotSave_live {at_ number : Int} {new : List UInt8} (hl : Live d) (h0 : 0 ≤ at_) (h1 : at_ + 2 ≤ d.size) (hn : number < most62) (hw : new.length ≤ 480) : ∃ d', slotSave d at_ number [] false new = ⟨0, d', number + 1, new, false⟩ ∧ Live d' ∧ d'.size = d.size := by
  obtain ⟨d1, e1, hl1, hs1⟩ := write_live (k := at_ + (number + 1) % 2) (v := secOf (number + 1) new) hl (by omega) (by omega) (secOf_len hw)
  obtain ⟨d2, e2, hl2, hs2⟩ := sync_live hl1
  refine ⟨d2, ?_, hl2, hs2.trans hs1⟩
  unfold slotSave
  rw [if_neg (by omega), if_neg (by omega), if_neg (by decide), e1, if_neg (by simp)]
  show (if d1.sync.1 ≠ 0 then _ else _) = _
  rw [e2, if_neg (by simp)]
theorem trim_live (h : m.Ok d c) (hcc : c ≤ 10000000) (hl : Live d) (hd : m.dead = false) (hs : m.sdead = false) {lsn : Int} (h1 : m.first ≤ lsn) (h2 : lsn ≤ m.next) {note : List UInt8} (hn : note.length ≤ 400) :
    ∃ d' g num, m.trim d lsn note = (0, d', (m.flushed' g).cutTo (lsn - m.first).toNat lsn note num false) ∧ Live d' ∧ d'.size = d.size := by
  obtain ⟨d1, g, e, hl1, hs1⟩ := flush_live h hl hd
  have hnm := h.nm2
  obtain ⟨d2, e2, hl2, hs2⟩ := slotSave_live (at_ := m.at_) (number := m.num) (new := jrow (m.base * 470 + m.at0 (lsn - m.first).toNat) lsn (g ((m.base * 470 + m.at0 (lsn - m.first).toNat) / 470 - 1)) note) hl1 h.a1 (by rw [hs1]; have := h.a2; have := h.n1; omega) (by unfold most62; omega) (jrow_len hn)
  refine ⟨d2, g, m.num + 1, ?_, hl2, hs2.trans hs1⟩
  unfold JM.trim
  rw [if_neg (by simp [hd]), if_neg (by omega), if_neg (by omega), e, if_neg (by simp)]
  have hsv : trimSave (m.flushed' g) d1 lsn note = ⟨0, d2, m.num + 1, jrow (m.base * 470 + m.at0 (lsn - m.first).toNat) lsn (g ((m.base * 470 + m.at0 (lsn - m.first).toNat) / 470 - 1)) note, false⟩ := by
    rw [← e2]; unfold trimSave; show slotSave d1 m.at_ m.num [] m.sdead _ = _; rw [hs]; rfl
  show trimEnd (m.flushed' g) d1 lsn note = _
  unfold trimEnd
  rw [hsv, if_neg (by simp)]
  rfl
theorem put_add (hd : m.dead = false) {r : List UInt8} {o : Int} (h1 : r.length ≠ 0) (h2 : r.length ≤ 4096) (h3 : (r.length : Int) + 2 ≤ m.free - o) : m.put r o = (m.next, 0, m.add r) := by
  unfold JM.put; rw [if_neg (by simp [hd]), if_neg (by omega), if_neg (by omega)]
theorem put_full (hd : m.dead = false) {r : List UInt8} {o : Int} (h1 : r.length ≠ 0) (h2 : r.length ≤ 4096) (h3 : m.free - o < (r.length : Int) + 2) : m.put r o = (0, 5, m) := by
  unfold JM.put; rw [if_neg (by simp [hd]), if_neg (by omega), if_pos h3]
theorem free_add (m : JM) (r : List UInt8) : (m.add r).free = m.free - (r.length + 2) := by
  unfold JM.free
  rw [m.add_stream, List.length_append, recB_len]
  show m.n * 470 - _ = m.n * 470 - _ - _
  omega
/-- the room behind a trim: all but what is left of the last piece -/
theorem free_cut (m : JM) (k : Nat) (lsn : Int) (note : List UInt8) (num : Int) (sd : Bool) : (m.cutTo k lsn note num sd).free = m.free + ((m.base * 470 + m.at0 k) / 470 - m.base) * 470 := by
  obtain ⟨h1, h2⟩ := m.cut_stream k lsn note num sd
  have h3 := m.at0_le k
  unfold JM.free
  rw [h2, List.length_drop]
  show m.n * 470 - _ = m.n * 470 - _ + _
  omega
end
theorem make_n (n : Nat) (hn : n ≤ 1000000000) : ∃ cs : Array Value, ∀ w, (Instr.makeSlice 39 (.int .i64 (n : Int)) (.int .i64 (n : Int))).run Try.prog w = .ok (.slice (some ⟨w.heap.size, 0, none⟩) n n) (w.alloc (.cells cs 5)) ∧ Bytes (w.alloc (.cells cs 5)) (.slice (some ⟨w.heap.size, 0, none⟩) n n) (List.replicate n 0) :=
  ⟨_, fun w => ⟨make_zeros n hn w, zeros_bytes n hn w⟩⟩
section
variable {w0 w : World} {A : JAd} {m : JM} {d : Dev} {c : Nat}
/-- a record that was just made is appended -/
theorem japp_new (h : JB w0 w A d m c) (hcc : c ≤ 10000000) {o : Obj} {b n : Nat} {r : List UInt8} (hn : r.length = n) (hb : Bytes (w.alloc o) (.slice (some ⟨b, 0, none⟩) n n) r) (hq : w.heap.size ≤ b) {x : Int × Int × JM} (hx : m.put r m.booked = x) :
    Calls Try.prog 12 #[.pointer (some ⟨A.j, 0, none⟩), .slice (some ⟨b, 0, none⟩) n n] (w.alloc o) fun e w' => e = .returned (.tuple #[.int .i64 x.1, errV x.2.1]) ∧ ∃ A', JB w0 w' A' d x.2.2 (c + 1) ∧ JStep w w' A A' ∧ (A'.p = A.p ∧ A'.mn = A.mn ∧ A'.ms = A.ms ∧ A'.mc = A.mc ∧ A'.j = A.j) := by
  subst hx hn
  have hal : Below w.heap.size w (w.alloc o) := (Below.refl _ _).alloc (Nat.le_refl _) _
  refine (japp_any (h.below hal) hcc hb (fun k e => (h.new (by cases e; exact hq)).1)).mono fun e w' ⟨he, A', hJ, hS, hE⟩ => ⟨he, A', hJ, (JStep.below A hal).trans hS, hE⟩
theorem jspend_new (h : JB w0 w A d m c) (hcc : c ≤ 10000000) {o : Obj} {b n : Nat} {r : List UInt8} (hn : r.length = n) (hb : Bytes (w.alloc o) (.slice (some ⟨b, 0, none⟩) n n) r) (hq : w.heap.size ≤ b) {x : Int × Int × JM} (hx : m.put r 0 = x) :
    Calls Try.prog 18 #[.pointer (some ⟨A.j, 0, none⟩), .slice (some ⟨b, 0, none⟩) n n] (w.alloc o) fun e w' => e = .returned (.tuple #[.int .i64 x.1, errV x.2.1]) ∧ ∃ A', JB w0 w' A' d x.2.2 (c + 1) ∧ JStep w w' A A' ∧ (A'.p = A.p ∧ A'.mn = A.mn ∧ A'.ms = A.ms ∧ A'.mc = A.mc ∧ A'.j = A.j) := by
  subst hx hn
  have hal : Below w.heap.size w (w.alloc o) := (Below.refl _ _).alloc (Nat.le_refl _) _
  refine (jspend_any (h.below hal) hcc hb (fun k e => (h.new (by cases e; exact hq)).1)).mono fun e w' ⟨he, A', hJ, hS, hE⟩ => ⟨he, A', hJ, (JStep.below A hal).trans hS, hE⟩
end
end Go.Proofs.Ytbaphjnglkocpaa
