import Derived.Test.YtbaphjnglkocpaaJournX
import Derived.Test.YtbaphjnglkocpaaJournN
/-
  A journal that is opened behind a crash, where there never was a Trim: what it holds hangs on the device's sectors alone.
-/
namespace Go.Proofs.Ytbaphjnglkocpaa
open Go.RowKit
/-- the sectors below b are as they were -/
structure Low (b : Int) (d d' : Dev) : Prop where
  size : d'.size = d.size
  now : ∀ j, j < b → d'.now j = d.now j
  synced : ∀ j, j < b → d'.synced j = d.synced j
  chg : ∀ j, j < b → d'.chg j = d.chg j
section
variable {b : Int} {d d1 d2 : Dev}
theorem Low.refl (b : Int) (d : Dev) : Low b d d := ⟨rfl, fun _ _ => rfl, fun _ _ => rfl, fun _ _ => rfl⟩
theorem Low.trans (h : Low b d d1) (k : Low b d1 d2) : Low b d d2 :=
  ⟨k.size.trans h.size, fun j hj => (k.now j hj).trans (h.now j hj), fun j hj => (k.synced j hj).trans (h.synced j hj), fun j hj => (k.chg j hj).trans (h.chg j hj)⟩
theorem Low.step (b : Int) (d : Dev) : Low b d d.step.2 :=
  ⟨step_size d, fun j _ => by rw [(step_maps d).1], fun j _ => by rw [(step_maps d).2.1], fun j _ => by rw [(step_maps d).2.2]⟩
theorem Low.put (d : Dev) {k : Int} (v : List UInt8) (hk : b ≤ k) : Low b d (d.put k v) :=
  ⟨rfl, fun j hj => by show (if j = k then v else d.now j) = _; rw [if_neg (by omega)], fun _ _ => rfl, fun j hj => by show (if j = k then true else d.chg j) = _; rw [if_neg (by omega)]⟩
theorem Low.write (d : Dev) {k : Int} (v : List UInt8) (hk : b ≤ k) : Low b d (d.write k v).2 := by
  unfold Dev.write
  split
  · exact Low.refl b d
  · split
    · exact Low.refl b d
    · split
      · exact (Low.step b d).trans (Low.put _ v hk)
      · exact Low.step b d
theorem Low.sync (d : Dev) (hc : ∀ j, j < b → d.chg j = false) : Low b d d.sync.2 := by
  unfold Dev.sync
  split
  · have hs := Low.step b d
    refine ⟨hs.size, fun j hj => hs.now j hj, fun j hj => ?_, fun j hj => ?_⟩
    · show (if d.step.2.chg j then d.step.2.now j else d.step.2.synced j) = _
      rw [hs.chg j hj, hc j hj]
      exact hs.synced j hj
    · show false = d.chg j
      rw [hc j hj]
  · exact Low.step b d
theorem fl_low (m : JM) (hn : 2 ≤ m.n) : ∀ (f : Nat) (d : Dev) (g : Int → Int) (seq : Int), Low (m.at_ + 2) d (m.fl f d g seq).2.1
  | 0, d, _, _ => Low.refl _ d
  | f + 1, d, g, seq => by
    have hk : m.at_ + 2 ≤ ringSec m.at_ m.n seq := by
      have := Int.emod_nonneg seq (show m.n ≠ 0 by omega)
      unfold ringSec; omega
    unfold JM.fl
    split
    · split
      · exact Low.write d _ hk
      · exact (Low.write d _ hk).trans (fl_low m hn f _ _ _)
    · exact Low.refl _ d
theorem flush_low (m : JM) (hn : 2 ≤ m.n) (hc : ∀ j, j < m.at_ + 2 → d.chg j = false) : Low (m.at_ + 2) d (m.flush d).2.1 := by
  have h1 := fl_low m hn 3000 d m.gens m.seq0
  unfold JM.flush
  split
  · exact Low.refl _ d
  · split
    · split <;> exact Low.refl _ d
    · unfold flushEnd
      split
      · exact h1
      · have h2 := h1.trans (Low.sync _ (fun j hj => (h1.chg j hj).trans (hc j hj)))
        split
        · exact h2
        · exact h2
/-- behind a crash the slots say what they said -/
theorem low_crash {n : Nat} {num : Int} {row : List UInt8} {a : Int} (hl : Low (a + 2) d d1) (ho : d1.Ok n) (hc : Clean d a num row) (keep : List Int) : Clean (d1.crash keep) a num row := by
  have hnow : ∀ j, j < a + 2 → (d1.crash keep).now j = d.now j := fun j hj => by
    rw [dcrash_now ho]
    split
    · exact hl.now j hj
    · rw [hl.synced j hj]; exact (hc.same j).symm
  have hp : num % 2 = 0 ∨ num % 2 = 1 := by omega
  refine ⟨(dcrash_live keep).1, hc.a0, by rw [(dcrash_live keep).2, hl.size]; exact hc.a1, hc.num, ?_, ?_, fun j => (dcrash_synced ho keep j).symm⟩
  · rw [hnow _ (by omega)]; exact hc.here
  · rw [hnow _ (by omega)]; exact hc.other
end
/-- what stands in a ring of n sectors from at_ + 2 on, from piece 0 on -/
def opPieces (d : Dev) (n : Int) : (Int → Int) × List UInt8 := rdPieces d 1 n 0 n.toNat 0 (setG (fun _ => 0) (0 - 1) 0) []
def opJM (d : Dev) (n : Int) : JM := ⟨1, n, genTo d 1 n.toNat, (opPieces d n).1, 0, [], recsAll (opPieces d n).2, 1, (recsAll (opPieces d n).2).length, 0, [], false, 1, false⟩
theorem genTo_now {d d' : Dev} (h : ∀ j, d'.now j = d.now j) (a : Int) : ∀ n, genTo d' a n = genTo d a n
  | 0 => rfl
  | n + 1 => by rw [genTo, genTo, genTo_now h a n, h]
theorem rdPieces_now {d d' : Dev} (h : ∀ j, d'.now j = d.now j) (a n b : Int) : ∀ (f : Nat) (s : Int) (g : Int → Int) (st : List UInt8), rdPieces d' a n b f s g st = rdPieces d a n b f s g st
  | 0, _, _, _ => rfl
  | f + 1, s, g, st => by
    rw [rdPieces, rdPieces]
    simp only [h, rdPieces_now h a n b f]
theorem opJM_now {d d' : Dev} (h : ∀ j, d'.now j = d.now j) (n : Int) : opJM d' n = opJM d n := by
  unfold opJM opPieces
  rw [genTo_now h, rdPieces_now h]
theorem rdPieces_len (d : Dev) (a n b : Int) : ∀ (f : Nat) (s : Int) (g : Int → Int) (st : List UInt8), (rdPieces d a n b f s g st).2.length ≤ st.length + f * 470
  | 0, _, _, _ => by simp [rdPieces]
  | f + 1, s, g, st => by
    have hp := pieceRead_len (d.now (ringSec a n s))
    rw [rdPieces]
    split
    · split
      · show st.length ≤ _; omega
      · split
        · show (st ++ _).length ≤ _
          rw [List.length_append]; omega
        · have := rdPieces_len d a n b f (s + 1) (setG g s (pieceRead (d.now (ringSec a n s))).gen) (st ++ (pieceRead (d.now (ringSec a n s))).bytes)
          rw [List.length_append] at this; omega
    · show st.length ≤ _; omega
theorem recsAll_len (l : List UInt8) : (recsB (recsAll l)).length ≤ l.length := by
  obtain ⟨r, hr⟩ := recsAll_pre l.length l (Nat.le_refl _)
  have := congrArg List.length hr
  rw [List.length_append] at this; omega
theorem recsAll_take (l : List UInt8) : l.take (recsB (recsAll l)).length = recsB (recsAll l) := by
  obtain ⟨r, hr⟩ := recsAll_pre l.length l (Nat.le_refl _)
  calc l.take (recsB (recsAll l)).length = (recsB (recsAll l) ++ r).take (recsB (recsAll l)).length := by rw [← hr]
    _ = _ := by simp
section
variable {w0 w : World} {p mn ms mc c : Nat} {d : Dev} {n : Int}
theorem jopen_low (hD : DB w0 w p mn ms mc d c) (hc : Clean d 1 1 (jrow 0 1 0 [])) (h2 : 2 ≤ n) (h3 : n ≤ 2048) (hsz : d.size = n + 3) :
    Calls Try.prog 39 #[.pointer (some ⟨p, 0, none⟩), .int .i64 1, .int .i64 n] w fun e w' => ∃ A, e = .returned (.tuple #[.pointer (some ⟨A.j, 0, none⟩), .nilIface]) ∧ (A.p = p ∧ A.mn = mn ∧ A.ms = ms ∧ A.mc = mc) ∧
      DB w0 w' p mn ms mc d c ∧ JAt w' w0.heap.size A (opJM d n) ∧ Keeps (DFoot p mn ms mc) w w' ∧ ∀ k, A.Foot k → DFoot p mn ms mc k ∨ w.heap.size ≤ k := by
  refine (jopen_ok (n := n) (start := 0) (first := 1) (ahead := 0) (note := []) hD hc (by omega) h2 h3 (by omega) (by omega) (by omega) (by omega) (by omega) (by unfold int64; omega) (by simp) (by simp)).mono ?_
  rintro e w' ⟨A, gens', starts', stream', fl', he, hA, hRB, e1, e2, e3, e4, hK, hF⟩
  refine ⟨A, he, hA, ?_, ?_, hK, hF⟩
  · have := hRB.db; rw [hA.1, hA.2.1, hA.2.2.1, hA.2.2.2] at this; exact this
  · refine hRB.at_.toJ ?_
    have z : (0 : Int) / 470 = 0 := by decide
    have z2 : ((0 : Int) % 470).toNat = 0 := by decide
    rw [z2, List.drop_zero, Nat.zero_add, recsAll_take] at e2
    rw [z2, List.drop_zero] at e3 e4
    rw [z] at e1 e2 e3 e4 ⊢
    subst e1 e2 e3 e4
    unfold opJM JM.raw RM.start JM.stream JM.starts JM.start opPieces
    simp
end
section
variable {w : World} {B : Nat} {A : JAd} {m : JM}
theorem jfree_at (h : JAt w B A m) (n1 : 0 ≤ m.n) (n2 : m.n ≤ 100000) (rm : m.stream.length ≤ 100000000) : Calls Try.prog 13 #[.pointer (some ⟨A.j, 0, none⟩)] w fun e w' => e = .returned (.int .i64 m.free) ∧ Below w.heap.size w w' := by
  obtain ⟨q, cap, e, h1, h2⟩ := h.vsForm
  have c2 := h.cells.c2
  have c6 := h.cells.c6
  rw [e] at c6
  have HF : Hid (m.free = m.n * 470 - m.stream.length) := Lib.hid rfl
  clear h e
  go_enter Try.func13, Try.ntmps13
  go_wp2_with fail
  go_quiet (fail)
  go_wp2
  go_ret
  exact ⟨by rw [HF.out]; rfl, below_drewN (Below.refl _ _) _⟩
theorem jnext_at (h : JAt w B A m) (n1 : 1 ≤ m.first) (n2 : m.next ≤ 1000000000000) : Calls Try.prog 15 #[.pointer (some ⟨A.j, 0, none⟩)] w fun e w' => e = .returned (.int .i64 m.next) ∧ Below w.heap.size w w' := by
  obtain ⟨q, cap, e, h1, h2⟩ := h.vaForm
  have c9 := h.cells.c9
  have c8 := h.cells.c8
  rw [e] at c8
  have HF : Hid (m.next = m.first + m.recs.length) := Lib.hid rfl
  unfold JM.next at n2
  clear h e
  go_enter Try.func15, Try.ntmps15
  go_wp2_with fail
  go_quiet (fail)
  go_wp2
  go_ret
  exact ⟨by rw [HF.out]; exact ret_int (by omega), below_drewN (Below.refl _ _) _⟩
end
end Go.Proofs.Ytbaphjnglkocpaa
