import Derived.Test.YtbaphjnglkocpaaJournK
/-
  The journal: Trim, what it does.
-/
namespace Go.Proofs.Ytbaphjnglkocpaa
open Go.RowKit
def JM.cutTo (m : JM) (k : Nat) (lsn : Int) (note : List UInt8) (num : Int) (sdead : Bool) : JM :=
  { m with gens := fun s => if s < (m.base * 470 + m.at0 k) / 470 - 1 then 0 else m.gens s, base := (m.base * 470 + m.at0 k) / 470,
           pre := (m.pre ++ recsB (m.recs.take k)).drop (((m.base * 470 + m.at0 k) / 470 - m.base) * 470).toNat, recs := m.recs.drop k, first := lsn, flushed := m.recs.length - k, note := note, num := num, sdead := sdead }
def trimSave (m : JM) (d : Dev) (lsn : Int) (note : List UInt8) : SaveR :=
  slotSave d m.at_ m.num [] m.sdead (jrow (m.base * 470 + m.at0 (lsn - m.first).toNat) lsn (m.gens ((m.base * 470 + m.at0 (lsn - m.first).toNat) / 470 - 1)) note)
def trimEnd (m : JM) (d : Dev) (lsn : Int) (note : List UInt8) : Int × Dev × JM :=
  if (trimSave m d lsn note).err ≠ 0 then ((trimSave m d lsn note).err, (trimSave m d lsn note).dev, { m with num := (trimSave m d lsn note).number, sdead := (trimSave m d lsn note).dead, dead := true })
  else (0, (trimSave m d lsn note).dev, m.cutTo (lsn - m.first).toNat lsn note (trimSave m d lsn note).number (trimSave m d lsn note).dead)
/-- what a Trim does -/
def JM.trim (m : JM) (d : Dev) (lsn : Int) (note : List UInt8) : Int × Dev × JM :=
  if m.dead then (3, d, m) else if lsn < m.first ∨ m.next < lsn then (1, d, m) else if 400 < note.length then (2, d, m)
  else if (m.flush d).1 ≠ 0 then m.flush d
  else trimEnd (m.flush d).2.2 (m.flush d).2.1 lsn note
theorem flush_same (m : JM) (d : Dev) : (m.flush d).2.2.first = m.first ∧ (m.flush d).2.2.recs = m.recs ∧ (m.flush d).2.2.base = m.base ∧ (m.flush d).2.2.pre = m.pre ∧ (m.flush d).2.2.at_ = m.at_ ∧ (m.flush d).2.2.n = m.n ∧ (m.flush d).2.2.num = m.num ∧ (m.flush d).2.2.sdead = m.sdead ∧ (m.flush d).2.2.note = m.note ∧ (m.flush d).2.2.booked = m.booked ∧ (m.flush d).2.2.gen = m.gen := by
  unfold JM.flush flushEnd
  split
  · exact ⟨rfl, rfl, rfl, rfl, rfl, rfl, rfl, rfl, rfl, rfl, rfl⟩
  · split
    · split <;> exact ⟨rfl, rfl, rfl, rfl, rfl, rfl, rfl, rfl, rfl, rfl, rfl⟩
    · split
      · exact ⟨rfl, rfl, rfl, rfl, rfl, rfl, rfl, rfl, rfl, rfl, rfl⟩
      · split <;> exact ⟨rfl, rfl, rfl, rfl, rfl, rfl, rfl, rfl, rfl, rfl, rfl⟩
theorem slotSave_facts (d : Dev) (at_ number : Int) (row : List UInt8) (dead : Bool) (new : List UInt8) : (slotSave d at_ number row dead new).dev.size = d.size ∧ number ≤ (slotSave d at_ number row dead new).number ∧ (slotSave d at_ number row dead new).number ≤ number + 1 ∧ ((slotSave d at_ number row dead new).err = 0 → (slotSave d at_ number row dead new).dead = false) := by
  unfold slotSave
  split
  · exact ⟨rfl, Int.le_refl _, by show number ≤ number + 1; omega, fun e => by cases e⟩
  · split
    · exact ⟨rfl, Int.le_refl _, by show number ≤ number + 1; omega, fun e => by cases e⟩
    · split
      · exact ⟨rfl, Int.le_refl _, by show number ≤ number + 1; omega, fun e => by cases e⟩
      · split
        · rename_i e; exact ⟨write_size _ _ _, Int.le_refl _, by show number ≤ number + 1; omega, fun e' => absurd e' e⟩
        · split
          · rename_i e; exact ⟨(sync_size _).trans (write_size _ _ _), Int.le_refl _, by show number ≤ number + 1; omega, fun e' => absurd e' e⟩
          · exact ⟨(sync_size _).trans (write_size _ _ _), by show number ≤ number + 1; omega, by show number + 1 ≤ number + 1; omega, fun _ => rfl⟩
section
variable {m : JM} {d : Dev} {c : Nat} {k : Nat}
theorem JM.cut_stream (m : JM) (k : Nat) (lsn : Int) (note : List UInt8) (num : Int) (sd : Bool) : (((m.base * 470 + m.at0 k) / 470 - m.base) * 470).toNat ≤ m.at0 k ∧ (m.cutTo k lsn note num sd).stream = m.stream.drop (((m.base * 470 + m.at0 k) / 470 - m.base) * 470).toNat := by
  have ho : (((m.base * 470 + (m.at0 k : Int)) / 470 - m.base) * 470).toNat ≤ m.at0 k := by omega
  refine ⟨ho, ?_⟩
  rw [m.stream_split k]
  have hl : (m.pre ++ recsB (m.recs.take k)).length = m.at0 k := by rw [List.length_append]; rfl
  rw [List.drop_append_of_le_length (by rw [hl]; exact ho)]
  rfl
theorem JM.cut_pre (m : JM) (k : Nat) (lsn : Int) (note : List UInt8) (num : Int) (sd : Bool) : ((m.cutTo k lsn note num sd).pre.length : Int) = (m.base * 470 + m.at0 k) % 470 := by
  have hl : (m.pre ++ recsB (m.recs.take k)).length = m.at0 k := by rw [List.length_append]; rfl
  show ((((m.pre ++ recsB (m.recs.take k)).drop (((m.base * 470 + m.at0 k) / 470 - m.base) * 470).toNat).length : Nat) : Int) = _
  rw [List.length_drop, hl]; omega
theorem startsOf_drop (s : Int) (l : List (List UInt8)) (k : Nat) (hk : k ≤ l.length) : (startsOf s l).drop k = startsOf (s + (recsB (l.take k)).length) (l.drop k) := by
  induction k generalizing s l with
  | zero => simp [recsB]
  | succ k ih =>
    cases l with
    | nil => simp at hk
    | cons r l =>
      rw [startsOf, List.drop_succ_cons, ih _ _ (by simpa using hk), List.drop_succ_cons]
      congr 1
      rw [List.take_succ_cons, show recsB (r :: l.take k) = recB r ++ recsB (l.take k) from rfl, List.length_append, recB_len]
      omega
theorem JM.cut_starts (m : JM) (k : Nat) (lsn : Int) (note : List UInt8) (num : Int) (sd : Bool) (hk : k ≤ m.recs.length) : (m.cutTo k lsn note num sd).starts = m.starts.drop k := by
  unfold JM.starts
  rw [startsOf_drop _ _ _ hk]
  have hp := m.cut_pre k lsn note num sd
  have e : (m.cutTo k lsn note num sd).start = m.start + (recsB (m.recs.take k)).length := by
    unfold JM.start
    rw [hp]
    show (m.base * 470 + (m.at0 k : Int)) / 470 * 470 + (m.base * 470 + m.at0 k) % 470 = _
    unfold JM.at0; omega
  rw [e]; rfl
theorem JM.Ok.cutTo (h : m.Ok d c) {d' : Dev} (hsz : d'.size = d.size) {lsn : Int} (h1 : m.first ≤ lsn) (h2 : lsn ≤ m.next) {note : List UInt8} (hn : note.length ≤ 400) {num : Int} (hm1 : m.num ≤ num) (hm2 : num ≤ m.num + 1) (sd : Bool) : (m.cutTo (lsn - m.first).toNat lsn note num sd).Ok d' (c + 1) := by
  have h' := h.more (Nat.le_succ c)
  generalize hk : (lsn - m.first).toNat = k
  have hkl : k ≤ m.recs.length := by unfold JM.next at h2; omega
  obtain ⟨hc1, hc2⟩ := m.cut_stream k lsn note num sd
  have hp := m.cut_pre k lsn note num sd
  have hat := m.at0_le k
  have hb0 := h.b1
  have hb2 := h'.b2
  have hrm := h.room
  have hf1 := h.f1
  have hf2 := h'.f2
  have hn1 := h.nm1
  have hn2 := h.nm2
  unfold JM.fin at hb2
  unfold JM.next at hf2 h2
  refine ⟨h.n1, h.n2, h.a1, by rw [hsz]; exact h.a2, ?_, ?_, ?_, fun r hr => h.rs r (List.mem_of_mem_drop hr), ?_, ?_, ?_, ?_, h.k1, h.k2, hn, ?_, ?_, h.g1, h'.g2, fun s => ?_⟩
  · show 0 ≤ (m.base * 470 + (m.at0 k : Int)) / 470; omega
  · unfold JM.fin; rw [hc2, List.length_drop]; show (m.base * 470 + (m.at0 k : Int)) / 470 * 470 + _ ≤ _; omega
  · omega
  · rw [hc2, List.length_drop]; show _ ≤ m.n * 470; omega
  · show 1 ≤ lsn; omega
  · show lsn + ((m.recs.drop k).length : Int) ≤ _; rw [List.length_drop]; omega
  · show m.recs.length - k ≤ (m.recs.drop k).length; rw [List.length_drop]; exact Nat.le_refl _
  · show 1 ≤ num; omega
  · show num ≤ _; omega
  · show 0 ≤ (if s < _ then (0 : Int) else m.gens s) ∧ (if s < _ then (0 : Int) else m.gens s) ≤ _
    have := h'.gs s
    split <;> omega
end
theorem jrow_len {a b c : Int} {note : List UInt8} (h : note.length ≤ 400) : (jrow a b c note).length ≤ 480 := by
  unfold jrow rowB
  have := nums3_len a b c
  have := num_len ((note.length : Nat) : Int)
  rw [List.length_append, List.length_append]
  omega
section
variable {w0 w w' : World} {A : JAd} {m : JM} {d d' : Dev} {c c' : Nat}
/-- the slots were saved -/
theorem JB.saved (h : JB w0 w A d m c) {x : SaveR} {e : Ending} {at_ : Int} (he : at_ = m.at_) (hp : SaveWPost w0 w A.p A.mn A.ms A.mc A.s at_ c' x e w') (hc : c + 1 ≤ c') (hs : x.dev.size = d.size) (h1 : m.num ≤ x.number) (h2 : x.number ≤ m.num + 1) :
    JB w0 w' A x.dev { m with num := x.number, sdead := x.dead } c' ∧ JStep w w' A A := by
  subst he
  obtain ⟨_, hD, hS, hK⟩ := hp
  have ha := h.at_
  have hl := h.db.lay
  have hns : ∀ k, SFoot A.p A.mn A.ms A.mc A.s k → k ≠ A.j ∧ k ≠ A.mg := fun k hk => by
    rcases hk with hk | rfl
    · exact ⟨fun e => ha.jd hl (e ▸ hk), fun e => ha.apg (e ▸ hk)⟩
    · exact ⟨fun e => ha.js e.symm, ha.sg⟩
  obtain ⟨l, a1, a2⟩ := ha.gens
  have hok := (h.ok.size hs).more (Nat.le_of_succ_le hc)
  refine ⟨⟨hD, ⟨hS, hK.at ha.self (fun e => (hns _ e).1 rfl), ⟨l, a1.keeps hK (fun e => (hns _ e).2 rfl), a2⟩, ha.stream.block_keeps hK (fun k e e' => ?_), ha.starts.block_keeps hK (fun k e e' => ?_), ?_, ha.los, ha.loj, ha.log, ha.apg, ha.aps, ha.apa⟩, { hok with nm1 := ?_, nm2 := ?_ }⟩, hK.mono (fun k _ e => by rcases e with e | e; exact .inl e; exact .inr (.inl e)), fun _ e => .inl e⟩
  · rcases e' with e' | e'
    · exact (ha.aps k e).1 e'
    · exact (ha.aps k e).2.1 e'
  · rcases e' with e' | e'
    · exact (ha.apa k e).1 e'
    · exact (ha.apa k e).2.1 e'
  · exact ha.note.kept hK (fun a b hc e => by
      rcases e with e | e
      · exact hl.no_byte hc e
      · exact ha.slot.no_byte hc e)
  · have := h.ok.nm1; show 1 ≤ x.number; omega
  · have := h.ok.nm2; show x.number ≤ _; omega
end
end Go.Proofs.Ytbaphjnglkocpaa
