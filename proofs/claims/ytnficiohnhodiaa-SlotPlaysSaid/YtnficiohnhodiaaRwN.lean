import Derived.Test.YtnficiohnhodiaaRwM
/-
  The law of the slots: both sides, side by side.
-/
namespace Go.Proofs.Ytnficiohnhodiaa
open Go.RowKit
theorem step_codeS (d : Dev) : 0 ≤ d.step.1 := by
  unfold Dev.step
  split
  · show (0 : Int) ≤ 3; omega
  · show (0 : Int) ≤ 0; omega
theorem write_codeS (d : Dev) (k : Int) (l : List UInt8) : 0 ≤ (d.write k l).1 := by
  unfold Dev.write
  split
  · show (0 : Int) ≤ 1; omega
  · split
    · show (0 : Int) ≤ 2; omega
    · split
      · show (0 : Int) ≤ 0; omega
      · exact step_codeS d
theorem sync_codeS (d : Dev) : 0 ≤ d.sync.1 := by
  unfold Dev.sync
  split
  · show (0 : Int) ≤ 0; omega
  · exact step_codeS d
theorem SubRow.frontS {w : World} {B : Nat} {q : Option Addr} {n m cap : Nat} {l r : List UInt8} (h : SubRow w B (.slice q n cap) (bytesV (l ++ r))) (hm : l.length = m) (h0 : 1 ≤ n) : SubRow w B (.slice q m cap) (bytesV l) := by
  rcases h with ⟨e, _⟩ | ⟨g, off, c, e, h1, h2, h3, h4, h5, h6⟩
  · cases e; omega
  · injection e with e1 e2 e3
    subst e1 e2 e3
    rw [bytesV_len, List.length_append] at h3
    refine .inr ⟨g, off, cap, by rw [bytesV_len, hm], h1, h2, by rw [bytesV_len]; omega, h4, h5, fun j u hu => h6 j u ?_⟩
    have hj := (List.getElem?_eq_some_iff.1 hu).1
    unfold bytesV at hu ⊢
    rw [List.map_append, List.getElem?_append_left (by unfold bytesV at hj; exact hj)]; exact hu
structure SV where
  at_ : Int
  number : Int
  row : List UInt8
  dead : Bool
/-- the block that an address lies in -/
def InB (q : Option Addr) (k : Nat) : Prop := ∃ a, q = some a ∧ a.block = k
/-- the slots of both sides, or none -/
def SlotsP (w0 w : World) (p mn ms mc : Nat) (A : RAd) (j : Nat) (G : Nat → Prop) (sq tq : Option Addr) (x : Option SV) : Prop :=
  x = none ∧ sq = none ∧ tq = none ∨
  ∃ v s t, x = some v ∧ sq = some ⟨s, 0, none⟩ ∧ tq = some ⟨t, 0, none⟩ ∧ SlotAt w s p v.at_ v.number v.row v.dead ∧ SlotOff w (fun k => A.S k ∨ k = j ∨ k = t ∨ G k) s ∧
      RSlotAt w t A.b (fun k => A.S k ∨ DFoot p mn ms mc k ∨ k = j ∨ k = s ∨ G k) v.at_ v.number v.row v.dead ∧ 0 ≤ v.number ∧ 0 ≤ v.at_ ∧ v.at_ ≤ 4096 ∧ ¬ A.S s ∧ s ≠ j ∧ w0.heap.size ≤ s ∧ w0.heap.size ≤ t ∧ ¬ G s ∧ v.row.length ≤ 480
/-- the pair, with its devices -/
structure PB (w0 w : World) (p mn ms mc : Nat) (A : RAd) (j : Nat) (d : Dev) (L : Int) (n : Nat) (sq tq : Option Addr) : Prop where
  dev : DB w0 w p mn ms mc d n
  ref : RefAt w w0.heap.size A d L
  off : ∀ k, DFoot p mn ms mc k → ¬ A.S k
  low : ∀ k, A.S k → w0.heap.size ≤ k
  pair : w.heap[j]? = some (.cells #[.pointer (some ⟨p, 0, none⟩), .pointer (some ⟨A.b, 0, none⟩), .pointer sq, .pointer tq] 69 (0, 0))
  jl : w0.heap.size ≤ j
  jd : ¬ DFoot p mn ms mc j
  ja : ¬ A.S j
  l0 : -(n : Int) ≤ L
  l1 : L ≤ 9223372036854775807
def PI (w0 w : World) (p mn ms mc : Nat) (A : RAd) (j n : Nat) : Prop := ∃ d L sq tq x, PB w0 w p mn ms mc A j d L n sq tq ∧ SlotsP w0 w p mn ms mc A j (fun _ => False) sq tq x
section
variable {w0 w w' : World} {p mn ms mc j n m : Nat} {A : RAd} {d d' : Dev} {L L' : Int} {sq tq : Option Addr} {x : Option SV} {G : Nat → Prop}
theorem SlotsP.below (h : SlotsP w0 w p mn ms mc A j G sq tq x) (hb : Below w.heap.size w w') : SlotsP w0 w' p mn ms mc A j G sq tq x := by
  rcases h with h | ⟨v, s, t, e0, e1, e2, h1, h2, h3, h4, h5, h6, h7⟩
  · exact .inl h
  · exact .inr ⟨v, s, t, e0, e1, e2, h1.below hb, h2.below hb, h3.below hb, h4, h5, h6, h7⟩
theorem PB.below (h : PB w0 w p mn ms mc A j d L n sq tq) (hb : Below w.heap.size w w') : PB w0 w' p mn ms mc A j d L n sq tq :=
  ⟨h.dev.below hb, h.ref.below hb, h.off, h.low, (Keeps.of_below (S := fun _ => False) hb).at h.pair (fun e => e), h.jl, h.jd, h.ja, h.l0, h.l1⟩
theorem PB.more (h : PB w0 w p mn ms mc A j d L n sq tq) (hm : n ≤ m) : PB w0 w p mn ms mc A j d L m sq tq :=
  ⟨h.dev.more hm, h.ref, h.off, h.low, h.pair, h.jl, h.jd, h.ja, by have := h.l0; omega, h.l1⟩
theorem PB.jlt (h : PB w0 w p mn ms mc A j d L n sq tq) : j < w.heap.size := lt_of h.pair
theorem PB.no_byte (h : PB w0 w p mn ms mc A j d L n sq tq) {a : Addr} {b : UInt8} (hc : w.cell? a = some (byteV b)) : a.block ≠ j := fun e => cells_byte hc (e ▸ h.pair) (by simp)
theorem PB.lt (h : PB w0 w p mn ms mc A j d L n sq tq) (k : Nat) (hk : A.S k ∨ DFoot p mn ms mc k ∨ k = j) : k < w.heap.size := by
  rcases hk with e | e | rfl
  · exact h.ref.lt k e
  · exact h.dev.lay.lt k e
  · exact h.jlt
theorem PB.lowk (h : PB w0 w p mn ms mc A j d L n sq tq) (k : Nat) (hk : A.S k ∨ DFoot p mn ms mc k ∨ k = j) : w0.heap.size ≤ k := by
  rcases hk with e | e | rfl
  · exact h.low k e
  · exact h.dev.low k e
  · exact h.jl
/-- slots that were just made, or none -/
def NewS (w : World) (p C : Nat) (at_ e number : Int) (row : List UInt8) (sq : Option Addr) : Prop :=
  e ≠ 0 ∧ sq = none ∨ e = 0 ∧ ∃ s, sq = some ⟨s, 0, none⟩ ∧ SlotAt w s p at_ number row false ∧ C ≤ s ∧ SlotUp w C s
def NewT (w : World) (b C : Nat) (F : Nat → Prop) (at_ e number : Int) (row : List UInt8) (tq : Option Addr) : Prop :=
  e ≠ 0 ∧ tq = none ∨ e = 0 ∧ ∃ t, tq = some ⟨t, 0, none⟩ ∧ RSlotAt w t b F at_ number row false ∧ C ≤ t
theorem NewS.lt {C : Nat} {at_ e number : Int} {row : List UInt8} (h : NewS w p C at_ e number row sq) (k : Nat) (hk : InB sq k) : k < w.heap.size := by
  obtain ⟨a, ha, rfl⟩ := hk
  rcases h with ⟨_, e⟩ | ⟨_, s, e, h1, _⟩
  · rw [e] at ha; cases ha
  · rw [e] at ha; cases ha; exact h1.lt
theorem NewS.below {C : Nat} {at_ e number : Int} {row : List UInt8} (h : NewS w p C at_ e number row sq) (hb : Below w.heap.size w w') : NewS w' p C at_ e number row sq := by
  rcases h with h | ⟨h0, s, e, h1, h2, h3⟩
  · exact .inl h
  · exact .inr ⟨h0, s, e, h1.below hb, h2, h3.below hb⟩
theorem NewT.below {b C : Nat} {F : Nat → Prop} {at_ e number : Int} {row : List UInt8} (h : NewT w b C F at_ e number row tq) (hb : Below w.heap.size w w') : NewT w' b C F at_ e number row tq := by
  rcases h with h | ⟨h0, s, e, h1, h2⟩
  · exact .inl h
  · exact .inr ⟨h0, s, e, h1.below hb, h2⟩
/-- the pair is written -/
theorem PB.write {u v : Option Addr} (h : PB w0 w p mn ms mc A j d L n sq tq) : PB w0 ((w.setCell ⟨j, 2, none⟩ (.pointer u)).setCell ⟨j, 3, none⟩ (.pointer v)) p mn ms mc A j d L n u v := by
  have k1 : Keeps (· = j) w (w.setCell ⟨j, 2, none⟩ (.pointer u)) := Keeps.cellAt (S := (· = j)) rfl _
  have k2 : Keeps (· = j) (w.setCell ⟨j, 2, none⟩ (.pointer u)) ((w.setCell ⟨j, 2, none⟩ (.pointer u)).setCell ⟨j, 3, none⟩ (.pointer v)) := Keeps.cellAt (S := (· = j)) rfl _
  have hk := k1.trans k2
  refine ⟨h.dev.other hk (fun k e e' => h.jd (e' ▸ e)) (fun k e => by have e' : k = j := e; rw [e']; exact h.jl), h.ref.other hk (fun k e e' => h.ja (e' ▸ e)) (fun a b hc => h.no_byte hc), h.off, h.low, ?_, h.jl, h.jd, h.ja, h.l0, h.l1⟩
  rw [heap_setCell _ _ _ _ _ _ _ (heap_setCell _ _ _ _ _ _ _ h.pair)]; rfl
theorem PB.wrote {u v : Value} : Keeps (· = j) w ((w.setCell ⟨j, 2, none⟩ u).setCell ⟨j, 3, none⟩ v) :=
  (Keeps.cellAt (S := (· = j)) (p := ⟨j, 2, none⟩) rfl _).trans (Keeps.cellAt (S := (· = j)) (p := ⟨j, 3, none⟩) rfl _)
theorem fits_rng {at_ : Int} (h : fitsB d at_ = true) : 0 ≤ at_ ∧ at_ < d.size - 1 := by unfold fitsB at h; simpa using h
theorem slotOpen_pos (d : Dev) (at_ : Int) : 0 ≤ (d.slotOpen at_).1 := by
  unfold Dev.slotOpen
  split
  · show (0 : Int) ≤ 1; omega
  split
  · show (0 : Int) ≤ 3; omega
  split
  · show (0 : Int) ≤ 20; omega
  · show (0 : Int) ≤ 0; omega
theorem slotOpen_ok (at_ : Int) (h : (d.slotOpen at_).1 = 0) : 0 ≤ (d.slotOpen at_).2.1 ∧ 0 ≤ at_ ∧ at_ < d.size := by
  unfold Dev.slotOpen at h ⊢
  split at h
  · cases h
  split at h
  · cases h
  split at h
  · cases h
  rename_i h1 h2 h3
  have hr := fits_rng (by simpa using h1)
  rw [if_neg h1, if_neg h2, if_neg h3]
  refine ⟨?_, hr.1, by omega⟩
  show 0 ≤ (slotBest d at_ 2).1
  unfold slotBest
  split
  · exact (slotRead_nonneg _ _).1
  · unfold slotBest
    split
    · exact (slotRead_nonneg _ _).1
    · show (0 : Int) ≤ 0; omega
theorem slotRead_len (l : List UInt8) (which : Int) : (slotRead l which).2.length ≤ 480 := (slotRead_nonneg l which).2.2.1
theorem slotOpen_len (at_ : Int) (h : (d.slotOpen at_).1 = 0) : (d.slotOpen at_).2.2.length ≤ 480 := by
  unfold Dev.slotOpen at h ⊢
  split at h
  · cases h
  split at h
  · cases h
  split at h
  · cases h
  rename_i h1 h2 h3
  rw [if_neg h1, if_neg h2, if_neg h3]
  show (slotBest d at_ 2).2.length ≤ 480
  unfold slotBest
  split
  · exact slotRead_len _ _
  · unfold slotBest
    split
    · exact slotRead_len _ _
    · exact Nat.zero_le _
theorem SlotOff.less {F G : Nat → Prop} {s : Nat} (h : SlotOff w F s) (hG : ∀ k, G k → F k) : SlotOff w G s := by
  obtain ⟨q, n, c, h1, h2⟩ := h
  exact ⟨q, n, c, h1, fun hn k e e' => h2 hn k e (hG k e')⟩
theorem open_form (h : DB w0 w p mn ms mc d n) (at_ : Int) : Calls Try.prog 62 #[.pointer (some ⟨p, 0, none⟩), .int .i64 at_] w fun e w' => ∃ sq, e = .returned (.tuple #[.pointer sq, errV (d.slotOpen at_).1]) ∧ DB w0 w' p mn ms mc d n ∧ Below w.heap.size w w' ∧ NewS w' p w.heap.size at_ (d.slotOpen at_).1 (d.slotOpen at_).2.1 (d.slotOpen at_).2.2 sq :=
  (open_any h at_).mono fun e w' ⟨h1, h2, h3⟩ => by
    rcases h3 with ⟨hx, he⟩ | ⟨hx, s, he, h4, h5, h6⟩
    · exact ⟨none, he, h1, h2, .inl ⟨hx, rfl⟩⟩
    · exact ⟨_, by rw [hx, errV_zero]; exact he, h1, h2, .inr ⟨hx, s, rfl, h4, h5, h6⟩⟩
theorem ropen_form {B : Nat} {F : Nat → Prop} (h : RefAt w B A d L) (ho : d.Ok n) (hFo : ∀ k, F k → k < w.heap.size) (at_ : Int) : Calls Try.prog 66 #[.pointer (some ⟨A.b, 0, none⟩), .int .i64 at_] w fun e w' => ∃ tq, e = .returned (.tuple #[.pointer tq, .int .i64 (d.slotOpen at_).1]) ∧ Below w.heap.size w w' ∧ NewT w' A.b w.heap.size F at_ (d.slotOpen at_).1 (d.slotOpen at_).2.1 (d.slotOpen at_).2.2 tq :=
  (ropen_any h ho hFo at_).mono fun e w' ⟨h2, h3⟩ => by
    rcases h3 with ⟨hx, he⟩ | ⟨hx, s, he, h4, h5⟩
    · exact ⟨none, he, h2, .inl ⟨hx, rfl⟩⟩
    · exact ⟨_, by rw [hx]; exact he, h2, .inr ⟨hx, s, rfl, h4, h5⟩⟩
theorem format_form (h : DB w0 w p mn ms mc d n) (hn : n ≤ 100000000) (at_ : Int) {v : Value} {row : List UInt8} (hv : Bytes w v row) : Calls Try.prog 60 #[.pointer (some ⟨p, 0, none⟩), .int .i64 at_, v] w fun e w' => ∃ sq, e = .returned (.tuple #[.pointer sq, errV (d.slotFormat at_ row).1]) ∧ DB w0 w' p mn ms mc (d.slotFormat at_ row).2 (n + 3) ∧ Keeps (DFoot p mn ms mc) w w' ∧ NewS w' p w.heap.size at_ (d.slotFormat at_ row).1 1 row sq :=
  (format_any h hn hv).mono fun e w' ⟨h1, h2, h3⟩ => by
    rcases h3 with ⟨hx, he⟩ | ⟨hx, s, he, h4, h5, h6⟩
    · exact ⟨none, he, h1, h2, .inl ⟨hx, rfl⟩⟩
    · exact ⟨_, by rw [hx, errV_zero]; exact he, h1, h2, .inr ⟨hx, s, rfl, h4, h5, h6⟩⟩
theorem rformat_form {B : Nat} {F : Nat → Prop} {row : List UInt8} {v : Value} (h : RefAt w B A d L) (ho : d.Ok n) (hn : n ≤ 100000) (hL : L ≤ 9223372036854775807) (hL0 : -10000000 ≤ L) (hFo : ∀ k, F k → k < w.heap.size) (at_ : Int) (hv : Bytes w v row) (hvS : row ≠ [] → ∀ k, v.ownBlock = some k → ¬ A.S k) : Calls Try.prog 65 #[.pointer (some ⟨A.b, 0, none⟩), .int .i64 at_, v] w fun e w' => ∃ tq, e = .returned (.tuple #[.pointer tq, .int .i64 (d.slotFormat at_ row).1]) ∧ (∃ L', L - 3 ≤ L' ∧ L' ≤ L ∧ RefAt w' B A (d.slotFormat at_ row).2 L') ∧ Keeps A.S w w' ∧ Avoids A w w' B d (d.slotFormat at_ row).2 (fun k => w.heap.size ≤ k) ∧ NewT w' A.b w.heap.size F at_ (d.slotFormat at_ row).1 1 row tq :=
  (rformat_any h ho hn hL hL0 hFo at_ hv hvS).mono fun e w' ⟨h1, h2, h6, h3⟩ => by
    rcases h3 with ⟨hx, he⟩ | ⟨hx, s, he, h4, h5⟩
    · exact ⟨none, he, h1, h2, h6, .inl ⟨hx, rfl⟩⟩
    · exact ⟨_, by rw [hx]; exact he, h1, h2, h6, .inr ⟨hx, s, rfl, h4, h5⟩⟩
/-- both sides have made slots, or neither; then the pair is written -/
theorem SlotsP.made {w1 w2 w3 : World} {C1 C2 : Nat} {F : Nat → Prop} {at_ e number : Int} {row : List UInt8} (hS : NewS w1 p C1 at_ e number row sq) (hT : NewT w2 A.b C2 F at_ e number row tq) (hk : Keeps A.S w1 w2) (hk3 : Keeps (· = j) w2 w3)
    (hC1 : ∀ k, A.S k ∨ DFoot p mn ms mc k ∨ k = j ∨ G k → k < C1) (hC2 : w1.heap.size ≤ C2) (hw0 : w0.heap.size ≤ C1) (hF : ∀ k, A.S k ∨ DFoot p mn ms mc k ∨ k = j ∨ InB sq k ∨ G k → F k) (hnum : e = 0 → 0 ≤ number ∧ 0 ≤ at_ ∧ at_ ≤ 4096) (hrow : e = 0 → row.length ≤ 480) : ∃ x, SlotsP w0 w3 p mn ms mc A j G sq tq x := by
  rcases hS with ⟨he, e1⟩ | ⟨he, s, e1, s1, s2, s3⟩
  · rcases hT with ⟨_, e2⟩ | ⟨he2, _⟩
    · exact ⟨none, .inl ⟨rfl, e1, e2⟩⟩
    · exact absurd he2 he
  · rcases hT with ⟨he2, _⟩ | ⟨_, t, e2, t1, t2⟩
    · exact absurd he he2
    · obtain ⟨n1, n2, n3⟩ := hnum he
      have hlt : ∀ k, A.S k ∨ DFoot p mn ms mc k ∨ k = j ∨ G k → ¬ k = s := fun k e e' => by have := hC1 k e; omega
      have hsA : ¬ A.S s := fun e => hlt s (.inl e) rfl
      have hsj : s ≠ j := fun e => hlt s (.inr (.inr (.inl e))) rfl
      have hsG : ¬ G s := fun e => hlt s (.inr (.inr (.inr e))) rfl
      have hsl := s1.lt
      have hts : t ≠ s := by omega
      have o1 : SlotOff w1 (fun k => (A.S k ∨ k = j ∨ G k) ∨ k = t) s := SlotOff.more (s3.off (fun k e => hC1 k (by rcases e with e | e | e; exact .inl e; exact .inr (.inr (.inl e)); exact .inr (.inr (.inr e))))) s1 (fun k e => by have e' : k = t := e; omega)
      have s4 : SlotAt w2 s p at_ number row false := s1.off (o1.less (fun k e => .inl (.inl e))) hk hsA
      have o4 : SlotOff w2 (fun k => A.S k ∨ k = j ∨ k = t ∨ G k) s := (o1.keeps hk hsA).less (fun k e => by rcases e with e | e | e | e; exact .inl (.inl e); exact .inl (.inr (.inl e)); exact .inr e; exact .inl (.inr (.inr e)))
      refine ⟨some ⟨at_, number, row, false⟩, .inr ⟨_, s, t, rfl, e1, e2, s4.off (o4.less (fun k e => .inr (.inl e))) hk3 hsj, o4.keeps hk3 hsj, (t1.less (G := fun k => A.S k ∨ DFoot p mn ms mc k ∨ k = j ∨ k = s ∨ G k) (fun k e => ?_)).keeps hk3 (fun k e => .inr (.inr (.inl e))), n1, n2, n3, hsA, hsj, by omega, by omega, hsG, hrow he⟩⟩
      rcases e with e | e | e | e | e
      · exact hF k (.inl e)
      · exact hF k (.inr (.inl e))
      · exact hF k (.inr (.inr (.inl e)))
      · exact hF k (.inr (.inr (.inr (.inl ⟨_, e1, e.symm⟩))))
      · exact hF k (.inr (.inr (.inr (.inr e))))
/-- new blocks hold nothing of the slots -/
theorem SlotsP.grow {H : Nat → Prop} (h : SlotsP w0 w p mn ms mc A j G sq tq x) (hH : ∀ k, H k → w.heap.size ≤ k) : SlotsP w0 w p mn ms mc A j (fun k => G k ∨ H k) sq tq x := by
  rcases h with h | ⟨v, s, t, e0, e1, e2, h1, h2, h3, h4, h5, h6, h7, h8, h9, h10, h11, h12⟩
  · exact .inl h
  · refine .inr ⟨v, s, t, e0, e1, e2, h1, (h2.more h1 hH).less (fun k e => ?_), (h3.more hH).less (fun k e => ?_), h4, h5, h6, h7, h8, h9, h10, fun e => e.elim h11 (fun e => Nat.lt_irrefl _ (Nat.lt_of_lt_of_le h1.lt (hH s e))), h12⟩
    · rcases e with e | e | e | e | e
      · exact .inl (.inl e)
      · exact .inl (.inr (.inl e))
      · exact .inl (.inr (.inr (.inl e)))
      · exact .inl (.inr (.inr (.inr e)))
      · exact .inr e
    · rcases e with e | e | e | e | e | e
      · exact .inl (.inl e)
      · exact .inl (.inr (.inl e))
      · exact .inl (.inr (.inr (.inl e)))
      · exact .inl (.inr (.inr (.inr (.inl e))))
      · exact .inl (.inr (.inr (.inr (.inr e))))
      · exact .inr e
theorem SlotsP.less {H : Nat → Prop} (h : SlotsP w0 w p mn ms mc A j G sq tq x) (hH : ∀ k, H k → G k) : SlotsP w0 w p mn ms mc A j H sq tq x := by
  rcases h with h | ⟨v, s, t, e0, e1, e2, h1, h2, h3, h4, h5, h6, h7, h8, h9, h10, h11, h12⟩
  · exact .inl h
  · refine .inr ⟨v, s, t, e0, e1, e2, h1, h2.less (fun k e => ?_), h3.less (fun k e => ?_), h4, h5, h6, h7, h8, h9, h10, fun e => h11 (hH s e), h12⟩
    · rcases e with e | e | e | e
      · exact .inl e
      · exact .inr (.inl e)
      · exact .inr (.inr (.inl e))
      · exact .inr (.inr (.inr (hH k e)))
    · rcases e with e | e | e | e | e
      · exact .inl e
      · exact .inr (.inl e)
      · exact .inr (.inr (.inl e))
      · exact .inr (.inr (.inr (.inl e)))
      · exact .inr (.inr (.inr (.inr (hH k e))))
/-- what is neither theirs nor holds a row of theirs may change -/
theorem SlotsP.keeps {S : Nat → Prop} (h : SlotsP w0 w p mn ms mc A j G sq tq x) (hk : Keeps S w w') (hS : ∀ k, S k → G k ∨ k = j) : SlotsP w0 w' p mn ms mc A j G sq tq x := by
  rcases h with h | ⟨v, s, t, e0, e1, e2, h1, h2, h3, h4, h5, h6, h7, h8, h9, h10, h11, h12⟩
  · exact .inl h
  · have hs : ¬ S s := fun e => (hS s e).elim h11 h8
    refine .inr ⟨v, s, t, e0, e1, e2, h1.off (h2.less (fun k e => ?_)) hk hs, h2.keeps hk hs, h3.keeps hk (fun k e => ?_), h4, h5, h6, h7, h8, h9, h10, h11, h12⟩
    · exact (hS k e).elim (fun e => .inr (.inr (.inr e))) (fun e => .inr (.inl e))
    · exact (hS k e).elim (fun e => .inr (.inr (.inr (.inr e)))) (fun e => .inr (.inr (.inl e)))
/-- the document's rows lie in no block that holds no byte -/
theorem Bytes.has {v : Value} {l : List UInt8} (hb : Bytes w v l) (h0 : l ≠ []) (k : Nat) (e : v.ownBlock = some k) : ∃ a b, w.cell? a = some (byteV b) ∧ a.block = k := by
  obtain ⟨q, cap, rfl, _, _, h3⟩ := hb
  cases l with
  | nil => exact absurd rfl h0
  | cons b l =>
    obtain ⟨a, rfl, hc⟩ := h3 0 b rfl
    cases e
    exact ⟨_, b, hc, rfl⟩
theorem RefX.plain {B : Nat} {F : Nat → Prop} (h : RefAt w B A d L) (hF : ∀ a b, w.cell? a = some (byteV b) → ¬ F a.block) (hl : ∀ k, (d.now k).length = 512 ∧ (d.synced k).length = 512) : RefX w B A F d L := by
  have ne : ∀ l : List UInt8, l.length = 512 → l ≠ [] := fun l e e2 => by rw [e2] at e; cases e
  refine ⟨h, ?_, ?_⟩
  · obtain ⟨rows, a, b, c⟩ := h.now
    exact ⟨rows, a, b, fun i x hx => ⟨(c i x hx).1, (c i x hx).2.1, fun k e => by
      rintro (h1 | h1)
      · exact (c i x hx).2.2 k e h1
      · obtain ⟨a', b', hc, rfl⟩ := (c i x hx).2.1.has (ne _ (hl i).1) k e
        exact hF _ _ hc h1⟩⟩
  · obtain ⟨rows, a, b, c⟩ := h.synced
    exact ⟨rows, a, b, fun i x hx => ⟨(c i x hx).1, (c i x hx).2.1, fun k e => by
      rintro (h1 | h1)
      · exact (c i x hx).2.2 k e h1
      · obtain ⟨a', b', hc, rfl⟩ := (c i x hx).2.1.has (ne _ (hl i).2) k e
        exact hF _ _ hc h1⟩⟩
theorem RowsAt.less {B : Nat} {v : Value} {S T : Nat → Prop} {f : Int → List UInt8} {size : Nat} (h : RowsAt w B v S f size) (hT : ∀ k, T k → S k) : RowsAt w B v T f size := by
  obtain ⟨rows, hl, hs, hr⟩ := h
  exact ⟨rows, hl, hs, fun i x hx => ⟨(hr i x hx).1, (hr i x hx).2.1, fun k e e' => (hr i x hx).2.2 k e (hT k e')⟩⟩
theorem RefX.less {B : Nat} {F H : Nat → Prop} (h : RefX w B A F d L) (hH : ∀ k, H k → F k) : RefX w B A H d L :=
  ⟨h.ref, h.now.less (fun k e => e.imp id (hH k)), h.syn.less (fun k e => e.imp id (hH k))⟩
theorem RefX.grow {B : Nat} {F H : Nat → Prop} (h : RefX w B A F d L) (hl : ∀ k, (d.now k).length = 512 ∧ (d.synced k).length = 512) (hH : ∀ k, H k → w.heap.size ≤ k) : RefX w B A (fun k => F k ∨ H k) d L := by
  have ne : ∀ l : List UInt8, l.length = 512 → l ≠ [] := fun l e e2 => by rw [e2] at e; cases e
  refine ⟨h.ref, ?_, ?_⟩
  · obtain ⟨rows, a, b, c⟩ := h.now
    exact ⟨rows, a, b, fun i x hx => ⟨(c i x hx).1, (c i x hx).2.1, fun k e => by
      rintro (h1 | h1 | h1)
      · exact (c i x hx).2.2 k e (.inl h1)
      · exact (c i x hx).2.2 k e (.inr h1)
      · exact Nat.lt_irrefl _ (Nat.lt_of_lt_of_le ((c i x hx).2.1.lt (ne _ (hl i).1) k e) (hH k h1))⟩⟩
  · obtain ⟨rows, a, b, c⟩ := h.syn
    exact ⟨rows, a, b, fun i x hx => ⟨(c i x hx).1, (c i x hx).2.1, fun k e => by
      rintro (h1 | h1 | h1)
      · exact (c i x hx).2.2 k e (.inl h1)
      · exact (c i x hx).2.2 k e (.inr h1)
      · exact Nat.lt_irrefl _ (Nat.lt_of_lt_of_le ((c i x hx).2.1.lt (ne _ (hl i).2) k e) (hH k h1))⟩⟩
theorem RefX.after {B : Nat} {F : Nat → Prop} (h : RefX w B A F d L) (hr : RefAt w' B A d' L') (av : Avoids A w w' B d d' (fun k => w.heap.size ≤ k)) (hF : ∀ k, F k → k < w.heap.size) : RefX w' B A F d' L' := by
  obtain ⟨h1, h2⟩ := av (fun k => A.S k ∨ F k) (fun k e => .inl e) (fun k e => Nat.not_le.2 (e.elim (h.ref.lt k) (hF k))) h.now h.syn
  exact ⟨hr, h1, h2⟩
theorem SlotsP.no_byte (h : SlotsP w0 w p mn ms mc A j G sq tq x) {a : Addr} {b : UInt8} (hc : w.cell? a = some (byteV b)) : ¬ InB sq a.block ∧ ¬ InB tq a.block := by
  rcases h with ⟨_, e1, e2⟩ | ⟨v, s, t, e0, e1, e2, h1, h2, h3, _⟩
  · subst e1; subst e2
    exact ⟨fun ⟨_, e, _⟩ => (by cases e), fun ⟨_, e, _⟩ => (by cases e)⟩
  · subst e1; subst e2
    exact ⟨fun ⟨_, e, e'⟩ => (by cases e; exact h1.no_byte hc e'.symm), fun ⟨_, e, e'⟩ => (by cases e; exact h3.no_byte hc e'.symm)⟩
/-- the document's device, told more of -/
theorem PB.refx (h : PB w0 w p mn ms mc A j d L n sq tq) (hs : SlotsP w0 w p mn ms mc A j G sq tq x) : RefX w w0.heap.size A (fun k => DFoot p mn ms mc k ∨ k = j ∨ InB sq k ∨ InB tq k) d L :=
  RefX.plain h.ref (fun a b hc e => by
    rcases e with e | e | e | e
    · exact h.dev.lay.no_byte hc e
    · exact h.no_byte hc e
    · exact (hs.no_byte hc).1 e
    · exact (hs.no_byte hc).2 e) h.dev.ok.lens
end
end Go.Proofs.Ytnficiohnhodiaa
