import Derived.Test.YtfcgegglipmdlaaScanB
import Derived.OwnWalk
namespace Go.Proofs.Ytfcgegglipmdlaa
open Go.RowKit
structure Tk where
  kind : Int
  text : List UInt8
  pos : Int
deriving DecidableEq
def Tk.cells (t : Tk) : List Value := [.int .i64 t.kind, .string ⟨t.text.toArray⟩, .int .i64 t.pos]
theorem tokN_len (l : List UInt8) (h : 0 < l.length) (hk : (tokN l).1 ≠ 0) : 1 ≤ (tokN l).2 ∧ (tokN l).2 ≤ l.length := by
  have e0 := headD_eq l h
  have r1 := runN_le insideB l
  have r2 := runN_le digitB l
  have p1 : letterB (l.headD 0).toNat = true → 1 ≤ runN insideB l := by
    intro hl
    have e := runN_drop insideB l 0 h
    rw [if_pos (by rw [← e0]; unfold insideB; rw [hl]; rfl)] at e; simp at e; omega
  have p2 : digitB (l.headD 0).toNat = true → 1 ≤ runN digitB l := by
    intro hl
    have e := runN_drop digitB l 0 h
    rw [if_pos (by rw [← e0]; exact hl)] at e; simp at e; omega
  revert hk
  unfold tokN
  split
  · rename_i hl; have := p1 hl; split <;> simp; omega
  · split
    · rename_i hl; have := p2 hl; split <;> simp; omega
    · split
      · simp; omega
      · split <;> simp; omega
/-- the tokens of what is left, from a place on; or where none begins -/
def toksF : Nat → List UInt8 → Nat → Except Nat (List Tk)
  | 0, _, k => .error k
  | f + 1, l, k =>
    if (l.drop (skipN false l)) = [] then .ok [⟨4, [], (k + skipN false l : Nat)⟩]
    else if (tokN (l.drop (skipN false l))).1 = 0 then .error (k + skipN false l)
    else (toksF f ((l.drop (skipN false l)).drop (tokN (l.drop (skipN false l))).2) (k + skipN false l + (tokN (l.drop (skipN false l))).2)).map
      (⟨(tokN (l.drop (skipN false l))).1, (l.drop (skipN false l)).take (tokN (l.drop (skipN false l))).2, (k + skipN false l : Nat)⟩ :: ·)
theorem toksF_fuel (f g : Nat) (l : List UInt8) (k : Nat) (hf : l.length < f) (hg : l.length < g) : toksF f l k = toksF g l k := by
  induction f generalizing g l k with
  | zero => omega
  | succ f ih =>
    obtain ⟨g, rfl⟩ : ∃ m, g = m + 1 := ⟨g - 1, by omega⟩
    simp only [toksF]
    by_cases h1 : l.drop (skipN false l) = []
    · rw [if_pos h1, if_pos h1]
    · rw [if_neg h1, if_neg h1]
      by_cases h2 : (tokN (l.drop (skipN false l))).1 = 0
      · rw [if_pos h2, if_pos h2]
      · rw [if_neg h2, if_neg h2]
        have hp : 0 < (l.drop (skipN false l)).length := List.length_pos_iff.2 h1
        have := tokN_len _ hp h2
        rw [ih g _ _ (by simp at this ⊢; omega) (by simp at this ⊢; omega)]
def toksR (l : List UInt8) (k : Nat) : Except Nat (List Tk) := toksF (l.length + 1) l k
theorem toksR_end (l : List UInt8) (k : Nat) (h1 : l.drop (skipN false l) = []) : toksR l k = .ok [⟨4, [], (k + skipN false l : Nat)⟩] := by
  simp only [toksR, toksF]; rw [if_pos h1]
theorem toksR_bad (l : List UInt8) (k : Nat) (h1 : l.drop (skipN false l) ≠ []) (h2 : (tokN (l.drop (skipN false l))).1 = 0) : toksR l k = .error (k + skipN false l) := by
  simp only [toksR, toksF]; rw [if_neg h1, if_pos h2]
theorem toksR_tok (l : List UInt8) (k : Nat) (h1 : l.drop (skipN false l) ≠ []) (h2 : (tokN (l.drop (skipN false l))).1 ≠ 0) :
    toksR l k = (toksR ((l.drop (skipN false l)).drop (tokN (l.drop (skipN false l))).2) (k + skipN false l + (tokN (l.drop (skipN false l))).2)).map
      (⟨(tokN (l.drop (skipN false l))).1, (l.drop (skipN false l)).take (tokN (l.drop (skipN false l))).2, (k + skipN false l : Nat)⟩ :: ·) := by
  rw [show toksR l k = toksF (l.length + 1) l k from rfl]
  simp only [toksF]; rw [if_neg h1, if_neg h2]
  have hp : 0 < (l.drop (skipN false l)).length := List.length_pos_iff.2 h1
  have := tokN_len _ hp h2
  congr 1
  exact toksF_fuel _ _ _ _ (by simp at this ⊢; omega) (by simp)
/-- a text's tokens, or its first fault: its code and its place -/
def toksT (l : List UInt8) : Except (Int × Nat) (List Tk) :=
  if 480 < l.length then .error (2, 0) else (toksR l 0).mapError fun k => (7, k)
def ToksPost (l : List UInt8) (w : World) (e : Ending) (w' : World) : Prop :=
  Below w.heap.size w w' ∧ match toksT l with
  | .ok ts => ∃ sv, e = .returned (.tuple #[sv, .nilIface]) ∧ w'.ownsRow w.heap.size 35 3 sv ts.length (ts.flatMap Tk.cells)
  | .error (c, k) => ∃ b, e = .returned (.tuple #[.slice none 0 0, .iface 43 (.pointer (some ⟨b, 0, none⟩))]) ∧ w.heap.size ≤ b ∧ w'.heap[b]? = some (.cells #[.int .i64 c, .int .i64 k] 46 (0, 0))
end Go.Proofs.Ytfcgegglipmdlaa
