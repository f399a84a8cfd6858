import Derived.Test.YtnficiohnhodiaaRefK
/-
  Both devices, side by side.
-/
namespace Go.Proofs.Ytnficiohnhodiaa
open Go.RowKit
theorem spot_noneR {w : World} {a : Addr} {v : Value} (h : w.cell? a = some v) : a.spot = none := by
  unfold World.cell? at h
  split at h
  · split at h
    · cases h
    · rename_i hs; simpa using hs
  · cases h
theorem no_map_cellR {w : World} {r : Nat} {l : IM} (h : IMap w r l) {a : Addr} {u : Value} (hc : w.cell? a = some u) : a.block ≠ r := by
  obtain ⟨_, _, a1, _⟩ := h
  intro e
  unfold World.cell? at hc; rw [e, a1] at hc; simp at hc
theorem cells_byteR {w : World} {a : Addr} {b : UInt8} {cs : Array Value} {T : TypeId} {fz : Nat × Nat} (hc : w.cell? a = some (byteV b)) (hh : w.heap[a.block]? = some (.cells cs T fz)) (hno : ∀ u ∈ cs.toList, ∀ n, u ≠ .int .u8 n) : False := by
  have hsp := spot_noneR hc
  obtain ⟨blk, off, sp⟩ := a
  cases hsp
  unfold World.cell? at hc
  simp only [hh] at hc
  have hm : cs[off]? = some (byteV b) := by simpa using hc
  exact hno _ (Array.mem_toList_iff.2 (Array.mem_of_getElem? hm)) _ rfl
theorem DevAt.no_byteR {w : World} {p mn ms mc : Nat} {d : Dev} (h : DevAt w p mn ms mc d) {a : Addr} {b : UInt8} (hc : w.cell? a = some (byteV b)) : ¬ DFoot p mn ms mc a.block := by
  obtain ⟨l1, a1, _⟩ := h.now
  obtain ⟨l2, a2, _⟩ := h.synced
  obtain ⟨l3, a3, _⟩ := h.chg
  rintro (e | e | e | e)
  · exact cells_byteR hc (e ▸ h.self) (by simp)
  · exact no_map_cellR a1 hc e
  · exact no_map_cellR a2 hc e
  · exact no_map_cellR a3 hc e
section
variable {w w' : World} {B : Nat} {A : RAd} {d d' : Dev} {L : Int} {p mn ms mc n : Nat}
theorem DevAt.own_byte (h : DevAt w p mn ms mc d) {v : Value} {l : List UInt8} (hb : Bytes w v l) (h0 : l ≠ []) (k : Nat) (e : v.ownBlock = some k) : ¬ DFoot p mn ms mc k := by
  obtain ⟨q, cap, rfl, _, _, h3⟩ := hb
  cases l with
  | nil => exact absurd rfl h0
  | cons b l =>
    obtain ⟨a, rfl, hc⟩ := h3 0 b rfl
    have e2 : a.block = k := by cases e; rfl
    have h4 : (a.add 0).block = a.block := by unfold Addr.add; split <;> rfl
    rw [← e2, ← h4]
    exact h.no_byteR hc
/-- the document's device, and no row of it lies in F -/
structure RefX (w : World) (B : Nat) (A : RAd) (F : Nat → Prop) (d : Dev) (L : Int) : Prop where
  ref : RefAt w B A d L
  now : RowsAt w B A.vn (fun k => A.S k ∨ F k) d.now d.size.toNat
  syn : RowsAt w B A.vs (fun k => A.S k ∨ F k) d.synced d.size.toNat
theorem RefX.of (h : RefAt w B A d L) (hD : DevAt w p mn ms mc d') (hl : ∀ k, (d.now k).length = 512 ∧ (d.synced k).length = 512) : RefX w B A (DFoot p mn ms mc) d L := by
  have ne : ∀ l : List UInt8, l.length = 512 → l ≠ [] := fun l e e2 => by rw [e2] at e; cases e
  refine ⟨h, ?_, ?_⟩
  · obtain ⟨rows, a, b, c⟩ := h.now
    exact ⟨rows, a, b, fun i x hx => ⟨(c i x hx).1, (c i x hx).2.1, fun k e => by rintro (h1 | h1); exact (c i x hx).2.2 k e h1; exact hD.own_byte (c i x hx).2.1 (ne _ (hl i).1) k e h1⟩⟩
  · obtain ⟨rows, a, b, c⟩ := h.synced
    exact ⟨rows, a, b, fun i x hx => ⟨(c i x hx).1, (c i x hx).2.1, fun k e => by rintro (h1 | h1); exact (c i x hx).2.2 k e h1; exact hD.own_byte (c i x hx).2.1 (ne _ (hl i).2) k e h1⟩⟩
/-- what changes but the blocks of F, keeps it -/
theorem RefX.keeps {F S : Nat → Prop} (h : RefX w B A F d L) (hk : Keeps S w w') (hS : ∀ k, S k → F k) (hd : ∀ k, F k → ¬ A.S k) : RefX w' B A F d L := by
  have n1 : ∀ k, A.vn.ownBlock = some k → ¬ S k := fun k e e' => hd k (hS k e') (.inr (.inl e))
  have n2 : ∀ k, A.vs.ownBlock = some k → ¬ S k := fun k e e' => hd k (hS k e') (.inr (.inr (.inl e)))
  have n3 : ∀ k, A.vc.ownBlock = some k → ¬ S k := fun k e e' => hd k (hS k e') (.inr (.inr (.inr e)))
  have k1 := h.now.keeps hk n1 (fun k e => .inr (hS k e))
  have k2 := h.syn.keeps hk n2 (fun k e => .inr (hS k e))
  refine ⟨⟨hk.at h.ref.self (fun e => hd _ (hS _ e) (.inl rfl)), ?_, ?_, h.ref.chg.block_keeps hk n3, h.ref.low, h.ref.ap1, h.ref.ap2, h.ref.ap3, h.ref.left, h.ref.l0⟩, k1, k2⟩
  · obtain ⟨rows, a, b, c⟩ := k1
    exact ⟨rows, a, b, fun i x hx => ⟨(c i x hx).1, (c i x hx).2.1, fun k e e' => (c i x hx).2.2 k e (.inl e')⟩⟩
  · obtain ⟨rows, a, b, c⟩ := k2
    exact ⟨rows, a, b, fun i x hx => ⟨(c i x hx).1, (c i x hx).2.1, fun k e e' => (c i x hx).2.2 k e (.inl e')⟩⟩
end
end Go.Proofs.Ytnficiohnhodiaa
