import Derived.Test.YtnficiohnhodiaaDiskJa
/-
  A device of the call's own: what else is told of it.
-/
namespace Go.Proofs.Ytnficiohnhodiaa
open Go.RowKit
theorem DB.other {S : Nat → Prop} {w0 w w' : World} {p mn ms mc n : Nat} {d : Dev} (h : DB w0 w p mn ms mc d n) (hk : Keeps S w w') (hs : ∀ k, DFoot p mn ms mc k → ¬ S k) (hl : ∀ k, S k → w0.heap.size ≤ k) : DB w0 w' p mn ms mc d n :=
  ⟨h.lay.keeps hk hs, h.ok, h.low, h.bel.trans (hk.below h.bel.size (fun k hk' hf' => by have := hl k hf'; omega))⟩
theorem DB.setCell {w0 w : World} {p mn ms mc n : Nat} {d : Dev} (h : DB w0 w p mn ms mc d n) {a : Addr} (ha : ¬ DFoot p mn ms mc a.block) (hl : w0.heap.size ≤ a.block) (v : Value) : DB w0 (w.setCell a v) p mn ms mc d n :=
  h.other (S := (· = a.block)) (Keeps.cellAt (S := (· = a.block)) rfl v) (fun k hk e => ha (e ▸ hk)) (fun k e => by subst e; exact hl)
end Go.Proofs.Ytnficiohnhodiaa
