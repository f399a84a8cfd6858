import Derived.Test.YtnficiohnhodiaaLockP
import Derived.Test.YtnficiohnhodiaaShelfK
import Derived.Shelf.SlIterI.Sorted
namespace Go.Proofs.Ytnficiohnhodiaa
open Go.RowKit Go.Maps Go.Sort Go.Shelf
open Go.ChangeMaps (setBlock)
open Go.WideElems (Fit rd rg pl)
/-- how an element reads: it does not matter -/
def anyElem : Value → Option (DataW Unit × List MemPlace) := fun _ => some (.lit (.bool true), [])
def wfI (k : Int) : Prop := (Lit.int .i64 k).wf = true
theorem own_im {w : World} {r : Nat} {l : IM} (h : IMap w r l) (hw : ∀ p ∈ l, wfI p.1) (hl : l.length ≤ 1000000) : ∃ D : DataW Unit, w.ownsMap Try.prog 3 anyElem r l.length D ∧ (intKeys D).Perm (l.map (·.1)) ∧ Maps.size D = l.length := by
  obtain ⟨es, c, hb, he⟩ := h
  have hlen : es.size = l.length := by have := congrArg List.length he.same; simpa using this
  have hkn : (es.toList.map (·.key)) = l.map (fun p => Value.int .i64 p.1) := by
    have := congrArg (List.map Prod.fst) he.same; simpa [List.map_map, Function.comp_def] using this
  have hk : ∀ x ∈ es.toList, ∃ k, x.key = .int .i64 k ∧ wfI k := by
    intro x hx
    have : x.key ∈ es.toList.map (·.key) := List.mem_map.2 ⟨x, hx, rfl⟩
    rw [hkn] at this
    obtain ⟨p, hp, e⟩ := List.mem_map.1 this
    exact ⟨p.1, e.symm, hw p hp⟩
  have hrd : ∀ x ∈ es.toList, ∀ k, x.key = .int .i64 k → wfI k → rd Try.prog 3 anyElem x = some (.int .i64 k, .lit (.bool true)) := by
    intro x _ k e hwk
    unfold Go.WideElems.rd; rw [e, keyOf_int_mk Try.underlying3 hwk]; rfl
  have hrg : es.toList.map (rg Try.prog 3 anyElem) = l.map (fun p => (Lit.int .i64 p.1, (DataW.lit (.bool true) : DataW Unit))) := by
    have h1 : es.toList.map (rg Try.prog 3 anyElem) = (es.toList.map (·.key)).map (fun v => match v with | .int _ k => (Lit.int .i64 k, (DataW.lit (.bool true) : DataW Unit)) | _ => (.bool false, .nil)) := by
      rw [List.map_map]; apply List.map_congr_left; intro x hx
      obtain ⟨k, e, hwk⟩ := hk x hx
      simp only [Function.comp, rg, hrd x hx k e hwk, Option.getD_some, e]
    rw [h1, hkn, List.map_map]; rfl
  have hperm : (List.foldr DataW.insert [] (es.toList.map (rg Try.prog 3 anyElem))).Perm (es.toList.map (rg Try.prog 3 anyElem)) := Go.WideShapes.sorted_perm _
  refine ⟨_, ⟨es, c, hb, ⟨by unfold maxLen; omega, ⟨he.late, he.born.imp (fun h => Nat.ne_of_lt h), ?_⟩, ?_⟩, by omega, rfl⟩, ?_, ?_⟩
  · rw [hkn, show l.map (fun p => Value.int .i64 p.1) = (l.map (·.1)).map (Value.int .i64) from by simp [List.map_map]]
    exact nodup_map_inj _ (fun a b h => by cases h; rfl) he.keys
  · intro x hx; obtain ⟨k, e, hwk⟩ := hk x hx; exact ⟨_, hrd x hx k e hwk⟩
  · show (List.map (fun p : Lit × DataW Unit => Go.intOf p.1) _).Perm _
    refine (hperm.map _).trans ?_
    rw [hrg, List.map_map]
    exact List.Perm.refl _
  · show List.length _ = _
    rw [hperm.length_eq, List.length_map]; simpa using hlen
end Go.Proofs.Ytnficiohnhodiaa
