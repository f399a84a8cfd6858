import Derived.Test.YtnficiohnhodiaaRows
import Derived.WalkKit
import Derived.SizedLaws
import Derived.ChangeSlices
import Derived.OpenShut
import Derived.Deep.Slices
import Derived.Deep.Fields
import Derived.ChangeSame
/-
  An argument that is a slice of structs of four ints: what its cells hold; the load of an element.
-/
namespace Go.Proofs.Ytnficiohnhodiaa
open Go.RowKit Go.ChangeShapes Go.WideShapes Go.Deep
structure OpL where
  kind : Int
  txn : Int
  page : Int
  mode : Int
def OpL.vals (o : OpL) : List Value := [.int .i64 o.kind, .int .i64 o.txn, .int .i64 o.page, .int .i64 o.mode]
def OpL.wf (o : OpL) : Prop := (Lit.int .i64 o.kind).wf = true ∧ (Lit.int .i64 o.txn).wf = true ∧ (Lit.int .i64 o.page).wf = true ∧ (Lit.int .i64 o.mode).wf = true
def IsOps (w : World) (a : Option Addr) (len cap : Nat) (zs : List OpL) : Prop :=
  (a = none ∧ len = 0 ∧ cap = 0 ∧ zs = []) ∨
  ∃ x, a = some x ∧ zs.length = len ∧ len ≤ cap ∧ cap ≤ maxLen ∧ (∀ i o, zs[i]? = some o → ∀ j v, o.vals[j]? = some v → w.cell? (x.add (i * 4 + j)) = some v) ∧ ∀ o ∈ zs, o.wf
section
variable {H : Type} {enc : TypeId × Value → H} {P : Program} {w : World} {base : Nat} {spare : Nat → Bool} {held : Bool}
theorem open_slice_fields {t e : TypeId} {fs : Array Field} {fuel : Nat} {cs : List Value} {x : DataW H × List MemPlace} (ht : P.underlying t = some (.slice e)) (he : P.underlying e = some (.struct fs))
    (hone : oneCellFields P fs = true) (hC : P.cellsOf e = fs.size) (h : DataW.trod enc P w base spare held fuel t cs = some x) :
    (cs = [.slice none 0 0] ∧ x = (.nil, [])) ∨
    ∃ (a : Addr) (len cap m : Nat) (D : Nat → DataW H) (Pl : Nat → List MemPlace), cs = [.slice (some a) len cap] ∧ base ≤ a.block ∧ len ≤ cap ∧ cap ≤ maxLen ∧ m = (if spare a.block then cap else len) ∧
      x = (.slice ((List.range len).map D) ((List.range (m - len)).map fun j => D (len + j)), MemPlace.row a (m * fs.size) ++ (List.range m).flatMap Pl) ∧
      ∀ i, i < m → ∃ (ys : List (DataW H × List MemPlace)) (n : Nat), D i = .agg (ys.map (·.1)) ∧ Pl i = ys.flatMap (·.2) ∧ ys.length = fs.size ∧
        ∀ (j : Nat) (f : Field), fs[j]? = some f → ∃ (v : Value) (y : DataW H × List MemPlace), w.cell? (a.add (i * fs.size + j)) = some v ∧ ys[j]? = some y ∧ DataW.trod enc P w base spare held n f.type [v] = some y := by
  rcases open_slice ht h with h0 | ⟨a, len, cap, m, n, D, Pl, hcs, hb, hl, hm, hmm, hx, hi⟩
  · exact .inl h0
  · refine .inr ⟨a, len, cap, m, D, Pl, hcs, hb, hl, hm, hmm, by rw [hC] at hx; exact hx, fun i him => ?_⟩
    obtain ⟨cs', hc, ht'⟩ := hi i him
    rw [hC] at hc
    obtain ⟨ys, n', hn', hy, hlen, hyl, hf⟩ := DataW.trod_struct he ht'
    obtain ⟨_, hcl, hat⟩ := World.cells?_some hc
    simp only [Prod.mk.injEq] at hy
    refine ⟨ys, n', hy.1, hy.2, hyl, fun j f hj => ?_⟩
    obtain ⟨ho, hk⟩ := hone_of hone j f hj
    have hjl : j < fs.size := (Array.getElem?_eq_some_iff.1 hj).1
    have hcell := hat j hjl
    have hv : cs'[j]? = some (cs'[j]'(by omega)) := List.getElem?_eq_getElem (by omega)
    have h1 := hf j f hj
    rw [ho, hk] at h1
    have hone' : (cs'.drop j).take 1 = [cs'[j]'(by omega)] := by
      rw [List.drop_eq_getElem_cons (by omega)]
      rfl
    rw [hone'] at h1
    have hys : ys[j]? = some (ys[j]'(by omega)) := List.getElem?_eq_getElem (by omega)
    refine ⟨_, _, ?_, hys, h1.trans hys⟩
    rw [← Go.Deep.add_add, hcell, hv]
theorem int_cell {t : TypeId} {k : IntKind} {n : Nat} {v : Value} {y : DataW H × List MemPlace} (ht : P.underlying t = some (.int k)) (h : DataW.trod enc P w base spare held n t [v] = some y) : ∃ z, v = .int k z ∧ (Lit.int k z).wf = true := by
  obtain ⟨a, e, _, wa⟩ := DataW.trod_int ht h
  exact ⟨a, by simpa using e, wa⟩
theorem four_parts {fs : Array Field} {i : Nat} {a : Addr} (hs : fs.size = 4) (hk : ∀ (j : Nat) (f : Field), fs[j]? = some f → P.underlying f.type = some (.int .i64)) {ys : List (DataW H × List MemPlace)} {n : Nat}
    (h : ∀ (j : Nat) (f : Field), fs[j]? = some f → ∃ (v : Value) (y : DataW H × List MemPlace), w.cell? (a.add (i * fs.size + j)) = some v ∧ ys[j]? = some y ∧ DataW.trod enc P w base spare held n f.type [v] = some y) :
    ∃ o : OpL, o.wf ∧ ∀ j v, o.vals[j]? = some v → w.cell? (a.add (i * 4 + j)) = some v := by
  have hj : ∀ j, j < 4 → ∃ z, w.cell? (a.add (i * 4 + j)) = some (.int .i64 z) ∧ (Lit.int .i64 z).wf = true := by
    intro j hj
    have hf : fs[j]? = some (fs[j]'(by omega)) := Array.getElem?_eq_getElem (by omega)
    obtain ⟨v, y, h1, _, h3⟩ := h j _ hf
    obtain ⟨z, rfl, hw⟩ := int_cell (hk j _ hf) h3
    rw [hs] at h1
    exact ⟨z, h1, hw⟩
  obtain ⟨z0, a0, b0⟩ := hj 0 (by omega)
  obtain ⟨z1, a1, b1⟩ := hj 1 (by omega)
  obtain ⟨z2, a2, b2⟩ := hj 2 (by omega)
  obtain ⟨z3, a3, b3⟩ := hj 3 (by omega)
  refine ⟨⟨z0, z1, z2, z3⟩, ⟨b0, b1, b2, b3⟩, fun j v hv => ?_⟩
  match j, hv with
  | 0, hv => cases hv; exact a0
  | 1, hv => cases hv; exact a1
  | 2, hv => cases hv; exact a2
  | 3, hv => cases hv; exact a3
  | j + 4, hv => simp [OpL.vals] at hv
theorem choose_list {α : Type} (n : Nat) (R : Nat → α → Prop) (h : ∀ i, i < n → ∃ x, R i x) : ∃ zs : List α, zs.length = n ∧ ∀ i x, zs[i]? = some x → R i x := by
  induction n with
  | zero => exact ⟨[], rfl, fun i x hx => by simp at hx⟩
  | succ n ih =>
    obtain ⟨zs, hl, hz⟩ := ih (fun i hi => h i (by omega))
    obtain ⟨x, hx⟩ := h n (by omega)
    refine ⟨zs ++ [x], by simp [hl], fun i y hy => ?_⟩
    by_cases hi : i < zs.length
    · rw [List.getElem?_append_left hi] at hy; exact hz i y hy
    · have hi2 := (List.getElem?_eq_some_iff.1 hy).1
      simp at hi2
      have : i = n := by omega
      subst this
      rw [List.getElem?_append_right (by omega), hl] at hy; simp at hy; subst hy; exact hx
theorem ops_of {t e : TypeId} {fs : Array Field} {fuel : Nat} {a : Option Addr} {len cap : Nat} {x : DataW H × List MemPlace} (ht : P.underlying t = some (.slice e)) (he : P.underlying e = some (.struct fs))
    (hone : oneCellFields P fs = true) (hC : P.cellsOf e = fs.size) (hs : fs.size = 4) (hk : ∀ (j : Nat) (f : Field), fs[j]? = some f → P.underlying f.type = some (.int .i64))
    (h : DataW.trod enc P w base spare held fuel t [.slice a len cap] = some x) : ∃ zs, IsOps w a len cap zs := by
  rcases open_slice_fields ht he hone hC h with ⟨hcs, _⟩ | ⟨x, l, c, m, D, Pl, hcs, _, hl, hc, hm, _, hi⟩
  · simp at hcs; obtain ⟨rfl, rfl, rfl⟩ := hcs
    exact ⟨[], .inl ⟨rfl, rfl, rfl, rfl⟩⟩
  · simp at hcs; obtain ⟨rfl, rfl, rfl⟩ := hcs
    have hlm : len ≤ m := by rw [hm]; split <;> omega
    obtain ⟨zs, hz, hr⟩ := choose_list len (fun i (o : OpL) => o.wf ∧ ∀ j v, o.vals[j]? = some v → w.cell? (x.add (i * 4 + j)) = some v) (fun i hi' => by
      obtain ⟨ys, n, _, _, _, hp⟩ := hi i (by omega)
      exact four_parts hs hk hp)
    refine ⟨zs, .inr ⟨x, rfl, hz, hl, hc, fun i o ho => (hr i o ho).2, fun o ho => ?_⟩⟩
    obtain ⟨i, hi2, e⟩ := List.getElem_of_mem ho
    exact (hr i o (by rw [List.getElem?_eq_getElem hi2, e])).1
end
theorem ops_of_trod {H : Type} {enc : TypeId × Value → H} {w : World} {base : Nat} {spare : Nat → Bool} {held : Bool} {fuel : Nat} {a : Option Addr} {len cap : Nat} {x : DataW H × List MemPlace}
    (h : DataW.trod enc Try.prog w base spare held fuel 22 [.slice a len cap] = some x) : ∃ zs, IsOps w a len cap zs :=
  ops_of Try.underlying22 Try.underlying31 (by kernel_rfl) (by kernel_rfl) rfl (fun j f hj => by
    match j, hj with
    | 0, hj => cases hj; exact Try.underlying3
    | 1, hj => cases hj; exact Try.underlying3
    | 2, hj => cases hj; exact Try.underlying3
    | 3, hj => cases hj; exact Try.underlying3
    | j + 4, hj => simp at hj) h
end Go.Proofs.Ytnficiohnhodiaa
