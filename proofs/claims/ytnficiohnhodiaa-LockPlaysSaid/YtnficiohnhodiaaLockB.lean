import Derived.Test.YtnficiohnhodiaaLockA
import Derived.Test.YtnficiohnhodiaaShelf
import Derived.Sort.OwnSortedInts
import Derived.StillTailTactics
import Derived.Deep.LoopGhost
namespace Go.Proofs.Ytnficiohnhodiaa
open Go.RowKit
open Go.ChangeMaps (setBlock)
def sortI (l : List Int) : List Int := l.mergeSort (fun x y => decide (x ≤ y))
theorem sortI_length (l : List Int) : (sortI l).length = l.length := by unfold sortI; simp
theorem sortI_perm {a b : List Int} (h : a.Perm b) : sortI a = sortI b := by
  have hp : (sortI a).Perm (sortI b) := ((List.mergeSort_perm a _).trans h).trans (List.mergeSort_perm b _).symm
  have s1 : (sortI a).Pairwise (fun x y => decide (x ≤ y)) := List.pairwise_mergeSort (by simp; omega) (by simp; omega) a
  have s2 : (sortI b).Pairwise (fun x y => decide (x ≤ y)) := List.pairwise_mergeSort (by simp; omega) (by simp; omega) b
  exact hp.eq_of_pairwise (fun x y _ _ h1 h2 => by simp at h1 h2; omega) s1 s2
theorem owns_below {W W' : World} {base e size n : Nat} {v : Value} {xs : List Value} (h : W.ownsRow base e size v n xs) (hb : Below W.heap.size W W') : W'.ownsRow base e size v n xs :=
  h.kept (row := none) ⟨hb.os, hb.tape, hb.output, hb.size, fun k hk _ => hb.block k hk⟩ (by cases v.ownBlock <;> simp)
theorem sort_own (w : World) (base : Nat) (v : Value) (zs : List Int) (hown : w.ownsRow base 3 1 v zs.length (zs.map (Value.int .i64))) (hl : zs.length < 4611686018427387904) :
    Calls Try.prog 70 #[v] w fun e w' => e = .returned (.tuple #[]) ∧ w'.ownsRow base 3 1 v zs.length ((sortI zs).map (Value.int .i64)) ∧ w.grownBy w' v.ownBlock := by
  obtain ⟨hl1, ⟨rfl, h0⟩ | ⟨g, cap, cur, rfl, hg, hb, h1, h2, h3, h4⟩⟩ := hown
  · have : zs = [] := by simp at h0; exact List.eq_nil_of_length_eq_zero (by simpa using h0)
    subst this
    refine (Try.slices_Sort_int_none none 0 w).mono ?_
    rintro e w' ⟨rfl, rfl⟩
    exact ⟨rfl, by rw [show sortI [] = [] from List.mergeSort_nil]; exact World.ownsRow_nil _ _ _ _, World.grownBy.refl _ _⟩
  · refine (Try.slices_Sort_int g 0 cap zs w (holds_of_blockI hb (by simpa using h4)) (lt_of hb) hl).mono ?_
    rintro e w' ⟨rfl, n, os, rfl⟩
    exact ⟨rfl, ownsRow_sortedI (sortI_length zs) hg hb h1 h2 h3, grownBy_sortedI _⟩
theorem new_cells (W : World) (l : List Value) (e : TypeId) : ∀ (j : Nat) (u : Value), l[j]? = some u → (W.alloc (.cells l.toArray e)).cell? ((⟨W.heap.size, 0, none⟩ : Addr).add j) = some u := by
  intro j u h
  have e0 : (⟨W.heap.size, 0, none⟩ : Addr).add j = ⟨W.heap.size, j, none⟩ := by unfold Addr.add; split <;> simp_all
  rw [e0]
  have h2 := heap_alloc_new W (.cells l.toArray e (0, 0))
  unfold World.cell?
  simp only [h2]
  simpa using h
theorem new_cells' (W : World) (l : List Value) (e : TypeId) (b : Nat) (hb : W.heap.size = b) : ∀ (j : Nat) (u : Value), l[j]? = some u → (W.alloc (.cells l.toArray e)).cell? ((⟨b, 0, none⟩ : Addr).add j) = some u := by
  subst hb; exact new_cells W l e
theorem owns_lower {W : World} {base base' e size n : Nat} {v : Value} {xs : List Value} (h : W.ownsRow base e size v n xs) (hb : base' ≤ base) : W.ownsRow base' e size v n xs :=
  ⟨h.1, h.2.imp id fun ⟨g, cap, cur, a, b, r⟩ => ⟨g, cap, cur, a, Nat.le_trans hb b, r⟩⟩
theorem infoI : (Try.prog.info? 3).map (fun i => (i.zero, i.size, i.bytes)) = some (some (.int .i64 0), 1, 8) := by kernel_rfl
theorem ints_one (l : List Int) : ∀ u ∈ l.map (Value.int .i64), u.oneCell' = true := by
  intro u hu; obtain ⟨x, _, rfl⟩ := List.mem_map.1 hu; rfl
theorem grown_of_below {W W' : World} (h : Below W.heap.size W W') : W.grownBy W' none := ⟨h.os, h.tape, h.output, h.size, fun k hk _ => h.block k hk⟩
end Go.Proofs.Ytnficiohnhodiaa
