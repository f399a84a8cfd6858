import Derived.Test.YtbaphjnglkocpaaDiskB
import Derived.Test.YtbaphjnglkocpaaShelfK
import Derived.Shelf.SlIterI.Sorted
/-
  The device: Unsynced.
-/
namespace Go.Proofs.Ytbaphjnglkocpaa
open Go.RowKit Go.Maps Go.Sort Go.Shelf
open Go.ChangeMaps (setBlock)
open Go.WideElems (Fit rd rg pl)
def sortI (l : List Int) : List Int := l.mergeSort (fun x y => decide (x ≤ y))
theorem sortI_length (l : List Int) : (sortI l).length = l.length := by unfold sortI; simp
theorem sortI_perm {a b : List Int} (h : a.Perm b) : sortI a = sortI b := by
  have hp : (sortI a).Perm (sortI b) := ((List.mergeSort_perm a _).trans h).trans (List.mergeSort_perm b _).symm
  have s1 : (sortI a).Pairwise (fun x y => decide (x ≤ y)) := List.pairwise_mergeSort (by simp; omega) (by simp; omega) a
  have s2 : (sortI b).Pairwise (fun x y => decide (x ≤ y)) := List.pairwise_mergeSort (by simp; omega) (by simp; omega) b
  exact hp.eq_of_pairwise (fun x y _ _ h1 h2 => by simp at h1 h2; omega) s1 s2
/-- how an element reads: it does not matter -/
def anyElem : Value → Option (DataW Unit × List MemPlace) := fun _ => some (.lit (.bool true), [])
def wfI (k : Int) : Prop := (Lit.int .i64 k).wf = true
theorem own_im {w : World} {r : Nat} {l : IM} (h : IMap w r l) (hw : ∀ p ∈ l, wfI p.1) (hl : l.length ≤ 1000000) : ∃ D : DataW Unit, w.ownsMap Try.prog 3 anyElem r l.length D ∧ (intKeys D).Perm (l.map (·.1)) ∧ Maps.size D = l.length := by
  obtain ⟨es, c, hb, he⟩ := h
  have hlen : es.size = l.length := by have := congrArg List.length he.same; simpa using this
  have hkn : (es.toList.map (·.key)) = l.map (fun p => Value.int .i64 p.1) := by
    have := congrArg (List.map Prod.fst) he.same; simpa [List.map_map, Function.comp_def] using this
  have hk : ∀ x ∈ es.toList, ∃ k, x.key = .int .i64 k ∧ wfI k := by
    intro x hx
    have : x.key ∈ es.toList.map (·.key) := List.mem_map.2 ⟨x, hx, rfl⟩
    rw [hkn] at this
    obtain ⟨p, hp, e⟩ := List.mem_map.1 this
    exact ⟨p.1, e.symm, hw p hp⟩
  have hrd : ∀ x ∈ es.toList, ∀ k, x.key = .int .i64 k → wfI k → rd Try.prog 3 anyElem x = some (.int .i64 k, .lit (.bool true)) := by
    intro x _ k e hwk
    unfold Go.WideElems.rd; rw [e, keyOf_int_mk Try.underlying3 hwk]; rfl
  have hrg : es.toList.map (rg Try.prog 3 anyElem) = l.map (fun p => (Lit.int .i64 p.1, (DataW.lit (.bool true) : DataW Unit))) := by
    have h1 : es.toList.map (rg Try.prog 3 anyElem) = (es.toList.map (·.key)).map (fun v => match v with | .int _ k => (Lit.int .i64 k, (DataW.lit (.bool true) : DataW Unit)) | _ => (.bool false, .nil)) := by
      rw [List.map_map]; apply List.map_congr_left; intro x hx
      obtain ⟨k, e, hwk⟩ := hk x hx
      simp only [Function.comp, rg, hrd x hx k e hwk, Option.getD_some, e]
    rw [h1, hkn, List.map_map]; rfl
  have hperm : (List.foldr DataW.insert [] (es.toList.map (rg Try.prog 3 anyElem))).Perm (es.toList.map (rg Try.prog 3 anyElem)) := Go.WideShapes.sorted_perm _
  refine ⟨_, ⟨es, c, hb, ⟨by unfold maxLen; omega, ⟨he.late, he.born.imp (fun h => Nat.ne_of_lt h), ?_⟩, ?_⟩, by omega, rfl⟩, ?_, ?_⟩
  · rw [hkn, show l.map (fun p => Value.int .i64 p.1) = (l.map (·.1)).map (Value.int .i64) from by simp [List.map_map]]
    exact nodup_map_inj _ (fun a b h => by cases h; rfl) he.keys
  · intro x hx; obtain ⟨k, e, hwk⟩ := hk x hx; exact ⟨_, hrd x hx k e hwk⟩
  · show (List.map (fun p : Lit × DataW Unit => Go.intOf p.1) _).Perm _
    refine (hperm.map _).trans ?_
    rw [hrg, List.map_map]
    exact List.Perm.refl _
  · show List.length _ = _
    rw [hperm.length_eq, List.length_map]; simpa using hlen
/-- slices.Sort's two contracts, at the fence that asks nothing -/
theorem sortsA (m : Nat) : AnyZI.SortsIn Try.prog Try.sortedA_ren Fence.wide m :=
  ⟨fun blk off cap ss W hH hblk hsz => callsIn_wide.2 (AnyM.slices_Sort_int Try.sortA blk off cap ss W hH hblk hsz),
   fun p cap W => callsIn_wide.2 (AnyM.slices_Sort_int_none Try.sortA p cap W)⟩
theorem seq_mono {α : Type} {F : Fence} {n : Nat} {P : Program} {g : Nat} {lb : Array Value} {enc : α → Value} {S S' : List α → Prop} {N N' : Nat} {w : World} (h : SeqGives F n P g lb enc S N w) (hS : ∀ xs, S xs → S' xs) (hN : N ≤ N') : SeqGives F n P g lb enc S' N' w :=
  fun l J W hW hJ hY h0 => (h l J W hW hJ (fun pre x W1 a b => hY pre x W1 a (by omega)) h0).mono fun _ _ ⟨a, xs, b, c⟩ => ⟨a, xs, hS xs b, c⟩
theorem sortI_perm_self (l : List Int) : (sortI l).Perm l := by unfold sortI; exact List.mergeSort_perm _ _
theorem sortI_sorted (l : List Int) : (sortI l).Pairwise (fun x y => x ≤ y) := by
  have := List.pairwise_mergeSort (le := fun x y : Int => decide (x ≤ y)) (by simp; omega) (by simp; omega) l
  unfold sortI
  exact this.imp (fun h => by simpa using h)
theorem owns_lower {W : World} {base base' e size n : Nat} {v : Value} {xs : List Value} (h : W.ownsRow base e size v n xs) (hb : base' ≤ base) : W.ownsRow base' e size v n xs :=
  ⟨h.1, h.2.imp id fun ⟨g, cap, cur, a, b, r⟩ => ⟨g, cap, cur, a, Nat.le_trans hb b, r⟩⟩
def Dev.unsynced (d : Dev) : List Int := ((List.range d.size.toNat).filter fun (i : Nat) => d.chg i).map fun (i : Nat) => (i : Int)
theorem aget_mem {α : Type} {l : List (Int × α)} {k : Int} {x : α} (h : aget l k = some x) : (k, x) ∈ l := by
  unfold aget at h
  obtain ⟨q, hq, e⟩ := Option.map_eq_some_iff.1 h
  have h1 := List.mem_of_find?_eq_some hq
  have h2 := List.find?_some hq
  obtain ⟨a, b⟩ := q
  simp at h2 e; subst h2; subst e; exact h1
theorem aget_some_iff {α : Type} (l : List (Int × α)) (k : Int) : (aget l k).isSome = true ↔ k ∈ l.map (·.1) := by
  constructor
  · intro h
    obtain ⟨v, hv⟩ := Option.isSome_iff_exists.1 h
    exact List.mem_map.2 ⟨_, aget_mem hv, rfl⟩
  · intro h
    obtain ⟨p, hp, rfl⟩ := List.mem_map.1 h
    unfold aget
    cases hf : l.find? (fun q => q.1 == p.1) with
    | none => rw [List.find?_eq_none] at hf; exact absurd (by simp) (hf p hp)
    | some q => rfl
theorem imap_nodup {α : Type} {w : World} {r : Nat} {f : α → Value} {l : List (Int × α)} (h : IMap w r (enc f l)) : (l.map (·.1)).Nodup := by
  obtain ⟨es, c, _, he⟩ := h
  have := he.keys
  unfold enc at this
  rw [List.map_map] at this
  exact this
theorem keys_unsynced {w : World} {mc : Nat} {d : Dev} {n : Nat} (hd : d.Ok n) {l : List (Int × Int)} (hm : IMap w mc (enc (fun n => .int .i64 n) l)) (hc : ∀ k, (aget l k).isSome = d.chg k) : sortI (l.map (·.1)) = d.unsynced := by
  have nd := imap_nodup hm
  have hmem : ∀ k, k ∈ l.map (·.1) ↔ d.chg k = true := fun k => by rw [← hc, aget_some_iff]
  have hu : d.unsynced.Pairwise (fun x y => x < y) := by
    unfold Dev.unsynced
    rw [List.pairwise_map]
    exact (List.pairwise_lt_range.filter _).imp (fun h => by omega)
  have ndu : d.unsynced.Nodup := hu.imp (fun h => by omega)
  have hp : (sortI (l.map (·.1))).Perm d.unsynced := by
    refine (sortI_perm_self _).trans ?_
    refine (List.perm_ext_iff_of_nodup nd ndu).2 fun k => ?_
    rw [hmem]
    unfold Dev.unsynced
    simp only [List.mem_map, List.mem_filter, List.mem_range]
    constructor
    · intro h
      have := hd.rng k h
      exact ⟨k.toNat, ⟨by omega, by rw [Int.toNat_of_nonneg this.1]; exact h⟩, Int.toNat_of_nonneg this.1⟩
    · rintro ⟨i, ⟨_, h⟩, rfl⟩; exact h
  exact hp.eq_of_pairwise (fun x y _ _ h1 h2 => by omega) (sortI_sorted _) (hu.imp (fun h => by omega))
theorem chg_len {w : World} {mc : Nat} {d : Dev} {n : Nat} (hd : d.Ok n) {l : List (Int × Int)} (hm : IMap w mc (enc (fun n => .int .i64 n) l)) (hc : ∀ k, (aget l k).isSome = d.chg k) : l.length ≤ 4096 := by
  have h := (keys_unsynced hd hm hc)
  have h1 : (sortI (l.map (·.1))).length = l.length := by rw [(sortI_perm_self _).length_eq, List.length_map]
  rw [h] at h1
  have h2 : d.unsynced.length ≤ d.size.toNat := by
    unfold Dev.unsynced
    rw [List.length_map]
    exact Nat.le_trans (List.length_filter_le _ _) (by simp)
  have := hd.z2; omega
set_option maxRecDepth 100000 in
set_option maxHeartbeats 2000000 in
theorem unsynced_any (w : World) (p mn ms mc : Nat) (d : Dev) (n : Nat) (h : DevAt w p mn ms mc d) (hd : d.Ok n) :
    Calls Try.prog 34 #[.pointer (some ⟨p, 0, none⟩)] w fun e w' => ∃ v, e = .returned v ∧ w'.ownsRow w.heap.size 3 1 v d.unsynced.length (d.unsynced.map (Value.int .i64)) ∧ Below w.heap.size w w' := by
  refine (callsIn_wide (n := 6)).1 ?_
  have c8 := h.cells.c8
  obtain ⟨l, hl, hc⟩ := h.chg
  have hln := chg_len hd hl hc
  have hks := keys_unsynced hd hl hc
  have hwf : ∀ q ∈ l, wfI q.1 := fun q hq => by
    have hq' : d.chg q.1 = true := by rw [← hc, aget_some_iff]; exact List.mem_map.2 ⟨q, hq, rfl⟩
    have := hd.rng _ hq'; have := hd.z2
    show (Lit.int .i64 q.1).wf = true
    simp [Lit.wf, IntKind.min, IntKind.max, IntKind.signed, IntKind.bits]; omega
  have hseq : SeqGives Fence.wide 2 Try.prog 98 #[.pointer (some ⟨w.heap.size, 0, none⟩)] encZ (fun ss => ss.Perm (l.map (·.1))) l.length (w.alloc (.cells #[.map (some mc)] 91)) := by
    have hc : (w.alloc (.cells #[.map (some mc)] 91)).cell? ⟨w.heap.size, 0, none⟩ = some (.map (some mc)) := cell_in (heap_alloc_new w _) rfl
    obtain ⟨D, hD, hD2, hD3⟩ := own_im hl (fun q hq => by obtain ⟨y, hy, rfl⟩ := List.mem_map.1 hq; exact hwf y hy) (by simp [enc]; omega)
    have hbl := hD.lt
    have hD' : (w.alloc (.cells #[.map (some mc)] 91)).ownsMap Try.prog 3 anyElem mc (enc (fun m : Int => Value.int .i64 m) l).length D := by
      obtain ⟨es, clock, hb, Ft, hs, hD⟩ := hD
      exact ⟨es, clock, (Below.heap_alloc _ _ _ hbl).trans hb, Ft, hs, hD⟩
    have hk := AnyZI.keys_gives (ρ := Try.keysA_ren) { Try.keysA with } Fence.wide 2 trivial rfl (by omega) w.heap.size mc _ D _ (by simp) hc hD'
    refine seq_mono hk (fun ss hs => hs.trans ?_) ?_
    · refine hD2.trans ?_
      unfold enc; simp [List.map_map, Function.comp_def]
    · rw [hD3]; simp [enc]
  have cK : ∀ mb W, CallsIn Fence.wide 5 Try.prog 69 #[.map mb] W fun e w' => e = .returned (.func (.func 98) #[] #[.pointer (some ⟨W.heap.size, 0, none⟩)]) ∧ w' = W.alloc (.cells #[.map mb] 91) := fun mb W => AnyZI.keys_in Try.keysA Fence.wide 5 trivial rfl mb W
  have cS := AnyZI.sorted_in Try.sortedA Fence.wide 5 trivial trivial trivial trivial rfl (by omega) (sortsA _) (enters_of Try.func97 (by kernel_rfl) rfl) 98 #[.pointer (some ⟨w.heap.size, 0, none⟩)] trivial (enters_of Try.func98 (by kernel_rfl) rfl) _ _ (by unfold maxLen; omega) (by omega) _ hseq
  change CallsIn _ _ Try.prog 68 _ _ _ at cS
  have hfK : Fence.wide.fn 69 := trivial
  have hfS : Fence.wide.fn 68 := trivial
  clear h hl hc hwf hd
  refine callsIn_of_wp Try.func34 rfl trivial ?_ rfl
  simp only [Try.ntmps34, List.size_toArray, List.length_cons, List.length_nil, Nat.reduceAdd, Nat.reduceSub, Array.replicate_succ, Array.replicate_zero, List.push_toArray, List.append_toArray, List.nil_append, List.cons_append]
  gi_wp2_with (first
    | (gi_at_call 69; refine (cK _ _).mono ?_; rintro e w' ⟨rfl, rfl⟩)
    | (gi_at_call 68; refine cS.mono ?_; rintro e w' ⟨v, ss, rfl, hS, hrow, hnil, hb⟩))
  go_ret
  refine ⟨v, rfl, ?_, ((Below.refl _ w).alloc (Nat.le_refl _) _).trans (hb.mono (by simp))⟩
  have e1 : sortI ss = d.unsynced := (sortI_perm hS).trans hks
  rw [← e1, show (sortI ss).length = ss.length from by rw [(sortI_perm_self ss).length_eq]]
  exact owns_lower hrow (by simp)
end Go.Proofs.Ytbaphjnglkocpaa
