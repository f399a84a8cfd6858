import Derived.Test.YtnficiohnhodiaaLockN
namespace Go.Proofs.Ytnficiohnhodiaa
open Go.RowKit
open Go.ChangeMaps (setBlock)
abbrev Pg := Int × (Nat × List (Int × Int))
def modeIn (hs : List (Int × Int)) (txn : Int) : Int := (aget hs txn).getD 0
def proc (txn : Int) (x : Pg) : Option Pg := if modeIn x.2.2 txn = 0 then some x else if adel x.2.2 txn = [] then none else some (x.1, (x.2.1, adel x.2.2 txn))
def curP (txn : Int) (D : List Int) (l : List Pg) : List Pg := l.filterMap fun x => if x.1 ∈ D then proc txn x else some x
def todoP (D : List Int) (l : List Pg) : List Pg := l.filter fun x => !decide (x.1 ∈ D)
def cntP (txn : Int) (D : List Int) (l : List Pg) : Nat := (l.filter fun x => decide (x.1 ∈ D) && !(modeIn x.2.2 txn == 0)).length
def LT.locksOf (t : LT) (txn : Int) : Nat := (t.pages.filter fun x => !(modeIn x.2.2 txn == 0)).length
def LT.release (t : LT) (txn : Int) : LT := { pages := t.pages.filterMap (proc txn), waits := adel t.waits txn, count := t.count - t.locksOf txn }
theorem fm_congr {α β : Type} {f g : α → Option β} {l : List α} (h : ∀ x ∈ l, f x = g x) : l.filterMap f = l.filterMap g := by
  induction l with
  | nil => rfl
  | cons a l ih => rw [List.filterMap_cons, List.filterMap_cons, h a (by simp), ih (fun x hx => h x (by simp [hx]))]
theorem proc_key {txn : Int} {x y : Pg} (h : proc txn x = some y) : y.1 = x.1 ∧ y.2.1 = x.2.1 := by
  unfold proc at h
  split at h
  · cases h; exact ⟨rfl, rfl⟩
  · split at h
    · cases h
    · cases h; exact ⟨rfl, rfl⟩
theorem curP_key {txn : Int} {D : List Int} {x y : Pg} (h : (if x.1 ∈ D then proc txn x else some x) = some y) : y.1 = x.1 ∧ y.2.1 = x.2.1 := by
  split at h
  · exact proc_key h
  · cases h; exact ⟨rfl, rfl⟩
theorem curP_nil (txn : Int) (l : List Pg) : curP txn [] l = l := by unfold curP; simp
theorem todoP_nil (l : List Pg) : todoP [] l = l := by unfold todoP; simp
theorem cntP_nil (txn : Int) (l : List Pg) : cntP txn [] l = 0 := by unfold cntP; simp
theorem curP_end {txn : Int} {D : List Int} {l : List Pg} (h : todoP D l = []) : curP txn D l = l.filterMap (proc txn) ∧ cntP txn D l = (l.filter fun x => !(modeIn x.2.2 txn == 0)).length := by
  have : ∀ x ∈ l, x.1 ∈ D := by
    intro x hx
    unfold todoP at h
    rw [List.filter_eq_nil_iff] at h
    simpa using h x hx
  constructor
  · unfold curP
    apply fm_congr; intro x hx; rw [if_pos (this x hx)]
  · unfold cntP; congr 1; apply List.filter_congr; intro x hx; simp [this x hx]
theorem curP_mem {txn : Int} {D : List Int} {l : List Pg} {x : Pg} (hx : x ∈ l) (hD : x.1 ∉ D) : x ∈ curP txn D l := by
  unfold curP; rw [List.mem_filterMap]; exact ⟨x, hx, by rw [if_neg hD]⟩
theorem curP_keys (txn : Int) (D : List Int) (l : List Pg) (hn : (l.map (·.1)).Nodup) : ((curP txn D l).map (·.1)).Nodup := by
  have : ((curP txn D l).map (·.1)).Sublist (l.map (·.1)) := by
    unfold curP
    induction l with
    | nil => simp
    | cons a l ih =>
      rw [List.map_cons, List.nodup_cons] at hn
      rw [List.filterMap_cons]
      split
      · exact (ih hn.2).cons _
      · rename_i y hy
        rw [List.map_cons, List.map_cons, (curP_key hy).1]
        exact (ih hn.2).cons_cons _
  exact hn.sublist this
theorem todoP_step {D : List Int} {l : List Pg} {k : Int} : todoP (k :: D) l = adel (todoP D l) k := by
  unfold todoP adel
  rw [List.filter_filter]
  apply List.filter_congr; intro x _
  by_cases h1 : x.1 = k <;> by_cases h2 : x.1 ∈ D <;> simp [h1, h2]
theorem congr_cur {txn : Int} {D : List Int} {l : List Pg} {x : Pg} (hx : x ∈ l) (hn : (l.map (·.1)).Nodup) (h : proc txn x = some x) (hD : x.1 ∉ D) : curP txn (x.1 :: D) l = curP txn D l := by
  unfold curP
  apply fm_congr; intro y hy
  by_cases e : y.1 = x.1
  · have : y = x := nodup_inj hn hy hx e
    subst this
    rw [if_pos (by simp), if_neg hD, h]
  · have : y.1 ∈ x.1 :: D ↔ y.1 ∈ D := by simp [e]
    by_cases h2 : y.1 ∈ D
    · rw [if_pos (this.2 h2), if_pos h2]
    · rw [if_neg (fun h => h2 (this.1 h)), if_neg h2]
theorem cur_put {txn : Int} {D : List Int} {l : List Pg} {x y : Pg} (hx : x ∈ l) (hn : (l.map (·.1)).Nodup) (h : proc txn x = some y) (hD : x.1 ∉ D) : curP txn (x.1 :: D) l = aput (curP txn D l) x.1 y.2 := by
  have hk := (proc_key h).1
  rw [aput_old _ (List.mem_map.2 ⟨x, curP_mem hx hD, rfl⟩)]
  unfold curP
  rw [List.map_filterMap]
  apply fm_congr; intro z hz
  by_cases e : z.1 = x.1
  · have : z = x := nodup_inj hn hz hx e
    subst this
    rw [if_pos (by simp), if_neg hD, h]
    simp [← hk]
  · have : z.1 ∈ x.1 :: D ↔ z.1 ∈ D := by simp [e]
    by_cases h2 : z.1 ∈ D
    · rw [if_pos (this.2 h2), if_pos h2]
      cases hp : proc txn z with
      | none => rfl
      | some u =>
        have := (proc_key hp).1
        simp [this, e]
    · rw [if_neg (fun h => h2 (this.1 h)), if_neg h2]
      simp [e]
theorem cur_del {txn : Int} {D : List Int} {l : List Pg} {x : Pg} (hx : x ∈ l) (hn : (l.map (·.1)).Nodup) (h : proc txn x = none) (hD : x.1 ∉ D) : curP txn (x.1 :: D) l = adel (curP txn D l) x.1 := by
  unfold curP adel
  rw [List.filter_filterMap]
  apply fm_congr; intro z hz
  by_cases e : z.1 = x.1
  · have : z = x := nodup_inj hn hz hx e
    subst this
    rw [if_pos (by simp), if_neg hD, h]
    simp [Option.filter]
  · have : z.1 ∈ x.1 :: D ↔ z.1 ∈ D := by simp [e]
    by_cases h2 : z.1 ∈ D
    · rw [if_pos (this.2 h2), if_pos h2]
      cases hp : proc txn z with
      | none => rfl
      | some u =>
        have := (proc_key hp).1
        simp [Option.filter, this, e]
    · rw [if_neg (fun h => h2 (this.1 h)), if_neg h2]
      simp [Option.filter, e]
theorem cnt_step {txn : Int} {D : List Int} {l : List Pg} {x : Pg} (hx : x ∈ l) (hn : (l.map (·.1)).Nodup) (hD : x.1 ∉ D) : cntP txn (x.1 :: D) l = cntP txn D l + (if modeIn x.2.2 txn = 0 then 0 else 1) := by
  unfold cntP
  induction l with
  | nil => cases hx
  | cons a l ih =>
    rw [List.map_cons, List.nodup_cons] at hn
    rcases List.mem_cons.1 hx with rfl | hx
    · have hrest : l.filter (fun y => decide (y.1 ∈ x.1 :: D) && !(modeIn y.2.2 txn == 0)) = l.filter (fun y => decide (y.1 ∈ D) && !(modeIn y.2.2 txn == 0)) := by
        apply List.filter_congr; intro y hy
        have : y.1 ≠ x.1 := fun e => hn.1 (e ▸ List.mem_map.2 ⟨y, hy, rfl⟩)
        simp [this]
      rw [List.filter_cons, List.filter_cons, hrest]
      by_cases h : modeIn x.2.2 txn = 0 <;> simp [h, hD]
    · have hne : a.1 ≠ x.1 := fun e => hn.1 (e ▸ List.mem_map.2 ⟨x, hx, rfl⟩)
      have := ih hx hn.2
      rw [List.filter_cons, List.filter_cons]
      have e : (decide (a.1 ∈ x.1 :: D) && !(modeIn a.2.2 txn == 0)) = (decide (a.1 ∈ D) && !(modeIn a.2.2 txn == 0)) := by simp [hne]
      rw [e]
      split
      · rw [List.length_cons, List.length_cons, this]; omega
      · exact this
theorem LTAt.delPage {w w' : World} {p mp mw : Nat} {t : LT} (h : LTAt w p mp mw t) {page : Int} (hm : IMap w' mp ((enc (fun x : Nat × List (Int × Int) => .map (some x.1)) t.pages).del page)) (hk : Keeps (· = mp) w w') : LTAt w' p mp mw { t with pages := adel t.pages page } := by
  obtain ⟨n1, n2, n3, n4, n5⟩ := h.ne
  rw [enc_del] at hm
  refine ⟨hk.at h.self n1, hm, h.waits.keeps hk (Ne.symm n3), fun x hx => (h.inner x (List.mem_filter.1 hx).1).keeps hk (n4 x (List.mem_filter.1 hx).1).2.1, ?_⟩
  have hs : (LT.fp { t with pages := adel t.pages page }).Sublist t.fp := List.filter_sublist.map _
  exact h.apart.sublist (((hs.cons_cons _).cons_cons _).cons_cons _)
theorem foot_cur {p mp mw : Nat} {t t' : LT} {txn : Int} {D : List Int} (h : t'.pages = curP txn D t.pages) (k : Nat) (hk : LTFoot p mp mw t' k) : LTFoot p mp mw t k := by
  unfold LTFoot LT.fp at hk ⊢
  rw [h] at hk
  simp only [List.mem_cons, List.mem_map] at hk ⊢
  rcases hk with rfl | rfl | rfl | ⟨x, hx, rfl⟩
  · simp
  · simp
  · simp
  · unfold curP at hx; rw [List.mem_filterMap] at hx
    obtain ⟨y, hy, e⟩ := hx
    exact .inr (.inr (.inr ⟨y, hy, (curP_key e).2.symm⟩))
theorem look_in {w : World} {m : Nat} {hs : List (Int × Int)} (h : IMap w m (enc (fun m => .int .i64 m) hs)) (txn : Int) : (Instr.lookup 79 (.map (some m)) (.int .i64 txn) false).run Try.prog w = .ok (.int .i64 (modeIn hs txn)) w := by
  have := run_lookup_im (P := Try.prog) Try.underlying79 Try.underlying3 h (.int .i64 0) (zint w) txn false
  rw [enc_get] at this
  rw [this]
  unfold modeIn
  simp only [Bool.false_eq_true, if_false]
  cases aget hs txn <;> rfl
def encP (l : List Pg) : IM := enc (fun x : Nat × List (Int × Int) => .map (some x.1)) l
theorem encP_aput {l : List Pg} {k : Int} {m : Nat} {hs hs' : List (Int × Int)} (hn : (l.map (·.1)).Nodup) (h : aget l k = some (m, hs)) : encP (aput l k (m, hs')) = encP l := by
  unfold encP enc
  rw [aput_old _ (mem_of_aget h), List.map_map]
  apply List.map_congr_left; intro x hx
  by_cases e : x.1 = k
  · have : x = (k, (m, hs)) := nodup_inj hn hx (aget_mem h) e
    rw [this]; simp
  · simp [e]
theorem adel_aput {α : Type} (l : List (Int × α)) (k : Int) (v : α) : adel (aput l k v) k = adel l k := by
  by_cases hk : k ∈ l.map (·.1)
  · rw [aput_old v hk]
    unfold adel
    clear hk
    induction l with
    | nil => rfl
    | cons q l ih =>
      rw [List.map_cons]
      by_cases e : q.1 = k
      · rw [if_pos e, List.filter_cons_of_neg (by simp), List.filter_cons_of_neg (by simp [e]), ih]
      · rw [if_neg e, List.filter_cons_of_pos (by simp [e]), List.filter_cons_of_pos (by simp [e]), ih]
  · rw [aput_new v hk]
    unfold adel
    rw [List.filter_append]; simp
end Go.Proofs.Ytnficiohnhodiaa
