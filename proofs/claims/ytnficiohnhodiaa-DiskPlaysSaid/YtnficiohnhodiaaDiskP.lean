import Derived.Test.YtnficiohnhodiaaDiskK
import Derived.Deep.Slices
import Derived.Deep.Fields
import Derived.ChangeSame
/-
  An argument that is a slice of calls (three ints, bytes, ints): what its cells hold, but for what the inner slices hold; long.
-/
namespace Go.Proofs.Ytnficiohnhodiaa
open Go.RowKit Go.ChangeShapes Go.WideShapes Go.Deep
structure OpD where
  kind : Int
  at_ : Int
  n : Int
  bq : Option Addr
  bl : Nat
  bc : Nat
  kq : Option Addr
  kl : Nat
  kc : Nat
def OpD.vals (o : OpD) : List Value := [.int .i64 o.kind, .int .i64 o.at_, .int .i64 o.n, .slice o.bq o.bl o.bc, .slice o.kq o.kl o.kc]
def OpD.wf (o : OpD) : Prop := o.bl ≤ o.bc ∧ o.bc ≤ maxLen ∧ o.kl ≤ o.kc ∧ o.kc ≤ maxLen
def IsOps (w : World) (a : Option Addr) (len cap : Nat) (zs : List OpD) : Prop :=
  (a = none ∧ len = 0 ∧ cap = 0 ∧ zs = []) ∨
  ∃ x, a = some x ∧ zs.length = len ∧ len ≤ cap ∧ cap ≤ maxLen ∧ (∀ i o, zs[i]? = some o → ∀ j v, o.vals[j]? = some v → w.cell? (x.add (i * 5 + j)) = some v) ∧ ∀ o ∈ zs, o.wf
section
variable {H : Type} {enc : TypeId × Value → H} {P : Program} {w : World} {base : Nat} {spare : Nat → Bool} {held : Bool}
theorem open_slice_fields {t e : TypeId} {fs : Array Field} {fuel : Nat} {cs : List Value} {x : DataW H × List MemPlace} (ht : P.underlying t = some (.slice e)) (he : P.underlying e = some (.struct fs))
    (hone : oneCellFields P fs = true) (hC : P.cellsOf e = fs.size) (h : DataW.trod enc P w base spare held fuel t cs = some x) :
    (cs = [.slice none 0 0] ∧ x = (.nil, [])) ∨
    ∃ (a : Addr) (len cap m : Nat) (D : Nat → DataW H) (Pl : Nat → List MemPlace), cs = [.slice (some a) len cap] ∧ base ≤ a.block ∧ len ≤ cap ∧ cap ≤ maxLen ∧ m = (if spare a.block then cap else len) ∧
      x = (.slice ((List.range len).map D) ((List.range (m - len)).map fun j => D (len + j)), MemPlace.row a (m * fs.size) ++ (List.range m).flatMap Pl) ∧
      ∀ i, i < m → ∃ (ys : List (DataW H × List MemPlace)) (n : Nat), D i = .agg (ys.map (·.1)) ∧ Pl i = ys.flatMap (·.2) ∧ ys.length = fs.size ∧
        ∀ (j : Nat) (f : Field), fs[j]? = some f → ∃ (v : Value) (y : DataW H × List MemPlace), w.cell? (a.add (i * fs.size + j)) = some v ∧ ys[j]? = some y ∧ DataW.trod enc P w base spare held n f.type [v] = some y := by
  rcases open_slice ht h with h0 | ⟨a, len, cap, m, n, D, Pl, hcs, hb, hl, hm, hmm, hx, hi⟩
  · exact .inl h0
  · refine .inr ⟨a, len, cap, m, D, Pl, hcs, hb, hl, hm, hmm, by rw [hC] at hx; exact hx, fun i him => ?_⟩
    obtain ⟨cs', hc, ht'⟩ := hi i him
    rw [hC] at hc
    obtain ⟨ys, n', hn', hy, hlen, hyl, hf⟩ := DataW.trod_struct he ht'
    obtain ⟨_, hcl, hat⟩ := World.cells?_some hc
    simp only [Prod.mk.injEq] at hy
    refine ⟨ys, n', hy.1, hy.2, hyl, fun j f hj => ?_⟩
    obtain ⟨ho, hk⟩ := hone_of hone j f hj
    have hjl : j < fs.size := (Array.getElem?_eq_some_iff.1 hj).1
    have hcell := hat j hjl
    have hv : cs'[j]? = some (cs'[j]'(by omega)) := List.getElem?_eq_getElem (by omega)
    have h1 := hf j f hj
    rw [ho, hk] at h1
    have hone' : (cs'.drop j).take 1 = [cs'[j]'(by omega)] := by
      rw [List.drop_eq_getElem_cons (by omega)]
      rfl
    rw [hone'] at h1
    have hys : ys[j]? = some (ys[j]'(by omega)) := List.getElem?_eq_getElem (by omega)
    refine ⟨_, _, ?_, hys, h1.trans hys⟩
    rw [← Go.Deep.add_add, hcell, hv]
theorem int_cell {t : TypeId} {k : IntKind} {n : Nat} {v : Value} {y : DataW H × List MemPlace} (ht : P.underlying t = some (.int k)) (h : DataW.trod enc P w base spare held n t [v] = some y) : ∃ z, v = .int k z := by
  obtain ⟨a, e, _, wa⟩ := DataW.trod_int ht h
  exact ⟨a, by simpa using e⟩
theorem slice_cell {t e : TypeId} {n : Nat} {v : Value} {y : DataW H × List MemPlace} (ht : P.underlying t = some (.slice e)) (h : DataW.trod enc P w base spare held n t [v] = some y) : ∃ q l c, v = .slice q l c ∧ l ≤ c ∧ c ≤ maxLen := by
  rcases open_slice ht h with ⟨hcs, _⟩ | ⟨a, len, cap, m, n, D, Pl, hcs, hb, hl, hm, _⟩
  · exact ⟨none, 0, 0, by simpa using hcs, Nat.le_refl _, Nat.zero_le _⟩
  · exact ⟨some a, len, cap, by simpa using hcs, hl, hm⟩
theorem five_parts {fs : Array Field} {i : Nat} {a : Addr} (hs : fs.size = 5) (hk : ∀ (j : Nat) (f : Field), fs[j]? = some f → if j < 3 then P.underlying f.type = some (.int .i64) else ∃ e, P.underlying f.type = some (.slice e)) {ys : List (DataW H × List MemPlace)} {n : Nat}
    (h : ∀ (j : Nat) (f : Field), fs[j]? = some f → ∃ (v : Value) (y : DataW H × List MemPlace), w.cell? (a.add (i * fs.size + j)) = some v ∧ ys[j]? = some y ∧ DataW.trod enc P w base spare held n f.type [v] = some y) :
    ∃ o : OpD, o.wf ∧ ∀ j v, o.vals[j]? = some v → w.cell? (a.add (i * 5 + j)) = some v := by
  have hj : ∀ j, j < 3 → ∃ z, w.cell? (a.add (i * 5 + j)) = some (.int .i64 z) := by
    intro j hj
    have hf : fs[j]? = some (fs[j]'(by omega)) := Array.getElem?_eq_getElem (by omega)
    obtain ⟨v, y, h1, _, h3⟩ := h j _ hf
    have hk := hk j _ hf
    rw [if_pos hj] at hk
    obtain ⟨z, rfl⟩ := int_cell hk h3
    rw [hs] at h1
    exact ⟨z, h1⟩
  have hs3 : ∀ j, 3 ≤ j → j < 5 → ∃ q l c, w.cell? (a.add (i * 5 + j)) = some (.slice q l c) ∧ l ≤ c ∧ c ≤ maxLen := by
    intro j hj hj5
    have hf : fs[j]? = some (fs[j]'(by omega)) := Array.getElem?_eq_getElem (by omega)
    obtain ⟨v, y, h1, _, h3⟩ := h j _ hf
    have hk := hk j _ hf
    rw [if_neg (by omega)] at hk
    obtain ⟨e, he⟩ := hk
    obtain ⟨q, l, c, rfl, h4, h5⟩ := slice_cell he h3
    rw [hs] at h1
    exact ⟨q, l, c, h1, h4, h5⟩
  obtain ⟨z0, a0⟩ := hj 0 (by omega)
  obtain ⟨z1, a1⟩ := hj 1 (by omega)
  obtain ⟨z2, a2⟩ := hj 2 (by omega)
  obtain ⟨q3, l3, c3, a3, b3, d3⟩ := hs3 3 (by omega) (by omega)
  obtain ⟨q4, l4, c4, a4, b4, d4⟩ := hs3 4 (by omega) (by omega)
  refine ⟨⟨z0, z1, z2, q3, l3, c3, q4, l4, c4⟩, ⟨b3, d3, b4, d4⟩, fun j v hv => ?_⟩
  match j, hv with
  | 0, hv => cases hv; exact a0
  | 1, hv => cases hv; exact a1
  | 2, hv => cases hv; exact a2
  | 3, hv => cases hv; exact a3
  | 4, hv => cases hv; exact a4
  | j + 5, hv => simp [OpD.vals] at hv
theorem choose_list {α : Type} (n : Nat) (R : Nat → α → Prop) (h : ∀ i, i < n → ∃ x, R i x) : ∃ zs : List α, zs.length = n ∧ ∀ i x, zs[i]? = some x → R i x := by
  induction n with
  | zero => exact ⟨[], rfl, fun i x hx => by simp at hx⟩
  | succ n ih =>
    obtain ⟨zs, hl, hz⟩ := ih (fun i hi => h i (by omega))
    obtain ⟨x, hx⟩ := h n (by omega)
    refine ⟨zs ++ [x], by simp [hl], fun i y hy => ?_⟩
    by_cases hi : i < zs.length
    · rw [List.getElem?_append_left hi] at hy; exact hz i y hy
    · have hi2 := (List.getElem?_eq_some_iff.1 hy).1
      simp at hi2
      have : i = n := by omega
      subst this
      rw [List.getElem?_append_right (by omega), hl] at hy; simp at hy; subst hy; exact hx
theorem ops_of {t e : TypeId} {fs : Array Field} {fuel : Nat} {a : Option Addr} {len cap : Nat} {x : DataW H × List MemPlace} (ht : P.underlying t = some (.slice e)) (he : P.underlying e = some (.struct fs))
    (hone : oneCellFields P fs = true) (hC : P.cellsOf e = fs.size) (hs : fs.size = 5) (hk : ∀ (j : Nat) (f : Field), fs[j]? = some f → if j < 3 then P.underlying f.type = some (.int .i64) else ∃ e, P.underlying f.type = some (.slice e))
    (h : DataW.trod enc P w base spare held fuel t [.slice a len cap] = some x) : ∃ zs, IsOps w a len cap zs := by
  rcases open_slice_fields ht he hone hC h with ⟨hcs, _⟩ | ⟨x, l, c, m, D, Pl, hcs, _, hl, hc, hm, _, hi⟩
  · simp at hcs; obtain ⟨rfl, rfl, rfl⟩ := hcs
    exact ⟨[], .inl ⟨rfl, rfl, rfl, rfl⟩⟩
  · simp at hcs; obtain ⟨rfl, rfl, rfl⟩ := hcs
    have hlm : len ≤ m := by rw [hm]; split <;> omega
    obtain ⟨zs, hz, hr⟩ := choose_list len (fun i (o : OpD) => o.wf ∧ ∀ j v, o.vals[j]? = some v → w.cell? (x.add (i * 5 + j)) = some v) (fun i hi' => by
      obtain ⟨ys, n, _, _, _, hp⟩ := hi i (by omega)
      exact five_parts hs hk hp)
    refine ⟨zs, .inr ⟨x, rfl, hz, hl, hc, fun i o ho => (hr i o ho).2, fun o ho => ?_⟩⟩
    obtain ⟨i, hi2, e⟩ := List.getElem_of_mem ho
    exact (hr i o (by rw [List.getElem?_eq_getElem hi2, e])).1
end
theorem ops_of_trod {H : Type} {enc : TypeId × Value → H} {w : World} {base : Nat} {spare : Nat → Bool} {held : Bool} {fuel : Nat} {a : Option Addr} {len cap : Nat} {x : DataW H × List MemPlace}
    (h : DataW.trod enc Try.prog w base spare held fuel 44 [.slice a len cap] = some x) : ∃ zs, IsOps w a len cap zs :=
  ops_of Try.underlying44 Try.underlying54 (by kernel_rfl) (by kernel_rfl) rfl (fun j f hj => by
    match j, hj with
    | 0, hj => cases hj; exact Try.underlying3
    | 1, hj => cases hj; exact Try.underlying3
    | 2, hj => cases hj; exact Try.underlying3
    | 3, hj => cases hj; exact ⟨_, Try.underlying52⟩
    | 4, hj => cases hj; exact ⟨_, Try.underlying41⟩
    | j + 5, hj => simp at hj) h
theorem ops_at {w w' : World} {x : Addr} {len cap : Nat} {zs : List OpD} (h : IsOps w (some x) len cap zs) (hb : Below w.heap.size w w') (k : Nat) (o : OpD) (ho : zs[k]? = some o) :
    w'.cell? (x.add (k * 5)) = some (.int .i64 o.kind) ∧ w'.cell? ⟨(x.add (k * 5)).block, (x.add (k * 5)).off + 1, none⟩ = some (.int .i64 o.at_) ∧ w'.cell? ⟨(x.add (k * 5)).block, (x.add (k * 5)).off + 2, none⟩ = some (.int .i64 o.n) ∧
      w'.cell? ⟨(x.add (k * 5)).block, (x.add (k * 5)).off + 3, none⟩ = some (.slice o.bq o.bl o.bc) ∧ w'.cell? ⟨(x.add (k * 5)).block, (x.add (k * 5)).off + 4, none⟩ = some (.slice o.kq o.kl o.kc) := by
  rcases h with ⟨h, _⟩ | ⟨y, e, _, _, _, hc, _⟩
  · cases h
  · cases e
    have hh : ∀ j v, o.vals[j]? = some v → w'.cell? (x.add (k * 5 + j)) = some v := fun j v hv => by
      have hc := hc k o ho j v hv
      exact (hb.cell (p := x.add (k * 5 + j)) (World.block_lt_of_cell? w _ hc)).trans hc
    have e : ∀ j, 0 < j → x.add (k * 5 + j) = ⟨(x.add (k * 5)).block, (x.add (k * 5)).off + j, none⟩ := fun j hj => by
      have e2 : ∀ y : Addr, y.add j = ⟨y.block, y.off + j, none⟩ := fun y => by unfold Addr.add; rw [if_neg (by omega)]
      rw [← Go.Deep.add_add]; exact e2 _
    exact ⟨hh 0 _ rfl, e 1 (by omega) ▸ hh 1 _ rfl, e 2 (by omega) ▸ hh 2 _ rfl, e 3 (by omega) ▸ hh 3 _ rfl, e 4 (by omega) ▸ hh 4 _ rfl⟩
theorem ops_some {w : World} {a : Option Addr} {len cap : Nat} {zs : List OpD} (h : IsOps w a len cap zs) {k : Nat} {o : OpD} (ho : zs[k]? = some o) : ∃ x, a = some x := by
  rcases h with ⟨_, _, _, rfl⟩ | ⟨y, e, _⟩
  · simp at ho
  · exact ⟨y, e⟩
theorem ops_len {w : World} {a : Option Addr} {len cap : Nat} {zs : List OpD} (h : IsOps w a len cap zs) : zs.length = len ∧ len ≤ maxLen := by
  rcases h with ⟨_, rfl, _, rfl⟩ | ⟨y, _, h, h1, h2, _⟩
  · exact ⟨rfl, Nat.zero_le _⟩
  · exact ⟨h, Nat.le_trans h1 h2⟩
theorem wf_ops {w : World} {a : Option Addr} {len cap : Nat} {zs : List OpD} (h : IsOps w a len cap zs) {k : Nat} {o : OpD} (ho : zs[k]? = some o) : o.wf := by
  rcases h with ⟨_, _, _, rfl⟩ | ⟨y, e, _, _, _, _, hw⟩
  · simp at ho
  · exact hw o (List.mem_of_getElem? ho)
def LongPost (len : Nat) (w : World) (e : Ending) (w' : World) : Prop := ∃ b : Bool, e = .returned (.bool b) ∧ (b = false → len ≤ 400) ∧ Below w.heap.size w w'
set_option maxRecDepth 100000 in
set_option maxHeartbeats 4000000 in
theorem long_any (a : Option Addr) (len cap : Nat) (zs : List OpD) (w : World) (hz : IsOps w a len cap zs) : Calls Try.prog 24 #[.slice a len cap] w (LongPost len w) := by
  obtain ⟨hl, hm⟩ := ops_len hz
  have Hz := Lib.hid hz
  have Hl := Lib.hid hl
  unfold maxLen at hm
  clear hz hl
  go_enter Try.func24, Try.ntmps24
  go_wp2
  go_loopw [3, 8] (fun s i wr => ∃ k m : Nat, k ≤ len ∧ i = .int .i64 k ∧ s = .int .i64 m ∧ k ≤ m ∧ m ≤ 400 ∧ Below w.heap.size w wr) (fun _ i _ => len - (intOf i).toNat)
  case atStart => exact ⟨0, 0, by omega, rfl, rfl, by omega, by omega, Below.refl _ _⟩
  case round =>
    obtain ⟨k, m, hk, rfl, rfl, hkm, hm4, hb⟩ := hrel
    by_cases hlt : k < len
    · obtain ⟨o, ho⟩ : ∃ o, zs[k]? = some o := ⟨_, List.getElem?_eq_getElem (by rw [Hl.out]; exact hlt)⟩
      obtain ⟨x, rfl⟩ := ops_some Hz.out ho
      obtain ⟨c0, c1, c2, c3, c4⟩ := ops_at Hz.out hb k o ho
      obtain ⟨f1, f2, f3, f4⟩ := wf_ops Hz.out ho
      unfold maxLen at f2 f4
      have hbl : (o.bl : Int) / 512 ≤ 20000000000000000 := by omega
      have hkl : (o.kl : Int) / 16 ≤ 600000000000000000 := by omega
      have hbl0 : 0 ≤ (o.bl : Int) / 512 := by omega
      have hkl0 : 0 ≤ (o.kl : Int) / 16 := by omega
      have hB2 : Below w.heap.size w (wr.alloc (.cells #[.int .i64 o.kind, .int .i64 o.at_, .int .i64 o.n, .slice o.bq o.bl o.bc, .slice o.kq o.kl o.kc] 54)) := hb.alloc hb.size _
      have HB2 := Lib.hid hB2
      clear ho f1 f2 f3 f4 hB2
      by_cases h4 : (400 : Int) < (m : Int) + (1 + (o.bl : Int) / 512 + (o.kl : Int) / 16)
      · go_wp2
        go_ret
        exact ⟨true, rfl, (fun e => by cases e), HB2.out⟩
      · by_cases h5 : (65536 : Int) < (o.bl : Int)
        · go_wp2
          go_ret
          exact ⟨true, rfl, (fun e => by cases e), HB2.out⟩
        · obtain ⟨m2, hm2, Hm2⟩ : ∃ m2 : Nat, (m : Int) + (1 + (o.bl : Int) / 512 + (o.kl : Int) / 16) = (m2 : Int) ∧ Hid (k + 1 ≤ m2 ∧ m2 ≤ 400) := ⟨m + (1 + o.bl / 512 + o.kl / 16), by omega, by constructor <;> omega⟩
          have Hm := Lib.hid hm2
          clear hm2
          go_wp2
          go_roundw
          case rel => exact ⟨k + 1, m2, by omega, by go_num, by rw [Hm.out], Hm2.out.1, Hm2.out.2, HB2.out⟩
          case measure => simp [intOf]; omega
    · obtain rfl : k = len := by omega
      have hfin : Hid (k ≤ 400) := by show k ≤ 400; omega
      go_wp2
      go_ret
      exact ⟨false, rfl, fun _ => hfin.out, hb⟩
end Go.Proofs.Ytnficiohnhodiaa
