import Derived.Test.YtnficiohnhodiaaRwS
import Derived.Test.YtnficiohnhodiaaArgsX
/-
  An argument that is a slice of calls (two ints, bytes, ints): what it holds; a whole call.
-/
namespace Go.Proofs.Ytnficiohnhodiaa
open Go.RowKit Go.ChangeShapes Go.WideShapes Go.Deep
structure OpS where
  kind : Int
  at_ : Int
  bq : Option Addr
  bl : Nat
  bc : Nat
  kq : Option Addr
  kl : Nat
  kc : Nat
def OpS.vals (o : OpS) : List Value := [.int .i64 o.kind, .int .i64 o.at_, .slice o.bq o.bl o.bc, .slice o.kq o.kl o.kc]
def OpS.agg (o : OpS) : Value := .agg #[.int .i64 o.kind, .int .i64 o.at_, .slice o.bq o.bl o.bc, .slice o.kq o.kl o.kc]
structure OpS.Holds (o : OpS) (w : World) (l : List UInt8) (ks : List Int) : Prop where
  len : l.length = o.bl
  bytes : Bytes w (.slice o.bq o.bl o.bc) l
  ints : Ints w (.slice o.kq o.kl o.kc) ks
  amax : o.at_ < 9223372036854775808
def IsOpsS (w : World) (a : Option Addr) (len cap : Nat) (zs : List OpS) : Prop :=
  (a = none ∧ len = 0 ∧ cap = 0 ∧ zs = []) ∨
  ∃ x, a = some x ∧ zs.length = len ∧ len ≤ cap ∧ cap ≤ maxLen ∧ (∀ i o, zs[i]? = some o → ∀ j v, o.vals[j]? = some v → w.cell? (x.add (i * 4 + j)) = some v) ∧ ∀ (i : Nat) (o : OpS), zs[i]? = some o → ∃ l ks, o.Holds w l ks
section
variable {H : Type} {enc : TypeId × Value → H} {P : Program} {w : World} {base : Nat} {spare : Nat → Bool} {held : Bool}
theorem open_slice_fieldsS {t e : TypeId} {fs : Array Field} {fuel : Nat} {cs : List Value} {x : DataW H × List MemPlace} (ht : P.underlying t = some (.slice e)) (he : P.underlying e = some (.struct fs))
    (hone : oneCellFields P fs = true) (hC : P.cellsOf e = fs.size) (h : DataW.trod enc P w base spare held fuel t cs = some x) :
    (cs = [.slice none 0 0] ∧ x = (.nil, [])) ∨
    ∃ (a : Addr) (len cap m : Nat) (D : Nat → DataW H) (Pl : Nat → List MemPlace), cs = [.slice (some a) len cap] ∧ base ≤ a.block ∧ len ≤ cap ∧ cap ≤ maxLen ∧ m = (if spare a.block then cap else len) ∧
      x = (.slice ((List.range len).map D) ((List.range (m - len)).map fun j => D (len + j)), MemPlace.row a (m * fs.size) ++ (List.range m).flatMap Pl) ∧
      ∀ i, i < m → ∃ (ys : List (DataW H × List MemPlace)) (n : Nat), D i = .agg (ys.map (·.1)) ∧ Pl i = ys.flatMap (·.2) ∧ ys.length = fs.size ∧
        ∀ (j : Nat) (f : Field), fs[j]? = some f → ∃ (v : Value) (y : DataW H × List MemPlace), w.cell? (a.add (i * fs.size + j)) = some v ∧ ys[j]? = some y ∧ DataW.trod enc P w base spare held n f.type [v] = some y := by
  rcases open_slice ht h with h0 | ⟨a, len, cap, m, n, D, Pl, hcs, hb, hl, hm, hmm, hx, hi⟩
  · exact .inl h0
  · refine .inr ⟨a, len, cap, m, D, Pl, hcs, hb, hl, hm, hmm, by rw [hC] at hx; exact hx, fun i him => ?_⟩
    obtain ⟨cs', hc, ht'⟩ := hi i him
    rw [hC] at hc
    obtain ⟨ys, n', hn', hy, hlen, hyl, hf⟩ := DataW.trod_struct he ht'
    obtain ⟨_, hcl, hat⟩ := World.cells?_some hc
    simp only [Prod.mk.injEq] at hy
    refine ⟨ys, n', hy.1, hy.2, hyl, fun j f hj => ?_⟩
    obtain ⟨ho, hk⟩ := hone_of hone j f hj
    have hjl : j < fs.size := (Array.getElem?_eq_some_iff.1 hj).1
    have hcell := hat j hjl
    have hv : cs'[j]? = some (cs'[j]'(by omega)) := List.getElem?_eq_getElem (by omega)
    have h1 := hf j f hj
    rw [ho, hk] at h1
    have hone' : (cs'.drop j).take 1 = [cs'[j]'(by omega)] := by
      rw [List.drop_eq_getElem_cons (by omega)]
      rfl
    rw [hone'] at h1
    have hys : ys[j]? = some (ys[j]'(by omega)) := List.getElem?_eq_getElem (by omega)
    refine ⟨_, _, ?_, hys, h1.trans hys⟩
    rw [← Go.Deep.add_add, hcell, hv]
end
section
variable {H : Type} {enc : TypeId × Value → H} {w : World} {base : Nat} {spare : Nat → Bool} {held : Bool} {fuel : Nat}
theorem opsS_of_trod {a : Option Addr} {len cap : Nat} {x : DataW H × List MemPlace} (h : DataW.trod enc Try.prog w base spare held fuel 64 [.slice a len cap] = some x) : ∃ zs, IsOpsS w a len cap zs := by
  rcases open_slice_fieldsS Try.underlying64 Try.underlying71 (by kernel_rfl) (by kernel_rfl) h with ⟨hcs, _⟩ | ⟨x, l, c, m, D, Pl, hcs, _, hl, hc, hm, _, hi⟩
  · simp at hcs; obtain ⟨rfl, rfl, rfl⟩ := hcs
    exact ⟨[], .inl ⟨rfl, rfl, rfl, rfl⟩⟩
  · simp at hcs; obtain ⟨rfl, rfl, rfl⟩ := hcs
    have hlm : len ≤ m := by rw [hm]; split <;> omega
    obtain ⟨zs, hz, hr⟩ := choose_list len (fun i (o : OpS) => (∀ j v, o.vals[j]? = some v → w.cell? (x.add (i * 4 + j)) = some v) ∧ ∃ l ks, o.Holds w l ks) (fun i hi' => by
      obtain ⟨ys, n, _, _, _, hp⟩ := hi i (by omega)
      obtain ⟨v0, _, a0, _, t0⟩ := hp 0 _ rfl
      obtain ⟨v1, _, a1, _, t1⟩ := hp 1 _ rfl
      obtain ⟨v2, _, a2, _, t2⟩ := hp 2 _ rfl
      obtain ⟨v3, _, a3, _, t3⟩ := hp 3 _ rfl
      obtain ⟨z0, rfl, _⟩ := int_of_trod t0
      obtain ⟨z1, rfl, _, hz1⟩ := int_of_trod t1
      obtain ⟨q2, c2, bs, rfl, hb⟩ := bytes_of_trod t2
      obtain ⟨q3, c3, ks, rfl, hk, _⟩ := ints_of_trod t3
      refine ⟨⟨z0, z1, q2, bs.length, c2, q3, ks.length, c3⟩, fun j v hv => ?_, bs, ks, rfl, hb, hk, by show z1 < _; omega⟩
      match j, hv with
      | 0, hv => cases hv; exact a0
      | 1, hv => cases hv; exact a1
      | 2, hv => cases hv; exact a2
      | 3, hv => cases hv; exact a3
      | j + 4, hv => simp [OpS.vals] at hv)
    exact ⟨zs, .inr ⟨x, rfl, hz, hl, hc, fun i o ho => (hr i o ho).1, fun i o ho => (hr i o ho).2⟩⟩
end
theorem opsS_at {w w' : World} {x : Addr} {len cap : Nat} {zs : List OpS} (h : IsOpsS w (some x) len cap zs) (hb : Below w.heap.size w w') (k : Nat) (o : OpS) (ho : zs[k]? = some o) :
    w'.cell? (x.add (k * 4)) = some (.int .i64 o.kind) ∧ w'.cell? ⟨(x.add (k * 4)).block, (x.add (k * 4)).off + 1, none⟩ = some (.int .i64 o.at_) ∧
      w'.cell? ⟨(x.add (k * 4)).block, (x.add (k * 4)).off + 2, none⟩ = some (.slice o.bq o.bl o.bc) ∧ w'.cell? ⟨(x.add (k * 4)).block, (x.add (k * 4)).off + 3, none⟩ = some (.slice o.kq o.kl o.kc) := by
  rcases h with ⟨h, _⟩ | ⟨y, e, _, _, _, hc, _⟩
  · cases h
  · cases e
    have hh : ∀ j v, o.vals[j]? = some v → w'.cell? (x.add (k * 4 + j)) = some v := fun j v hv => by
      have hc := hc k o ho j v hv
      exact (hb.cell (p := x.add (k * 4 + j)) (World.block_lt_of_cell? w _ hc)).trans hc
    have e : ∀ j, 0 < j → x.add (k * 4 + j) = ⟨(x.add (k * 4)).block, (x.add (k * 4)).off + j, none⟩ := fun j hj => by
      have e2 : ∀ y : Addr, y.add j = ⟨y.block, y.off + j, none⟩ := fun y => by unfold Addr.add; rw [if_neg (by omega)]
      rw [← Go.Deep.add_add]; exact e2 _
    exact ⟨hh 0 _ rfl, e 1 (by omega) ▸ hh 1 _ rfl, e 2 (by omega) ▸ hh 2 _ rfl, e 3 (by omega) ▸ hh 3 _ rfl⟩
theorem opsS_some {w : World} {a : Option Addr} {len cap : Nat} {zs : List OpS} (h : IsOpsS w a len cap zs) {k : Nat} {o : OpS} (ho : zs[k]? = some o) : ∃ x, a = some x := by
  rcases h with ⟨_, _, _, rfl⟩ | ⟨y, e, _⟩
  · simp at ho
  · exact ⟨y, e⟩
theorem opsS_len {w : World} {a : Option Addr} {len cap : Nat} {zs : List OpS} (h : IsOpsS w a len cap zs) : zs.length = len ∧ len ≤ maxLen := by
  rcases h with ⟨_, rfl, _, rfl⟩ | ⟨y, _, h, h1, h2, _⟩
  · exact ⟨rfl, Nat.zero_le _⟩
  · exact ⟨h, Nat.le_trans h1 h2⟩
theorem opsS_holds {w : World} {a : Option Addr} {len cap : Nat} {zs : List OpS} (h : IsOpsS w a len cap zs) {k : Nat} {o : OpS} (ho : zs[k]? = some o) : ∃ l ks, o.Holds w l ks := by
  rcases h with ⟨_, _, _, rfl⟩ | ⟨y, e, _, _, _, _, hw⟩
  · simp at ho
  · exact hw k o ho
theorem play_allS {w0 w : World} {p mn ms mc j n : Nat} {A : RAd} (h : PI w0 w p mn ms mc A j n) (hn : n ≤ 100000) {o : OpS} {l : List UInt8} {ks : List Int} (ho : o.Holds w0 l ks) (hb : o.bl ≤ 4096) :
    Calls Try.prog 34 #[.pointer (some ⟨j, 0, none⟩), .agg #[.int .i64 o.kind, .int .i64 o.at_, .slice o.bq o.bl o.bc, .slice o.kq o.kl o.kc]] w fun e w' => e = .returned (.bool true) ∧ PI w0 w' p mn ms mc A j (n + 3) := by
  obtain ⟨d, L, sq, tq, x, hP, hS⟩ := h
  obtain ⟨kind, at_, bq, bl, bc, kq, kl, kc⟩ := o
  obtain ⟨h1, h2, h3, h4⟩ := ho
  simp only at h1 h2 h3 h4 hb ⊢
  by_cases k0 : kind = 0
  · subst k0; exact play_format hP hS hn at_ h1 h2 hb _
  by_cases k1 : kind = 1
  · subst k1; exact play_open hP at_ _ _
  by_cases k2 : kind = 2
  · subst k2; exact play_save hP hS hn at_ h1 h2 hb _
  by_cases k3 : kind = 3
  · subst k3
    by_cases ha : at_ < 0
    · exact Pre.play_noarm hP hS at_ ha _ _
    · exact Pre.play_armS hP hS at_ (by omega) h4 _ _
  by_cases k4 : kind = 4
  · subst k4; exact play_crashS hP hS at_ _ h3
  · exact play_sector hP hS hn kind (by omega) at_ h1 h2 _
end Go.Proofs.Ytnficiohnhodiaa
