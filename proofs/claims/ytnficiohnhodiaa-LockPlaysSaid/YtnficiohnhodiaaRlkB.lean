import Derived.Test.YtnficiohnhodiaaRlkA
/-
  The document's table of locks: insert.
-/
namespace Go.Proofs.Ytnficiohnhodiaa
open Go.RowKit
theorem infoIntL : (Try.prog.info? 3).map (fun i => (i.zero, i.size, i.bytes)) = some (some (.int .i64 0), 1, 8) := by kernel_rfl
theorem info_partsL {o : Option TypeInfo} {z : Value} {n b : Nat} (h : o.map (fun i => (i.zero, i.size, i.bytes)) = some (some z, n, b)) : ∃ i, o = some i ∧ i.zero = some z ∧ i.size = n ∧ i.bytes = b := by
  obtain ⟨i, hi, e⟩ := Option.map_eq_some_iff.1 h
  injection e with e1 e2
  injection e2 with e2 e3
  exact ⟨i, hi, e1, e2, e3⟩
theorem src_cellL {P : Program} {w : World} {t e : TypeId} (ht : P.underlying t = some (.slice e)) (x : Value) (hx : x.oneCell' = true) (T : TypeId) : Src P 1 t (.slice (some ⟨w.heap.size, 0, none⟩) 1 1) [x].length [x] (w.alloc (.cells #[x] T)) := by
  refine Src.ofSlice _ ht ⟨w.heap.size, 0, none⟩ 1 1 _ (by simp) (fun j u hu => ?_) (fun u hu => by simp at hu; subst hu; exact hx)
  cases j with
  | zero => simp at hu; subst hu; exact cell_in (heap_alloc_new w _) rfl
  | succ j => simp at hu
def intsV (l : List Int) : List Value := l.map (Value.int .i64)
theorem intsV_len (l : List Int) : (intsV l).length = l.length := List.length_map ..
theorem intsV_append (l r : List Int) : intsV (l ++ r) = intsV l ++ intsV r := List.map_append ..
theorem SubRow.int {w : World} {B : Nat} {v : Value} {l : List Int} (h : SubRow w B v (intsV l)) {k : Nat} {x : Int} (hx : l[k]? = some x) : ∃ g o c, v = .slice (some ⟨g, o, none⟩) l.length c ∧ B ≤ g ∧ w.cell? ⟨g, o + k, none⟩ = some (.int .i64 x) := by
  rcases h with ⟨_, e⟩ | ⟨g, off, cap, e, h1, _, _, _, _, h6⟩
  · have := congrArg List.length e; rw [intsV_len] at this; have := (List.getElem?_eq_some_iff.1 hx).1; simp only [List.length_nil] at *; omega
  · rw [intsV_len] at e
    exact ⟨g, off, cap, e, h1, h6 k _ (by unfold intsV; rw [List.getElem?_map, hx]; rfl)⟩
theorem SubRow.intForm {w : World} {B : Nat} {v : Value} {l : List Int} (h : SubRow w B v (intsV l)) : ∃ q c, v = .slice q l.length c ∧ l.length ≤ c ∧ c ≤ maxLen := by
  obtain ⟨q, c, e, h1, h2⟩ := h.form
  rw [intsV_len] at e h1
  exact ⟨q, c, e, h1, h2⟩
def insAt (l : List Int) (n : Int) : List Int := l.takeWhile (fun x => !decide (n < x)) ++ n :: l.dropWhile (fun x => !decide (n < x))
def insertR (l : List Int) (n : Int) : List Int := if n ∈ l then l else insAt l n
def passed (p : List Int) (n : Int) : Bool := p.any fun x => decide (n < x)
def outR (p : List Int) (n : Int) : List Int := if passed p n then insAt p n else p
theorem tw_app (p : List Int) (f : Int → Bool) (x : Int) : (p ++ [x]).takeWhile f = if p.all f then p ++ (if f x then [x] else []) else p.takeWhile f := by
  induction p with
  | nil => simp only [List.nil_append, List.takeWhile_cons, List.takeWhile_nil, List.all_nil, if_true]
  | cons y p ih =>
    simp only [List.cons_append, List.takeWhile_cons, List.all_cons]
    cases h : f y
    · simp
    · simp only [Bool.true_and, if_true, ih]; split <;> rfl
theorem dw_app (p : List Int) (f : Int → Bool) (x : Int) : (p ++ [x]).dropWhile f = if p.all f then (if f x then [] else [x]) else p.dropWhile f ++ [x] := by
  induction p with
  | nil => simp only [List.nil_append, List.dropWhile_cons, List.dropWhile_nil, List.all_nil, if_true]
  | cons y p ih =>
    simp only [List.cons_append, List.dropWhile_cons, List.all_cons]
    cases h : f y
    · simp
    · simp only [Bool.true_and, if_true, ih]
theorem tw_all (p : List Int) (f : Int → Bool) (h : p.all f = true) : p.takeWhile f = p ∧ p.dropWhile f = [] := by
  induction p with
  | nil => exact ⟨rfl, rfl⟩
  | cons y p ih =>
    simp only [List.all_cons, Bool.and_eq_true] at h
    obtain ⟨a, b⟩ := ih h.2
    simp [List.takeWhile_cons, List.dropWhile_cons, h.1, a, b]
theorem not_passed (p : List Int) (n : Int) : p.all (fun x => !decide (n < x)) = !passed p n := by
  unfold passed
  induction p with
  | nil => rfl
  | cons y p ih => simp only [List.all_cons, List.any_cons, ih, Bool.not_or]
theorem passed_app (p : List Int) (n x : Int) : passed (p ++ [x]) n = (passed p n || decide (n < x)) := by unfold passed; simp
theorem outR_app (p : List Int) (n x : Int) : outR (p ++ [x]) n = if !passed p n && decide (n < x) then outR p n ++ [n] ++ [x] else outR p n ++ [x] := by
  unfold outR
  rw [passed_app]
  unfold insAt
  rw [tw_app, dw_app, not_passed]
  cases hp : passed p n
  · cases hx : decide (n < x)
    · simp
    · simp
  · simp
theorem outR_end (l : List Int) (n : Int) : (if passed l n then outR l n else outR l n ++ [n]) = insAt l n := by
  unfold outR
  cases hp : passed l n
  · have h := tw_all l (fun x => !decide (n < x)) (by rw [not_passed, hp]; rfl)
    unfold insAt
    rw [h.1, h.2]; simp
  · simp
theorem insAt_len (l : List Int) (n : Int) : (insAt l n).length = l.length + 1 := by
  unfold insAt
  have := congrArg List.length (List.takeWhile_append_dropWhile (p := fun x => !decide (n < x)) (l := l))
  rw [List.length_append] at this
  rw [List.length_append, List.length_cons]; omega
theorem outR_len (l : List Int) (n : Int) : (outR l n).length ≤ l.length + 1 := by
  unfold outR; split
  · rw [insAt_len]; exact Nat.le_refl _
  · omega
section
variable {w : World} {B : Nat}
set_option maxRecDepth 100000 in
set_option maxHeartbeats 2000000 in
theorem rinsert_any {v : Value} {l : List Int} (h : SubRow w B v (intsV l)) (n : Int) (hl : l.length ≤ 1000000) (hB : B ≤ w.heap.size) :
    Calls Try.prog 42 #[v, .int .i64 n] w fun e w' => ∃ v', e = .returned v' ∧ SubRow w' B v' (intsV (insertR l n)) ∧ Below w.heap.size w w' := by
  obtain ⟨i0, hi, hz0, hz1, hz2⟩ := info_partsL infoIntL
  have H := Lib.hid h
  obtain ⟨q, c, rfl, hc, hm⟩ := h.intForm
  unfold maxLen at hm
  clear h
  go_enter Try.func42, Try.ntmps42
  go_wp2
  go_loopw [5, 6, 7] (fun v5 v6 v7 wr => ∃ k : Nat, v7 = .int .i64 k ∧ k ≤ l.length ∧ v6 = .bool (passed (l.take k) n) ∧ SubRow wr w.heap.size v5 (intsV (outR (l.take k) n)) ∧ Below w.heap.size w wr ∧ Hid (n ∉ l.take k)) (fun _ _ v7 _ => l.length - (intOf v7).toNat)
  case atStart => exact ⟨0, rfl, Nat.zero_le _, rfl, .inl ⟨rfl, rfl⟩, Below.refl _ _, Lib.hid (by simp)⟩
  case round =>
    obtain ⟨k, rfl, hk, rfl, hO, hb, Hn⟩ := hrel
    by_cases hlt : k < l.length
    · obtain ⟨x, hx⟩ : ∃ x, l[k]? = some x := ⟨_, List.getElem?_eq_getElem hlt⟩
      have H2 := Lib.hid (SubRow.below H.out hb)
      obtain ⟨g, o, c', ev, _, hcx⟩ := SubRow.int H2.out hx
      injection ev with e1 _ e3
      subst e1 e3
      have htk : l.take (k + 1) = l.take k ++ [x] := by rw [List.take_add_one, hx]; rfl
      have hki : (k : Int) < (l.length : Int) := by omega
      have Hmem : Hid (x = n → n ∈ l) := Lib.hid (fun e => e ▸ List.mem_of_getElem? hx)
      have Hpl : Hid ((outR (l.take k) n).length ≤ 1000001) := Lib.hid (by have := outR_len (l.take k) n; rw [List.length_take] at this; omega)
      have Hpa : Hid (passed (l.take (k + 1)) n = (passed (l.take k) n || decide (n < x))) := Lib.hid (by rw [htk, passed_app])
      have Hou : Hid (outR (l.take (k + 1)) n = if !passed (l.take k) n && decide (n < x) then outR (l.take k) n ++ [n] ++ [x] else outR (l.take k) n ++ [x]) := Lib.hid (by rw [htk, outR_app])
      have Hn1 : Hid (x ≠ n → n ∉ l.take (k + 1)) := Lib.hid (fun e => by rw [htk]; simp only [List.mem_append, List.mem_singleton, not_or]; exact ⟨Hn.out, fun e2 => e e2.symm⟩)
      clear hx htk
      generalize hp1e : passed (l.take (k + 1)) n = p1 at Hpa
      generalize ho1e : outR (l.take (k + 1)) n = o1 at Hou
      have HP1 := Lib.hid hp1e
      have HO1 := Lib.hid ho1e
      clear hp1e ho1e
      by_cases e1 : x = n
      · have hr : insertR l n = l := by unfold insertR; rw [if_pos (Hmem.out e1)]
        have Hr := Lib.hid hr
        clear hr
        go_wp2
        go_ret
        exact ⟨_, rfl, by rw [Hr.out]; exact H2.out, hb⟩
      · have hs0 := hb.size
        have Hn2 := Lib.hid (Hn1.out e1)
        have Hlen : Hid ((outR (l.take k) n).length ≤ 1000001) := Hpl
        generalize outR (l.take k) n = o0 at hO Hou Hlen Hpl
        generalize passed (l.take k) n = pk at Hpa Hou ⊢
        clear Hn Hn1 Hmem Hpl
        cases pk
        · by_cases hnx : n < x
          · have ho1 : o1 = o0 ++ [n] ++ [x] := by rw [Hou.out]; simp [hnx]
            have hp1 : p1 = true := by rw [Hpa.out]; simp [hnx]
            subst ho1
            subst hp1
            clear Hpa Hou
            go_upto_region 11 with (at_builtin; refine wpList_append_sub _ rfl _ _ 41 rfl 3 i0 (.int .i64 0) 8 Try.underlying41 hi hz0 hz1 hz2 rfl w.heap.size _ (intsV o0) rfl (SubRow.below hO ((Below.refl _ _).alloc (Nat.le_refl _) _)) _ rfl [.int .i64 n] (src_cellL Try.underlying41 _ rfl _) (by have := Hlen.out; simp only [List.length_cons, List.length_nil, List.length_append, intsV_len]; unfold maxLen; omega) (by have := Hlen.out; simp only [List.length_cons, List.length_nil, List.length_append, intsV_len]; omega) (by simp; omega) ?_; intro v7 w7 h7 hk7 hn7)
            have hlt7 := hO.lt
            have hb7 : Below w.heap.size w w7 := (hb.alloc hs0 _).trans (hk7.below (by simp; omega) (fun j hj e => by have := (hlt7 j e).1; omega))
            have hs7 := hb7.size
            have hcx7 : w7.cell? ⟨g, o + k, none⟩ = some (.int .i64 x) := (hb7.cell (p := ⟨g, o + k, none⟩) (H.out.lt g rfl).2).trans ((hb.cell (p := ⟨g, o + k, none⟩) (H.out.lt g rfl).2).symm.trans hcx)
            have H7 := Lib.hid h7
            have HB7 := Lib.hid hb7
            clear hk7 hn7 hlt7 hO hcx h7 hb7
            go_wp2_with (at_builtin; refine wpList_append_sub _ rfl _ _ 41 rfl 3 i0 (.int .i64 0) 8 Try.underlying41 hi hz0 hz1 hz2 rfl w.heap.size _ (intsV o0 ++ [.int .i64 n]) rfl (SubRow.below H7.out ((Below.refl _ _).alloc (Nat.le_refl _) _)) _ rfl [.int .i64 x] (src_cellL Try.underlying41 _ rfl _) (by have := Hlen.out; simp only [List.length_cons, List.length_nil, List.length_append, intsV_len]; unfold maxLen; omega) (by have := Hlen.out; simp only [List.length_cons, List.length_nil, List.length_append, intsV_len]; omega) (by simp; omega) ?_; intro v8 w8 h8 hk8 hn8)
            have hb8 : Below w.heap.size w w8 := (HB7.out.alloc hs7 _).trans (hk8.below (by simp; omega) (fun j hj e => by have := (H7.out.lt j e).1; omega))
            have h8' : SubRow w8 w.heap.size v8 (intsV (o0 ++ [n] ++ [x])) := by rw [intsV_append, intsV_append]; exact h8
            clear hk8 hn8 h8 H7
            go_wp2
            go_roundw
            case rel => exact ⟨k + 1, by go_num, by omega, by rw [HP1.out], by rw [HO1.out]; exact h8', hb8, Hn2⟩
            case measure => simp [intOf]; omega
          · have ho1 : o1 = o0 ++ [x] := by rw [Hou.out]; simp [hnx]
            have hp1 : p1 = false := by rw [Hpa.out]; simp; omega
            subst ho1
            subst hp1
            clear Hpa Hou
            go_wp2_with (at_builtin; refine wpList_append_sub _ rfl _ _ 41 rfl 3 i0 (.int .i64 0) 8 Try.underlying41 hi hz0 hz1 hz2 rfl w.heap.size _ (intsV o0) rfl (SubRow.below hO ((Below.refl _ _).alloc (Nat.le_refl _) _)) _ rfl [.int .i64 x] (src_cellL Try.underlying41 _ rfl _) (by have := Hlen.out; simp only [List.length_cons, List.length_nil, List.length_append, intsV_len]; unfold maxLen; omega) (by have := Hlen.out; simp only [List.length_cons, List.length_nil, List.length_append, intsV_len]; omega) (by simp; omega) ?_; intro v7 w7 h7 hk7 hn7)
            have hlt7 := hO.lt
            have hb7 : Below w.heap.size w w7 := (hb.alloc hs0 _).trans (hk7.below (by simp; omega) (fun j hj e => by have := (hlt7 j e).1; omega))
            have h7' : SubRow w7 w.heap.size v7 (intsV (o0 ++ [x])) := by rw [intsV_append]; exact h7
            clear hk7 hn7 hlt7 hO h7
            go_wp2
            go_roundw
            case rel => exact ⟨k + 1, by go_num, by omega, by rw [HP1.out], by rw [HO1.out]; exact h7', hb7, Hn2⟩
            case measure => simp [intOf]; omega
        · have ho1 : o1 = o0 ++ [x] := by rw [Hou.out]; simp
          have hp1 : p1 = true := by rw [Hpa.out]; simp
          subst ho1
          subst hp1
          clear Hpa Hou
          go_wp2_with (at_builtin; refine wpList_append_sub _ rfl _ _ 41 rfl 3 i0 (.int .i64 0) 8 Try.underlying41 hi hz0 hz1 hz2 rfl w.heap.size _ (intsV o0) rfl (SubRow.below hO ((Below.refl _ _).alloc (Nat.le_refl _) _)) _ rfl [.int .i64 x] (src_cellL Try.underlying41 _ rfl _) (by have := Hlen.out; simp only [List.length_cons, List.length_nil, List.length_append, intsV_len]; unfold maxLen; omega) (by have := Hlen.out; simp only [List.length_cons, List.length_nil, List.length_append, intsV_len]; omega) (by simp; omega) ?_; intro v7 w7 h7 hk7 hn7)
          have hlt7 := hO.lt
          have hb7 : Below w.heap.size w w7 := (hb.alloc hs0 _).trans (hk7.below (by simp; omega) (fun j hj e => by have := (hlt7 j e).1; omega))
          have h7' : SubRow w7 w.heap.size v7 (intsV (o0 ++ [x])) := by rw [intsV_append]; exact h7
          clear hk7 hn7 hlt7 hO h7
          go_wp2
          go_roundw
          case rel => exact ⟨k + 1, by go_num, by omega, by rw [HP1.out], by rw [HO1.out]; exact h7', hb7, Hn2⟩
          case measure => simp [intOf]; omega
    · obtain rfl : k = l.length := by omega
      have hs0 := hb.size
      rw [List.take_length] at hO
      have Hn' := Hn.out
      rw [List.take_length] at Hn'
      rw [List.take_length]
      have hr : insertR l n = insAt l n := by unfold insertR; rw [if_neg Hn']
      have hend := outR_end l n
      have Hlen : Hid ((outR l n).length ≤ 1000001) := Lib.hid (by have := outR_len l n; omega)
      generalize outR l n = o0 at hO hend Hlen
      rw [← hr] at hend
      clear Hn Hn' hr
      generalize passed l n = pk at hend ⊢
      have Hs : Hid (w.heap.size ≥ B) := Lib.hid hB
      cases pk
      · rw [if_neg (by simp)] at hend
        have Hend := Lib.hid hend
        clear hend
        go_wp2_with (at_builtin; refine wpList_append_sub _ rfl _ _ 41 rfl 3 i0 (.int .i64 0) 8 Try.underlying41 hi hz0 hz1 hz2 rfl w.heap.size _ (intsV o0) rfl (SubRow.below hO ((Below.refl _ _).alloc (Nat.le_refl _) _)) _ rfl [.int .i64 n] (src_cellL Try.underlying41 _ rfl _) (by have := Hlen.out; simp only [List.length_cons, List.length_nil, List.length_append, intsV_len]; unfold maxLen; omega) (by have := Hlen.out; simp only [List.length_cons, List.length_nil, List.length_append, intsV_len]; omega) (by simp; omega) ?_; intro v7 w7 h7 hk7 hn7)
        have hlt7 := hO.lt
        have hb7 : Below w.heap.size w w7 := (hb.alloc hs0 _).trans (hk7.below (by simp; omega) (fun j hj e => by have := (hlt7 j e).1; omega))
        have h7' : SubRow w7 B v7 (intsV (insertR l n)) := by rw [← Hend.out, intsV_append]; exact SubRow.weaken h7 Hs.out
        clear hk7 hn7 hlt7 hO h7
        go_wp2
        go_ret
        exact ⟨_, rfl, h7', hb7⟩
      · rw [if_pos rfl] at hend
        have Hend := Lib.hid hend
        clear hend
        go_wp2
        go_ret
        exact ⟨_, rfl, by rw [← Hend.out]; exact SubRow.weaken hO Hs.out, hb⟩
end
end Go.Proofs.Ytnficiohnhodiaa
