import Derived.Test.YtbaphjnglkocpaaWireB
import Derived.Deep.RegionHeld3
/-
  Numbers and rows out of bytes: Take, Takes, TakeRow.
-/
namespace Go.Proofs.Ytbaphjnglkocpaa
open Go.RowKit
theorem Addr.add_add (a : Addr) (i j : Nat) (h : a.spot = none) : (a.add i).add j = a.add (i + j) := by
  obtain ⟨b, o, s⟩ := a; cases h
  rw [Addr.add_mid, Addr.add_mid, Addr.add_mid, Nat.add_assoc]
theorem spot_none {w : World} {a : Addr} {v : Value} (h : w.cell? a = some v) : a.spot = none := by
  unfold World.cell? at h
  split at h
  · split at h
    · cases h
    · rename_i hs; simpa using hs
  · cases h
theorem Bytes.spot {w : World} {a : Addr} {n cap : Nat} {l : List UInt8} (h : Bytes w (.slice (some a) n cap) l) (hl : 0 < l.length) : a.spot = none := by
  obtain ⟨q, c, e, _, _, h3⟩ := h
  obtain ⟨a', e', hc⟩ := h3 0 (l[0]'hl) (List.getElem?_eq_getElem hl)
  cases e; cases e'
  rw [show a.add 0 = a from by simp [Addr.add]] at hc
  exact spot_none hc
/-- 's[k:]' -/
theorem Bytes.from {w : World} {q : Option Addr} {cap : Nat} {l : List UInt8} (h : Bytes w (.slice q l.length cap) l) (k : Nat) (hk : k ≤ l.length) : Bytes w (.slice (Option.map (fun x => x.add k) q) (l.length - k) (cap - k)) (l.drop k) := by
  have hs := fun a (e : q = some a) => Bytes.spot (e ▸ h)
  obtain ⟨q', cap', e, h1, h2, h3⟩ := h
  cases e
  refine ⟨_, _, by rw [List.length_drop], by rw [List.length_drop]; omega, by omega, fun j b hb => ?_⟩
  rw [List.getElem?_drop] at hb
  obtain ⟨a, rfl, hc⟩ := h3 (k + j) b hb
  have hlt := (List.getElem?_eq_some_iff.1 hb).1
  exact ⟨a.add k, rfl, by rw [Addr.add_add _ _ _ (hs a rfl (by omega))]; exact hc⟩
/-- 's[k:]' at the slice's very end -/
theorem Bytes.none_left {w : World} {q : Option Addr} {n c : Nat} {l : List UInt8} (k : Nat) (hk : l.length ≤ k) (hn : n = 0) (hc : c ≤ maxLen) : Bytes w (.slice q n c) (l.drop k) := by
  rw [List.drop_eq_nil_of_le hk]
  subst hn
  exact ⟨q, c, rfl, Nat.zero_le _, hc, fun j b hb => by simp at hb⟩
/-- 's[:k]' -/
theorem Bytes.to {w : World} {q : Option Addr} {cap : Nat} {l : List UInt8} (h : Bytes w (.slice q l.length cap) l) (k : Nat) (hk : k ≤ l.length) : Bytes w (.slice q k cap) (l.take k) := by
  obtain ⟨q', cap', e, h1, h2, h3⟩ := h
  cases e
  have hlen : (l.take k).length = k := by rw [List.length_take]; omega
  refine ⟨_, _, by rw [hlen], by omega, h2, fun j b hb => ?_⟩
  have hlt := (List.getElem?_eq_some_iff.1 hb).1
  rw [List.getElem?_take, if_pos (by omega)] at hb
  exact h3 j b hb
/-- 's[k:]' and 's[k:k+n]' as a region that draws leaves them -/
theorem Bytes.sub {w : World} {q : Option Addr} {cap : Nat} {l : List UInt8} (h : Bytes w (.slice q l.length cap) l) (k n : Nat) (hk : k + n ≤ l.length) : Bytes w (.slice (if cap = k then q else Option.map (fun x => x.add k) q) n (cap - k)) ((l.drop k).take n) := by
  have hm : cap ≤ maxLen ∧ l.length ≤ cap := by obtain ⟨q', cap', e, h1, h2, _⟩ := h; cases e; exact ⟨h2, h1⟩
  by_cases e : cap = k
  · rw [if_pos e]
    have h0 : n = 0 := by omega
    subst h0
    rw [List.take_zero]
    exact ⟨q, cap - k, rfl, Nat.zero_le _, by omega, fun j b hb => by simp at hb⟩
  · rw [if_neg e]
    have h1 := h.from k (by omega)
    have h2 : Bytes w (.slice (Option.map (fun x => x.add k) q) (l.drop k).length (cap - k)) (l.drop k) := by rw [List.length_drop]; exact h1
    exact h2.to n (by rw [List.length_drop]; omega)
theorem Bytes.sub' {w : World} {q : Option Addr} {cap : Nat} {l : List UInt8} (h : Bytes w (.slice q l.length cap) l) (k : Nat) (hk : k ≤ l.length) : Bytes w (.slice (if cap = k then q else Option.map (fun x => x.add k) q) (l.length - k) (cap - k)) (l.drop k) := by
  have := h.sub k (l.length - k) (by omega)
  rwa [List.take_of_length_le (by rw [List.length_drop]; exact Nat.le_refl _)] at this
set_option maxRecDepth 100000 in
theorem Take_some {w : World} {v : Value} {l : List UInt8} {n : Int} {k : Nat} (h : Bytes w v l) (hl : l.length ≤ 1000000000000) (ht : takeN l = some (n, k)) :
    Calls Try.prog 116 #[v] w fun e w' => ∃ v', e = .returned (.tuple #[.int .i64 n, v', .nilIface]) ∧ SubRow w' w.heap.size v' (bytesV (l.drop k)) ∧ Below w.heap.size w w' := by
  have htk := take_any h
  have hkl := takeN_len ht
  have e1 : takeV l = (n, k) := by unfold takeV; rw [ht]; rfl
  rw [e1] at htk
  simp only [] at htk
  have hB := h
  obtain ⟨q, cap, rfl, h1, h2, h3⟩ := h
  have hk0 : ((k : Int) == 0) = false := by simp; omega
  have hkk : ((k : Nat) : Int) ≤ ((l.length : Nat) : Int) := by omega
  have hC1 := clone_any (hB.from k (by omega)) (by rw [List.length_drop]; omega)
  have hC2 : Hid (cap = k → Calls Try.prog 55 #[.slice q (l.length - k) 0] w fun e w' => ∃ v', e = .returned v' ∧ SubRow w' w.heap.size v' (bytesV (l.drop k)) ∧ Below w.heap.size w w') :=
    Lib.hid (fun e => clone_any (Bytes.none_left k (by omega) (by omega) (Nat.zero_le _)) (by rw [List.length_drop]; omega))
  unfold maxLen at h2
  clear e1 ht
  go_enter Try.func116, Try.ntmps116
  go_wp2_with (first
    | (go_at_call 101; (with_reducible refine htk.mono ?_); rintro _ _ ⟨rfl, rfl⟩; clear htk)
    | (go_at_call 55; (with_reducible refine hC1.mono ?_); rintro _ w1 ⟨v1, rfl, s1, b1⟩)
    | (go_at_call 55; (with_reducible refine (hC2.out (by omega)).mono ?_); rintro _ w1 ⟨v1, rfl, s1, b1⟩))
  all_goals
    go_ret3
    exact ⟨_, rfl, s1, b1⟩
theorem Take_none {w : World} {v : Value} {l : List UInt8} (h : Bytes w v l) (ht : takeN l = none) :
    Calls Try.prog 116 #[v] w fun e w' => e = .returned (.tuple #[.int .i64 0, .slice none 0 0, errV 4]) ∧ w = w' := by
  have htk := take_any h
  have hm := makeErr 4
  have e1 : takeV l = (0, 0) := by unfold takeV; rw [ht]; rfl
  rw [e1] at htk
  have htk : Calls Try.prog 101 #[v] w fun e w' => e = .returned (.tuple #[.int .i64 0, .int .i64 0]) ∧ w = w' := htk
  rw [errV_pos (by decide)]
  clear e1 ht h
  go_enter Try.func116, Try.ntmps116
  go_wp2_with (go_at_call 101; (with_reducible refine htk.mono ?_); rintro _ _ ⟨rfl, rfl⟩; clear htk)
  go_ret3
  exact ⟨rfl, rfl⟩
def takeRow (l : List UInt8) : Option (List UInt8 × List UInt8) :=
  match takeN l with
  | none => none
  | some (n, k) => if n < 0 ∨ (l.length : Int) - k < n then none else some ((l.drop k).take n.toNat, l.drop (k + n.toNat))
theorem takeRow_row (r rest : List UInt8) (h : r.length ≤ 1000000000000) : takeRow (rowB r ++ rest) = some (r, rest) := by
  unfold takeRow rowB
  rw [List.append_assoc, takeN_num _ _ (by omega) (by omega)]
  simp only []
  rw [if_neg (by simp; omega), Int.toNat_natCast]
  simp [List.drop_append]
set_option maxRecDepth 100000 in
set_option maxHeartbeats 4000000 in
theorem TakeRow_some {w : World} {v : Value} {l r rest : List UInt8} (h : Bytes w v l) (hl : l.length ≤ 1000000000000) (ht : takeRow l = some (r, rest)) :
    Calls Try.prog 74 #[v] w fun e w' => ∃ v1 v2, e = .returned (.tuple #[v1, v2, .nilIface]) ∧ SubRow w' w.heap.size v1 (bytesV r) ∧ SubRow w' w.heap.size v2 (bytesV rest) ∧ Below w.heap.size w w' := by
  have htk := take_any h
  unfold takeRow at ht
  split at ht
  · cases ht
  rename_i n k htn
  split at ht
  · cases ht
  rename_i hno
  cases ht
  have hkl := takeN_len htn
  obtain ⟨nn, rfl⟩ : ∃ nn : Nat, n = (nn : Int) := ⟨n.toNat, by omega⟩
  rw [Int.toNat_natCast]
  have e1 : takeV l = ((nn : Int), k) := by unfold takeV; rw [htn]; rfl
  rw [e1] at htk
  simp only [] at htk
  have hB := h
  obtain ⟨q, cap, rfl, h1, h2, h3⟩ := h
  have hk0 : ((k : Int) == 0) = false := by simp; omega
  have hn1 : ((nn : Nat) : Int) ≤ ((l.length : Nat) : Int) - (k : Int) := by omega
  have hlen : (l.drop (k + nn)).length ≤ 1000000000000 := by rw [List.length_drop]; omega
  have hkn : k + nn ≤ l.length := by omega
  have hw : Below w.heap.size w w.drew := (Below.refl _ w).drew
  have Hh : Hid ((l.drop (k + nn)).length ≤ 1000000000000 ∧ k + nn ≤ l.length ∧ Below w.heap.size w w.drew) := Lib.hid ⟨hlen, hkn, hw⟩
  have hl1 : ((l.drop k).take nn).length ≤ 1000000000000 := by rw [List.length_take, List.length_drop]; omega
  unfold maxLen at h2
  clear e1 htn hlen hkn hw
  have b1 : (0 : Int) ≤ (k : Int) := by omega
  have b2 : (k : Int) ≤ (k : Int) + (nn : Int) := by omega
  have b3 : (k : Int) + (nn : Int) ≤ (cap : Int) := by omega
  have b4 : (k : Int) + (nn : Int) ≤ (l.length : Int) := by omega
  have b5 : (k : Int) ≤ (l.length : Int) := by omega
  have b8 : (0 : Int) ≤ (k : Int) + (nn : Int) := by omega
  have b9 : ((k : Int) + (nn : Int)).toNat = k + nn := by omega
  have b10 : (l.length : Int) ≤ (cap : Int) := by omega
  have bw : IntKind.i64.wrap ((k : Int) + (nn : Int)) = (k : Int) + (nn : Int) := by rw [IntKind.wrap_i64]; omega
  obtain ⟨X1, hX1⟩ : ∃ X, (if cap = k then q else Option.map (fun x => x.add k) q) = X := ⟨_, rfl⟩
  obtain ⟨X2, hX2⟩ : ∃ X, (if cap = k + nn then q else Option.map (fun x => x.add (k + nn)) q) = X := ⟨_, rfl⟩
  have hB1 := hB.below ((Below.refl _ w).drew)
  have hC1 := clone_form (hB1.sub k nn Hh.out.2.1) hl1
  rw [hX1] at hC1
  have HX2 := Lib.hid hX2
  clear hB h3
  go_enter Try.func74, Try.ntmps74
  go_wp2_with (go_at_call 101; (with_reducible refine htk.mono ?_); rintro _ _ ⟨rfl, rfl⟩; clear htk)
  go_region_held3 (fun w' => Bytes w' (.slice q l.length cap) l) (first | exact hB1 | exact hB2 | exact hB3) (first
      | (go_at_call 55; (with_reducible refine hC1.mono ?_); rintro _ w1 ⟨q1, n1, cc1, rfl, s1, c1⟩; have hB2 := hB1.below c1; have hC2 := clone_form (hB2.sub' (k + nn) Hh.out.2.1) Hh.out.1; rw [HX2.out] at hC2)
      | (go_at_call 55; (with_reducible refine hC2.mono ?_); rintro _ w2 ⟨q2, n2, cc2, rfl, s2, c2⟩; have hB3 := hB2.below c2))
  clear hX1 hX2 bw
  go_wp2
  go_ret3
  exact ⟨_, _, rfl, s1.below c2, s2.weaken c1.size, Hh.out.2.2.trans (c1.trans (c2.mono c1.size))⟩
set_option maxRecDepth 100000 in
set_option maxHeartbeats 1000000 in
theorem TakeRow_none {w : World} {v : Value} {l : List UInt8} (h : Bytes w v l) (ht : takeRow l = none) :
    Calls Try.prog 74 #[v] w fun e w' => e = .returned (.tuple #[.slice none 0 0, .slice none 0 0, errV 4]) ∧ w = w' := by
  have htk := take_any h
  have hm := makeErr 4
  rw [errV_pos (by decide)]
  unfold takeRow at ht
  obtain ⟨q, cap, rfl, h1, h2, h3⟩ := h
  cases hn : takeN l with
  | none =>
    have e1 : takeV l = (0, 0) := by unfold takeV; rw [hn]; rfl
    rw [e1] at htk
    have htk : Calls Try.prog 101 #[.slice q l.length cap] w fun e w' => e = .returned (.tuple #[.int .i64 0, .int .i64 0]) ∧ w = w' := htk
    clear e1 ht hn h3
    go_enter Try.func74, Try.ntmps74
    go_wp2_with (go_at_call 101; (with_reducible refine htk.mono ?_); rintro _ _ ⟨rfl, rfl⟩; clear htk)
    go_ret3
    exact ⟨rfl, rfl⟩
  | some p =>
    obtain ⟨n, k⟩ := p
    rw [hn] at ht
    simp only [] at ht
    have e1 : takeV l = (n, k) := by unfold takeV; rw [hn]; rfl
    have hkl := takeN_len hn
    rw [e1] at htk
    simp only [] at htk
    have hk0 : ((k : Int) == 0) = false := by simp; omega
    have hor : n < 0 ∨ ¬ n < 0 ∧ (l.length : Int) - k < n := by
      by_cases h0 : n < 0
      · exact .inl h0
      · refine .inr ⟨h0, ?_⟩
        by_cases h5 : (l.length : Int) - k < n
        · exact h5
        · rw [if_neg (by omega)] at ht; cases ht
    clear e1 ht hn h3
    unfold maxLen at h2
    rcases hor with h0 | ⟨h0, h5⟩
    all_goals
      go_enter Try.func74, Try.ntmps74
      go_wp2_with (go_at_call 101; (with_reducible refine htk.mono ?_); rintro _ _ ⟨rfl, rfl⟩; clear htk)
      go_ret3
      exact ⟨rfl, rfl⟩
/-- so many numbers, and what is behind them -/
def takesM : Nat → List UInt8 → Option (List Int × List UInt8)
  | 0, l => some ([], l)
  | c + 1, l => match takeN l with
    | none => none
    | some (n, k) => match takesM c (l.drop k) with
      | none => none
      | some (ns, r) => some (n :: ns, r)
theorem takesM_nums (xs : List Int) (rest : List UInt8) (hx : ∀ x ∈ xs, int64 x) : takesM xs.length (nums xs ++ rest) = some (xs, rest) := by
  induction xs with
  | nil => rfl
  | cons x xs ih =>
    have e : nums (x :: xs) ++ rest = num x ++ (nums xs ++ rest) := by simp [nums]
    have h := hx x (List.mem_cons_self ..)
    rw [e, List.length_cons, takesM, takeN_num _ _ h.1 h.2]
    simp only [List.drop_left, ih (fun y hy => hx y (List.mem_cons_of_mem _ hy))]
theorem takesM_len {c : Nat} : ∀ {l : List UInt8} {ns : List Int} {r : List UInt8}, takesM c l = some (ns, r) → ns.length = c ∧ r.length ≤ l.length := by
  induction c with
  | zero => intro l ns r h; cases h; exact ⟨rfl, Nat.le_refl _⟩
  | succ c ih =>
    intro l ns r h
    rw [takesM] at h
    split at h
    · cases h
    · split at h
      · cases h
      · rename_i h2
        cases h
        have := ih h2
        rw [List.length_drop] at this
        exact ⟨by rw [List.length_cons, this.1], by omega⟩
theorem infoI : (Try.prog.info? 3).map (fun i => (i.zero, i.size, i.bytes)) = some (some (.int .i64 0), 1, 8) := by kernel_rfl
set_option maxRecDepth 100000 in
set_option maxHeartbeats 4000000 in
theorem Takes_some {w : World} {v : Value} {l rest : List UInt8} {ns : List Int} {c : Nat} (h : Bytes w v l) (hl : l.length ≤ 1000000000000) (hc : c ≤ 4096) (ht : takesM c l = some (ns, rest)) :
    Calls Try.prog 72 #[v, .int .i64 (c : Int)] w fun e w' => ∃ v1 v2, e = .returned (.tuple #[v1, v2, .nilIface]) ∧ SubRow w' w.heap.size v1 (ns.map (Value.int .i64)) ∧ SubRow w' w.heap.size v2 (bytesV rest) ∧ Below w.heap.size w w' := by
  obtain ⟨i0, hi, hz0, hz1, hz2⟩ := info_parts infoI
  have hb0 : Below w.heap.size w w := Below.refl _ _
  have hcc : ((c : Nat) : Int) ≤ 4096 := by omega
  go_enter Try.func72, Try.ntmps72
  go_wp2
  go_loopw [0, 7, 18] (fun b o i wr => ∃ (k : Nat) (cur : List UInt8) (done more : List Int), k ≤ c ∧ i = .int .i64 k ∧ takesM (c - k) cur = some (more, rest) ∧ ns = done ++ more ∧ done.length = k ∧ cur.length ≤ 1000000000000 ∧ Bytes w b cur ∧ SubRow wr w.heap.size o (done.map (Value.int .i64)) ∧ Below w.heap.size w wr) (fun _ _ i _ => c - (intOf i).toNat)
  case atStart => exact ⟨0, l, [], ns, Nat.zero_le _, rfl, ht, rfl, rfl, hl, h, .inl ⟨rfl, rfl⟩, hb0⟩
  case round =>
    clear ht h hl hb0
    obtain ⟨k, cur, done, more, hk, rfl, ht, hns, hdl, hl, hB, hO, hb⟩ := hrel
    by_cases hlt : k < c
    · obtain ⟨d, hd⟩ : ∃ d, c - k = d + 1 := ⟨c - k - 1, by omega⟩
      rw [hd, takesM] at ht
      split at ht
      · cases ht
      rename_i n kk htn
      split at ht
      · cases ht
      rename_i more' rest' htm
      cases ht
      have hkl := takeN_len htn
      have htk := take_any (hB.below hb)
      have e1 : takeV cur = (n, kk) := by unfold takeV; rw [htn]; rfl
      rw [e1] at htk
      simp only [] at htk
      have HB := Lib.hid hB
      obtain ⟨q, cap, rfl, h1, h2, _⟩ := hB
      have hk0 : ((kk : Int) == 0) = false := by simp; omega
      have hkk : ((kk : Nat) : Int) ≤ ((cur.length : Nat) : Int) := by omega
      obtain ⟨X1, hX1⟩ : ∃ X, (if cap = kk then q else Option.map (fun x => x.add kk) q) = X := ⟨_, rfl⟩
      have HB2 : Hid (Bytes w (.slice X1 (cur.length - kk) (cap - kk)) (cur.drop kk)) := Lib.hid (by have := HB.out.sub' kk (by omega); rwa [hX1] at this)
      have Hst : Hid (takesM d (cur.drop kk) = some (more', rest) ∧ ns = (done ++ [n]) ++ more' ∧ (done ++ [n]).length = k + 1 ∧ (cur.drop kk).length ≤ 1000000000000) := Lib.hid ⟨htm, by rw [hns]; simp, by simp; omega, by rw [List.length_drop]; omega⟩
      have Hdl : Hid ((done.map (Value.int .i64)).length = k) := Lib.hid (by simpa using hdl)
      have hbs := hb.size
      have Hd := Lib.hid hd
      unfold maxLen at h2
      clear e1 htn htm hdl hd hns
      go_wp2_with (first
        | (go_at_call 101; (with_reducible refine htk.mono ?_); rintro _ _ ⟨rfl, rfl⟩; clear htk)
        | (at_builtin; refine wpList_append_sub _ rfl _ _ 32 rfl 3 i0 (.int .i64 0) 8 Try.underlying32 hi hz0 hz1 hz2 rfl w.heap.size _ (done.map (Value.int .i64)) rfl (hO.below ((Below.refl _ _).alloc (Nat.le_refl _) _)) _ rfl [.int .i64 n] (src_one Try.underlying32 _ rfl _) (by rw [Hdl.out]; simp; unfold maxLen; omega) (by rw [Hdl.out]; simp; omega) (by simp; omega) ?_; intro v' w7 h7 hk7 hn7))
      all_goals
        have hlt7 := hO.lt
        have hb7 : Below w.heap.size w w7 := (hb.alloc hbs _).trans (hk7.below (by simp; omega) (fun j hj e => by have := (hlt7 j e).1; omega))
        have h7' : SubRow w7 w.heap.size v' ((done ++ [n]).map (Value.int .i64)) := by rw [List.map_append]; exact h7
        clear hk7 hn7 hlt7 hO hb h7 hX1
        go_wp2
        go_roundw
        case rel => exact ⟨k + 1, cur.drop kk, done ++ [n], more', by omega, by go_num, by rw [show c - (k + 1) = d from by have := Hd.out; omega]; exact Hst.out.1, Hst.out.2.1, Hst.out.2.2.1, Hst.out.2.2.2, HB2.out, h7', hb7⟩
        case measure => simp [intOf]; omega
    · obtain rfl : c = k := by omega
      rw [Nat.sub_self] at ht
      cases ht
      have hcl := clone_any (hB.below hb) hl
      rw [List.append_nil] at hns
      subst hns
      clear hB hl
      go_wp2_with (go_at_call 55; (with_reducible refine hcl.mono ?_); rintro _ w1 ⟨v1, rfl, s1, b1⟩; clear hcl)
      go_ret3
      exact ⟨_, _, rfl, hO.below b1, s1.weaken hb.size, hb.trans (b1.mono hb.size)⟩
end Go.Proofs.Ytbaphjnglkocpaa
