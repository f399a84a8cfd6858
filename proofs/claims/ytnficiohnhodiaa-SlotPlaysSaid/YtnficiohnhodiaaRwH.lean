import Derived.Test.YtnficiohnhodiaaRw
/-
  The document's slots: read.
-/
namespace Go.Proofs.Ytnficiohnhodiaa
open Go.RowKit
theorem slotRead_eq {l x : List UInt8} (h : unbox l = some x) (which : Int) : slotRead l which = match takeN x with
    | none => (0, [])
    | some (n, k) => if n < 1 ∨ most62 < n ∨ n.tmod 2 ≠ which then (0, []) else match takeN (x.drop k) with
      | none => (0, [])
      | some (m, j) => if m < 0 ∨ 480 < m ∨ (x.length : Int) ≠ (k : Int) + j + m then (0, []) else (n, x.drop (k + j)) := by
  unfold slotRead
  rw [h]
  simp only
  cases hx : takeN x with
  | none => rfl
  | some p =>
    obtain ⟨n, k⟩ := p
    simp only
    have hk := takeN_len hx
    split
    · rfl
    · unfold takeRow
      cases hd : takeN (x.drop k) with
      | none => rfl
      | some p =>
        obtain ⟨m, j⟩ := p
        have hj := takeN_len hd
        rw [List.length_drop] at hj
        simp only [List.length_drop]
        by_cases h1 : m < 0 ∨ ((x.length - k : Nat) : Int) - j < m
        · rw [if_pos h1, if_pos (by omega)]
        · rw [if_neg h1]
          simp only
          have hlen : (((x.drop k).drop j).take m.toNat).length = m.toNat := by rw [List.length_take, List.length_drop, List.length_drop]; omega
          by_cases h2 : (x.drop k).drop (j + m.toNat) ≠ [] ∨ 480 < (((x.drop k).drop j).take m.toNat).length
          · rw [if_pos h2, if_pos]
            rcases h2 with h2 | h2
            · have : 0 < ((x.drop k).drop (j + m.toNat)).length := List.length_pos_iff.2 h2
              rw [List.length_drop, List.length_drop] at this
              omega
            · omega
          · rw [if_neg h2, if_neg]
            · have h3 : (x.drop k).drop (j + m.toNat) = [] := by
                cases e : (x.drop k).drop (j + m.toNat) with
                | nil => rfl
                | cons a b => exact absurd (.inl (by rw [e]; simp)) h2
              have h4 := congrArg List.length h3
              rw [List.length_drop, List.length_drop, List.length_nil] at h4
              rw [List.drop_drop, List.take_of_length_le (by rw [List.length_drop]; omega)]
            · have h3 : ¬ 0 < ((x.drop k).drop (j + m.toNat)).length := fun e => h2 (.inl (List.length_pos_iff.1 e))
              rw [List.length_drop, List.length_drop] at h3
              intro h4
              have h5 : ¬ 480 < m.toNat := fun e => h2 (.inr (by rw [hlen]; exact e))
              omega
theorem SubRow.from {w : World} {B g o n c : Nat} {x : List UInt8} (h : SubRow w B (.slice (some ⟨g, o, none⟩) n c) (bytesV x)) (k : Nat) (hk : k ≤ n) : SubRow w B (.slice (some ⟨g, o + k, none⟩) (n - k) (c - k)) (bytesV (x.drop k)) := by
  rcases h with ⟨e, _⟩ | ⟨g', o', c', e, h1, h2, h3, h4, h5, h6⟩
  · cases e
  · injection e with e1 e2 e3
    injection e1 with e1
    injection e1 with e1 e4 _
    subst e1 e2 e3 e4
    rw [bytesV_len] at *
    refine .inr ⟨g, o + k, c - k, by rw [bytesV_len, List.length_drop], h1, h2, by rw [bytesV_len, List.length_drop]; omega, by omega, fun j hj => ?_, fun j u hu => ?_⟩
    · rw [Nat.add_assoc]; exact h5 (k + j) (by omega)
    · rw [Nat.add_assoc]
      refine h6 (k + j) u ?_
      unfold bytesV at hu ⊢
      rw [List.map_drop, List.getElem?_drop] at hu
      exact hu
def RReadPost (x : Int × List UInt8) (w : World) (e : Ending) (w' : World) : Prop :=
  ∃ v', e = .returned (.tuple #[.int .i64 x.1, v']) ∧ SubRow w' w.heap.size v' (bytesV x.2) ∧ Below w.heap.size w w'
theorem RReadPost.none {x : Int × List UInt8} {w w' : World} {e : Ending} (hx : x = (0, [])) (he : e = .returned (.tuple #[.int .i64 0, .slice none 0 0])) (hb : Below w.heap.size w w') : RReadPost x w e w' := by
  subst hx; exact ⟨_, he, .inl ⟨rfl, rfl⟩, hb⟩
set_option maxRecDepth 100000 in
set_option maxHeartbeats 4000000 in
theorem rread_slot {w : World} {v : Value} {l : List UInt8} (hv : Bytes w v l) (hl : l.length = 512) (which : Int) : Calls Try.prog 88 #[v, .int .i64 which] w (RReadPost (slotRead l which) w) := by
  have hub := runbox_any hv hl
  have Hub := Lib.hid hub
  clear hub
  cases hu : unbox l with
  | none =>
    have hsr : slotRead l which = (0, []) := by unfold slotRead; rw [hu]
    have hub : Calls Try.prog 104 #[v] w fun e w' => e = .returned (.tuple #[.slice none 0 0, .bool false]) ∧ Below w.heap.size w w' := Hub.out.mono fun e w' ⟨h1, _, h3⟩ => ⟨h1 hu, h3⟩
    have Hsr := Lib.hid hsr
    obtain ⟨q, c, rfl, _⟩ := hv
    clear hu hsr hl
    go_enter Try.func88, Try.ntmps88
    go_wp2_with (go_at_call 104; (with_reducible refine hub.mono ?_); rintro _ w1 ⟨rfl, b1⟩; clear hub)
    go_ret2
    exact RReadPost.none Hsr.out rfl b1
  | some x =>
    have hsr := slotRead_eq hu which
    have hub : Calls Try.prog 104 #[v] w fun e w' => ∃ v', e = .returned (.tuple #[v', .bool true]) ∧ SubRow w' w.heap.size v' (bytesV x) ∧ Below w.heap.size w w' := Hub.out.mono fun e w' ⟨_, h2, h3⟩ => by obtain ⟨v', h4, h5⟩ := h2 x hu; exact ⟨v', h4, h5, h3⟩
    have hxl : x.length ≤ 506 := by have := (unbox_some hu).1; omega
    have Hxl := Lib.hid hxl
    clear hl
    obtain ⟨q, c, rfl, _⟩ := hv
    clear hu
    cases ht : takeN x with
    | none =>
      rw [ht] at hsr
      have Hsr := Lib.hid hsr
      have htw : takeW x = (0, 0) := by unfold takeW; rw [ht]; rfl
      have Htw := Lib.hid htw
      clear ht hsr htw hxl
      go_enter Try.func88, Try.ntmps88
      go_wp2_with (first
        | (go_at_call 104; (with_reducible refine hub.mono ?_); rintro _ w1 ⟨v1, rfl, h1, b1⟩; clear hub; (obtain ⟨q1, c1, e1, _, _⟩ := h1.form); (rw [bytesV_len] at e1); subst e1; have HB1 := Lib.hid b1; have htk := rtake_any (Bytes.of_sub h1) (by have := Hxl.out; omega); (rw [Htw.out] at htk); clear h1 b1)
        | (go_at_call 105; (with_reducible refine htk.mono ?_); rintro _ w2 ⟨rfl, b2⟩; clear htk))
      go_ret2
      exact RReadPost.none Hsr.out rfl (HB1.out.trans (b2.mono HB1.out.size))
    | some p =>
      obtain ⟨n, k⟩ := p
      rw [ht] at hsr
      simp only at hsr
      have hkl := takeN_len ht
      have hkr := takeN_rng ht
      have htw : takeW x = (n, k) := by unfold takeW; rw [ht]; rfl
      have Htw := Lib.hid htw
      have hk0 : ((k : Int) == 0) = false := by simp; omega
      clear htw
      by_cases hbad : n < 1 ∨ most62 < n ∨ n.tmod 2 ≠ which
      · rw [if_pos hbad] at hsr
        have Hsr := Lib.hid hsr
        unfold most62 at hbad
        clear ht hsr hxl hkl
        go_enter Try.func88, Try.ntmps88
        by_cases b1 : n < 1
        · go_wp2_with (first
            | (go_at_call 104; (with_reducible refine hub.mono ?_); rintro _ w1 ⟨v1, rfl, h1, b1⟩; clear hub; (obtain ⟨q1, c1, e1, _, _⟩ := h1.form); (rw [bytesV_len] at e1); subst e1; have H1 := Lib.hid h1; have HB1 := Lib.hid b1; have htk := rtake_any (Bytes.of_sub h1) (by have := Hxl.out; omega); (rw [Htw.out] at htk); clear h1 b1)
            | (go_at_call 105; (with_reducible refine htk.mono ?_); rintro _ w2 ⟨rfl, b2⟩; clear htk; have HB12 := Lib.hid b2))
          go_ret2
          exact RReadPost.none Hsr.out rfl (HB1.out.trans (b2.mono HB1.out.size))
        · by_cases b2 : 4611686018427387904 < n
          · go_wp2_with (first
              | (go_at_call 104; (with_reducible refine hub.mono ?_); rintro _ w1 ⟨v1, rfl, h1, b1⟩; clear hub; (obtain ⟨q1, c1, e1, _, _⟩ := h1.form); (rw [bytesV_len] at e1); subst e1; have H1 := Lib.hid h1; have HB1 := Lib.hid b1; have htk := rtake_any (Bytes.of_sub h1) (by have := Hxl.out; omega); (rw [Htw.out] at htk); clear h1 b1)
              | (go_at_call 105; (with_reducible refine htk.mono ?_); rintro _ w2 ⟨rfl, b2⟩; clear htk; have HB12 := Lib.hid b2))
            go_ret2
            exact RReadPost.none Hsr.out rfl (HB1.out.trans (HB12.out.mono HB1.out.size))
          · have hm : (n % 2 != which) = true := by
              have h3 : n.tmod 2 ≠ which := by rcases hbad with h | h | h; exact absurd h b1; exact absurd h b2; exact h
              rw [Int.tmod_eq_emod_of_nonneg (by omega)] at h3
              simpa using h3
            go_wp2_with (first
              | (go_at_call 104; (with_reducible refine hub.mono ?_); rintro _ w1 ⟨v1, rfl, h1, b1⟩; clear hub; (obtain ⟨q1, c1, e1, _, _⟩ := h1.form); (rw [bytesV_len] at e1); subst e1; have H1 := Lib.hid h1; have HB1 := Lib.hid b1; have htk := rtake_any (Bytes.of_sub h1) (by have := Hxl.out; omega); (rw [Htw.out] at htk); clear h1 b1)
              | (go_at_call 105; (with_reducible refine htk.mono ?_); rintro _ w2 ⟨rfl, b2⟩; clear htk; have HB12 := Lib.hid b2))
            go_ret2
            exact RReadPost.none Hsr.out rfl (HB1.out.trans (HB12.out.mono HB1.out.size))
      · rw [if_neg hbad] at hsr
        have hn1 : ¬ n < 1 := fun e => hbad (.inl e)
        have hn2 : ¬ 4611686018427387904 < n := fun e => hbad (.inr (.inl e))
        have hn3 : (n % 2 != which) = false := by
          have h3 : ¬ n.tmod 2 ≠ which := fun e => hbad (.inr (.inr e))
          rw [Int.tmod_eq_emod_of_nonneg (by omega)] at h3
          simpa using h3
        have Hsr := Lib.hid hsr
        have hk1 := hkl.1
        have hk2 := hkl.2.1
        clear ht hsr hbad hkl hkr
        go_enter Try.func88, Try.ntmps88
        go_upto_region 7 with (first
          | (go_at_call 104; (with_reducible refine hub.mono ?_); rintro _ w1 ⟨v1, rfl, h1, b1⟩; clear hub; (obtain ⟨q1, c1, e1, hc1, hm1⟩ := h1.form); (rw [bytesV_len] at e1 hc1); subst e1; (obtain ⟨g1, o1, e1⟩ := bytes_mid (Bytes.of_sub h1) (by omega)); subst e1; have H1 := Lib.hid h1; have HB1 := Lib.hid b1; have htk := rtake_any (Bytes.of_sub h1) (by have := Hxl.out; omega); (rw [Htw.out] at htk); clear h1 b1)
          | (go_at_call 105; (with_reducible refine htk.mono ?_); rintro _ w2 ⟨rfl, b2⟩; clear htk; have H2 := Lib.hid (H1.out.below b2); have HB2 := Lib.hid (HB1.out.trans (b2.mono HB1.out.size)); clear b2))
        clear hn1 hn2 hn3
        by_cases hck : c1 = k
        · have hxk : x.length = k := by omega
          have hemp : ∀ q0 : Option Addr, Calls Try.prog 105 #[.slice q0 0 0] w2 fun e w' => e = .returned (.tuple #[.int .i64 0, .int .i64 0]) ∧ Below w2.heap.size w2 w' := fun q0 => by
            have hb : Bytes w2 (.slice q0 0 0) [] := ⟨q0, 0, rfl, Nat.le_refl _, Nat.zero_le _, fun j b hb => by simp at hb⟩
            exact rtake_any hb (by simp)
          have Hfin : Hid (slotRead l which = (0, [])) := Lib.hid (by rw [Hsr.out, List.drop_eq_nil_of_le (by omega)]; rfl)
          subst hck
          have hkI : (c1 : Int) ≤ (c1 : Int) := Int.le_refl _
          clear hxl hc1 hk2
          go_wp2_with (go_at_call 105; (with_reducible refine (hemp _).mono ?_); rintro _ w3 ⟨rfl, b3⟩)
          go_ret2
          exact RReadPost.none Hfin.out rfl (HB2.out.trans (b3.mono HB2.out.size))
        · have hd := SubRow.from H2.out k hk2
          have htk2 := rtake_any (Bytes.of_sub hd) (by rw [List.length_drop]; omega)
          have HD := Lib.hid hd
          have hkI : (k : Int) ≤ (c1 : Int) := by omega
          clear hd
          cases hd2 : takeN (x.drop k) with
          | none =>
            have Hfin : Hid (slotRead l which = (0, [])) := Lib.hid (by rw [Hsr.out, hd2])
            have hw2 : takeW (x.drop k) = (0, 0) := by unfold takeW; rw [hd2]; rfl
            rw [hw2] at htk2
            clear hd2 hw2
            go_wp2_with (go_at_call 105; (with_reducible refine htk2.mono ?_); rintro _ w3 ⟨rfl, b3⟩; clear htk2)
            go_ret2
            exact RReadPost.none Hfin.out rfl (HB2.out.trans (b3.mono HB2.out.size))
          | some p2 =>
            obtain ⟨m, j⟩ := p2
            have hsr2 : slotRead l which = if m < 0 ∨ 480 < m ∨ (x.length : Int) ≠ (k : Int) + j + m then (0, []) else (n, x.drop (k + j)) := by rw [Hsr.out, hd2]
            have hw2 : takeW (x.drop k) = (m, j) := by unfold takeW; rw [hd2]; rfl
            have hjl := takeN_len hd2
            rw [List.length_drop] at hjl
            have hmr := takeN_rng hd2
            rw [hw2] at htk2
            have hj0 : ((j : Int) == 0) = false := by simp; omega
            clear hd2 hw2
            go_upto_region 8 with (go_at_call 105; (with_reducible refine htk2.mono ?_); rintro _ w3 ⟨rfl, b3⟩; clear htk2)
            have HB3 := Lib.hid (HB2.out.trans (b3.mono HB2.out.size))
            have H3 := Lib.hid (H2.out.below b3)
            clear b3
            by_cases m1 : m < 0
            · have Hfin : Hid (slotRead l which = (0, [])) := Lib.hid (by rw [hsr2, if_pos (.inl m1)])
              clear hsr2
              go_wp2
              go_ret2
              exact RReadPost.none Hfin.out rfl HB3.out
            · by_cases m2 : 480 < m
              · have Hfin : Hid (slotRead l which = (0, [])) := Lib.hid (by rw [hsr2, if_pos (.inr (.inl m2))])
                clear hsr2
                go_wp2
                go_ret2
                exact RReadPost.none Hfin.out rfl HB3.out
              · by_cases m3 : (x.length : Int) = (k : Int) + j + m
                · have Hfin : Hid (slotRead l which = (n, x.drop (k + j))) := Lib.hid (by rw [hsr2, if_neg (by omega)])
                  have hb3 : ((x.length : Int) != (k : Int) + j + m) = false := by simpa using m3
                  have hkj : k + j ≤ x.length := by omega
                  have hf := SubRow.from H3.out (k + j) hkj
                  clear hsr2 hjl hmr
                  have hwr : IntKind.i64.wrap ((k : Int) + (j : Int)) = (k : Int) + (j : Int) := by rw [IntKind.wrap_i64]; omega
                  have hw0 : 0 ≤ (k : Int) + (j : Int) := by omega
                  have hnt : ((k : Int) + (j : Int)).toNat = k + j := by omega
                  have hw9 : (k : Int) + (j : Int) ≤ (k : Int) + (j : Int) + m := by omega
                  by_cases hcj : c1 = k + j
                  · have Hlx : Hid (x.length = k + j) := Lib.hid (by omega)
                    replace hf : SubRow w3 w.heap.size (.slice (some ⟨g1, o1, none⟩) 0 0) (bytesV []) := by
                      obtain ⟨h1, h2⟩ := H3.out.lt g1 rfl
                      exact .inr ⟨g1, o1, 0, rfl, h1, h2, by simp [bytesV], Nat.zero_le _, fun i hi => absurd hi (Nat.not_lt_zero _), fun i u hu => by simp [bytesV] at hu⟩
                    have Hdn : Hid (x.drop (k + j) = []) := Lib.hid (List.drop_eq_nil_of_le (by have := Hlx.out; omega))
                    have hw1 : (k : Int) + (j : Int) ≤ (x.length : Int) := by omega
                    go_upto_region 10 with fail
                    clear hb3
                    have hx0 : x.length - (k + j) = 0 := by have := Hlx.out; omega
                    refine wp_region_text [] (fun _ => False) (fun w' => Keeps (fun _ => False) w3 w') 6 (by kernel_rfl) (fun _ _ h k => h.trans k) (by kernel_rfl) (Keeps.refl _ _).drew ?_
                    simp only [List.take_succ_cons, List.take_zero, List.drop_succ_cons, List.drop_zero]
                    repeat (first | (refine text_pure (v := ?_) (by rfl) (fun w' => ?_) ?_; rotate_left; (focus ( go_simp; first | done | with_reducible rfl)); simp only [Act.put, List.setIfInBounds_toArray, List.set_cons_zero, List.set_cons_succ]) | (refine text_skip (by rfl) ?_; simp only [Act.put, List.setIfInBounds_toArray, List.set_cons_zero, List.set_cons_succ]))
                    refine text_nil fun w8 hB hF => ?_
                    have hb8 : Below w.heap.size w w8 := HB3.out.trans (hB.below HB3.out.size (fun _ _ e => e))
                    have Hb8 := Lib.hid hb8
                    have Hf8 := Lib.hid (SubRow.block_keeps hf hB (fun _ _ e => e))
                    clear hF hB hb8 hf
                    go_wp2
                    refine Calm.normal ?_
                    go_wp2
                    go_ret2
                    rw [Hfin.out, Hdn.out]
                    exact ⟨_, rfl, Hf8.out, Hb8.out⟩
                  · have hw1 : (k : Int) + (j : Int) ≤ (x.length : Int) := by omega
                    have hw2 : (k : Int) + (j : Int) ≤ (c1 : Int) := by omega
                    go_upto_region 10 with fail
                    clear hb3
                    refine wp_region_text [] (fun _ => False) (fun w' => Keeps (fun _ => False) w3 w') 6 (by kernel_rfl) (fun _ _ h k => h.trans k) (by kernel_rfl) (Keeps.refl _ _).drew ?_
                    simp only [List.take_succ_cons, List.take_zero, List.drop_succ_cons, List.drop_zero]
                    repeat (first | (refine text_pure (v := ?_) (by rfl) (fun w' => ?_) ?_; rotate_left; (focus ( go_simp; first | done | with_reducible rfl)); simp only [Act.put, List.setIfInBounds_toArray, List.set_cons_zero, List.set_cons_succ]) | (refine text_skip (by rfl) ?_; simp only [Act.put, List.setIfInBounds_toArray, List.set_cons_zero, List.set_cons_succ]))
                    refine text_nil fun w8 hB hF => ?_
                    have hb8 : Below w.heap.size w w8 := HB3.out.trans (hB.below HB3.out.size (fun _ _ e => e))
                    have Hb8 := Lib.hid hb8
                    have Hf8 := Lib.hid (SubRow.block_keeps hf hB (fun _ _ e => e))
                    clear hF hB hb8 hf
                    go_wp2
                    refine Calm.normal ?_
                    go_wp2
                    go_ret2
                    rw [Hfin.out]
                    exact ⟨_, rfl, Hf8.out, Hb8.out⟩
                · have Hfin : Hid (slotRead l which = (0, [])) := Lib.hid (by rw [hsr2, if_pos (.inr (.inr m3))])
                  have hb3 : ((x.length : Int) != (k : Int) + j + m) = true := by simpa using m3
                  clear hsr2
                  go_wp2
                  go_ret2
                  exact RReadPost.none Hfin.out rfl HB3.out
end Go.Proofs.Ytnficiohnhodiaa
