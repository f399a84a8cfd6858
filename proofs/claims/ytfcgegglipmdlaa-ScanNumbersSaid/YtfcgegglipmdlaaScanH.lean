import Derived.Test.YtfcgegglipmdlaaScanG
namespace Go.Proofs.Ytfcgegglipmdlaa
open Go.RowKit
theorem fault_nil (w : World) : Calls Try.prog 12 #[.nilIface] w fun e w' => e = .returned (.tuple #[.int .i64 0, .int .i64 0]) ∧ w = w' := by
  go_enter Try.func12, Try.ntmps12
  go_wp2
  go_ret2
  exact ⟨rfl, rfl⟩
theorem ta_fault (v : Value) (w : World) : (Instr.typeAssert (.iface 43 v) 25 43 true).run Try.prog w = .ok (.tuple #[v, .bool true]) w := by kernel_rfl
set_option maxHeartbeats 1000000 in
theorem fault_some (b : Nat) (c k : Int) (w : World) (hb : w.heap[b]? = some (.cells #[.int .i64 c, .int .i64 k] 46 (0, 0))) :
    Calls Try.prog 12 #[.iface 43 (.pointer (some ⟨b, 0, none⟩))] w fun e w' => e = .returned (.tuple #[.int .i64 c, .int .i64 k]) ∧ ∃ n, w' = w.drewN n := by
  have h0 := cell_in (o := 0) (u := .int .i64 c) hb rfl
  have h1 := cell_in (o := 1) (u := .int .i64 k) hb rfl
  have hta := ta_fault
  clear hb
  go_enter Try.func12, Try.ntmps12
  go_wp2
  go_quiet (fail)
  go_wp2
  go_ret2
  exact ⟨rfl, _, rfl⟩
/-- a slice that reads as these tokens -/
def TkRow (w : World) (v : Value) (ts : List Tk) : Prop :=
  (v = .slice none 0 0 ∧ ts = []) ∨ ∃ g cap, v = .slice (some ⟨g, 0, none⟩) ts.length cap ∧ ts.length ≤ cap ∧ cap ≤ maxLen ∧
    ∀ i (h : i < ts.length), w.cell? ⟨g, i * 3, none⟩ = some (.int .i64 ts[i].kind) ∧ w.cell? ⟨g, i * 3 + 1, none⟩ = some (.string ⟨ts[i].text.toArray⟩) ∧ w.cell? ⟨g, i * 3 + 2, none⟩ = some (.int .i64 ts[i].pos)
theorem flat_get (ts : List Tk) (i : Nat) (h : i < ts.length) : (ts.flatMap Tk.cells)[i * 3]? = some (.int .i64 ts[i].kind) ∧ (ts.flatMap Tk.cells)[i * 3 + 1]? = some (.string ⟨ts[i].text.toArray⟩) ∧ (ts.flatMap Tk.cells)[i * 3 + 2]? = some (.int .i64 ts[i].pos) := by
  induction ts generalizing i with
  | nil => simp at h
  | cons t ts ih =>
    have e : (List.flatMap Tk.cells (t :: ts)) = [Value.int .i64 t.kind, .string ⟨t.text.toArray⟩, .int .i64 t.pos] ++ ts.flatMap Tk.cells := rfl
    rw [e]
    cases i with
    | zero => simp
    | succ i =>
      have := ih i (by simpa using h)
      rw [show (i + 1) * 3 = i * 3 + 3 from by omega]
      simpa using this
theorem tkRow_of_owns {w : World} {base : Nat} {v : Value} {ts : List Tk} (h : w.ownsRow base 35 3 v ts.length (ts.flatMap Tk.cells)) : TkRow w v ts := by
  rcases h.2 with ⟨rfl, hn⟩ | ⟨g, cap, cur, rfl, _, hg, hc, hm, _, htake⟩
  · exact .inl ⟨rfl, List.eq_nil_of_length_eq_zero hn⟩
  · refine .inr ⟨g, cap, rfl, hc, hm, fun i hi => ?_⟩
    have h3 := flat_get ts i hi
    have e : ∀ j u, (ts.flatMap Tk.cells)[j]? = some u → w.cell? ⟨g, j, none⟩ = some u := by
      intro j u hu
      refine cell_in hg ?_
      rw [← htake, List.getElem?_take] at hu
      split at hu
      · simpa using hu
      · cases hu
    exact ⟨e _ _ h3.1, e _ _ h3.2.1, e _ _ h3.2.2⟩
theorem tkRow_drewN {w : World} {v : Value} {ts : List Tk} (n : Nat) (h : TkRow w v ts) : TkRow (w.drewN n) v ts := by
  rcases h with h | ⟨g, cap, h1, h2, h3, h4⟩
  · exact .inl h
  · exact .inr ⟨g, cap, h1, h2, h3, fun i hi => by simpa using h4 i hi⟩
set_option maxHeartbeats 1000000 in
theorem same_any (a b : Value) (ts us : List Tk) (w : World) (ha : TkRow w a ts) (hb : TkRow w b us) :
    Calls Try.prog 13 #[a, b] w fun e w' => e = .returned (.bool (decide (ts = us))) ∧ ∃ n, w' = w.drewN n := by
  by_cases hne : ts.length = us.length
  · rcases ha with ⟨rfl, rfl⟩ | ⟨g, cap, rfl, hc, hm, hcell⟩
    · obtain rfl : us = [] := List.eq_nil_of_length_eq_zero (by simpa using hne.symm)
      have hb2 : ∃ o c, b = .slice o 0 c := by
        rcases hb with ⟨rfl, _⟩ | ⟨g, cap, rfl, _⟩
        · exact ⟨none, 0, rfl⟩
        · exact ⟨_, cap, rfl⟩
      obtain ⟨o, c, rfl⟩ := hb2
      clear hb hne
      go_enter Try.func13, Try.ntmps13
      go_wp2
      refine wp_loop_once ?_
      go_wp2
      go_ret
      exact ⟨ret_bool (by simp), 0, rfl⟩
    · rcases hb with ⟨rfl, rfl⟩ | ⟨g2, cap2, rfl, hc2, hm2, hcell2⟩
      · obtain rfl : ts = [] := List.eq_nil_of_length_eq_zero (by simpa using hne)
        clear hcell hne hc hm
        go_enter Try.func13, Try.ntmps13
        go_wp2
        refine wp_loop_once ?_
        go_wp2
        go_ret
        exact ⟨ret_bool (by simp), 0, rfl⟩
      · unfold maxLen at hm hm2
        have Hne := Lib.hid hne
        have hne2 : us.length ≤ ts.length := by omega
        rw [← hne]; clear hne
        have H1 := Lib.hid hcell; have H2 := Lib.hid hcell2; clear hcell hcell2
        go_enter Try.func13, Try.ntmps13
        go_wp2
        go_loopw [5] (fun i wr => ∃ k n : Nat, k ≤ ts.length ∧ i = .int .i64 k ∧ wr = w.drewN n ∧ Hid (∀ j, j < k → ts[j]? = us[j]?)) (fun i _ => ts.length - (intOf i).toNat)
        case atStart => exact ⟨0, 0, Nat.zero_le _, rfl, rfl, Lib.hid (by intro j hj; omega)⟩
        case round =>
          obtain ⟨k, n, hk, rfl, rfl, HK⟩ := hrel
          by_cases hlt : k < ts.length
          · have hlt2 : k < us.length := by have := Hne.out; omega
            obtain ⟨c1, c2, c3⟩ := H1.out k hlt
            obtain ⟨d1, d2, d3⟩ := H2.out k hlt2
            by_cases e1 : ts[k].kind = us[k].kind
            · by_cases e2 : ts[k].text = us[k].text
              · by_cases e3 : ts[k].pos = us[k].pos
                · have HK2 : Hid (∀ j, j < k + 1 → ts[j]? = us[j]?) := Lib.hid (by
                    intro j hj
                    rcases Nat.lt_or_ge j k with h | h
                    · exact HK.out j h
                    · obtain rfl : j = k := by omega
                      rw [List.getElem?_eq_getElem hlt, List.getElem?_eq_getElem hlt2]
                      congr 1
                      cases hx : ts[j]; cases hy : us[j]; simp_all)
                  go_wp2
                  go_quiet (fail)
                  go_wp2
                  go_roundw
                  case rel => exact ⟨k + 1, _, by omega, by go_num, rfl, HK2⟩
                  case measure => simp [intOf]; omega
                · go_wp2
                  go_quiet (fail)
                  go_wp2
                  go_ret
                  exact ⟨ret_bool (by symm; rw [decide_eq_false_iff_not]; rintro rfl; simp at e3), _, by rw [World.drewN_drewN]⟩
              · go_wp2
                go_quiet (fail)
                go_wp2
                go_ret
                exact ⟨ret_bool (by symm; rw [decide_eq_false_iff_not]; rintro rfl; simp at e2), _, by rw [World.drewN_drewN]⟩
            · go_wp2
              go_quiet (fail)
              go_wp2
              go_ret
              exact ⟨ret_bool (by symm; rw [decide_eq_false_iff_not]; rintro rfl; simp at e1), _, by rw [World.drewN_drewN]⟩
          · go_wp2
            go_ret
            refine ⟨ret_bool ?_, _, rfl⟩
            symm; rw [decide_eq_true_eq]
            apply List.ext_getElem?
            intro j
            rcases Nat.lt_or_ge j k with h | h
            · exact HK.out j h
            · rw [List.getElem?_eq_none (by omega), List.getElem?_eq_none (by have := Hne.out; omega)]
  · have hL : ∀ {v : Value} {xs : List Tk}, TkRow w v xs → ∃ o c, v = .slice o xs.length c ∧ xs.length ≤ 9223372036854775807 := by
      intro v xs h
      rcases h with ⟨rfl, rfl⟩ | ⟨g, cap, rfl, h1, h2, _⟩
      · exact ⟨none, 0, rfl, by simp⟩
      · exact ⟨_, cap, rfl, by unfold maxLen at h2; omega⟩
    obtain ⟨o1, c1, rfl, m1⟩ := hL ha
    obtain ⟨o2, c2, rfl, m2⟩ := hL hb
    have hd : ((ts.length : Int) != us.length) = true := by simp; omega
    clear ha hb
    go_enter Try.func13, Try.ntmps13
    go_wp2
    go_ret
    exact ⟨ret_bool (by symm; rw [decide_eq_false_iff_not]; rintro rfl; exact hne rfl), 0, rfl⟩
end Go.Proofs.Ytfcgegglipmdlaa
