import Derived.Test.YtfcgegglipmdlaaScanP
import Derived.Test.YtfcgegglipmdlaaScanN
import Derived.Test.YtfcgegglipmdlaaBase
namespace Go.Proofs.Ytfcgegglipmdlaa
open Go.RowKit
theorem idx_any (i : Nat) (hi : i < 3) (w : World) : (Instr.index 37 (.agg #[.string ⟨#[32]⟩, .string ⟨#[9]⟩, .string ⟨#[32, 35, 120, 10]⟩]) (.int .u8 i)).run Try.prog w = .ok (.string (if i = 0 then ⟨#[32]⟩ else if i = 1 then ⟨#[9]⟩ else ⟨#[32, 35, 120, 10]⟩)) w := by
  obtain rfl | rfl | rfl : i = 0 ∨ i = 1 ∨ i = 2 := by omega
  · kernel_rfl
  · kernel_rfl
  · kernel_rfl
theorem toks_480 (S : List UInt8) (ts : List Tk) (h : toksT S = .ok ts) : S.length ≤ 480 := by
  unfold toksT at h
  split at h
  · cases h
  · omega
theorem pl_bounds (S : List UInt8) (k : Nat) (ts : List Tk) (h : PL S k ts) : ts.length + k ≤ S.length + 1 ∧ ∀ i (hi : i < ts.length), ts[i].text.length ≤ S.length := by
  induction ts generalizing k with
  | nil => exact h.elim
  | cons t ts ih =>
    obtain ⟨p, h1, h2, h3, _, _, h6⟩ := h
    rcases h6 with ⟨rfl, _, _, h7⟩ | ⟨_, _, h8, h7⟩
    · refine ⟨by simp; omega, fun i hi => ?_⟩
      obtain rfl : i = 0 := by simp at hi; omega
      simp; omega
    · obtain ⟨e1, e2⟩ := ih _ h7
      have : 0 < t.text.length := List.length_pos_iff.2 h8
      refine ⟨by simp; omega, fun i hi => ?_⟩
      cases i with
      | zero => simp; omega
      | succ i => simpa using e2 i (by simpa using hi)
theorem joinL_step (bf : Nat → List UInt8) (j : Nat) (ts : List Tk) (h : j < ts.length) : joinL bf j (ts.drop j) = ts[j].text ++ bf j ++ joinL bf (j + 1) (ts.drop (j + 1)) := by
  rw [List.drop_eq_getElem_cons h]; rfl
theorem cell_alloc {w : World} {a : Addr} {v : Value} (h : w.cell? a = some v) (o : Obj) : (w.alloc o).cell? a = some v :=
  (World.cell?_of_block (Below.heap_alloc w o _ (World.block_lt_of_cell? w a h))).trans h
theorem app_arr (a b : List UInt8) : (⟨a.toArray⟩ : ByteArray) ++ ⟨b.toArray⟩ = ⟨(a ++ b).toArray⟩ := by
  apply ByteArray.ext; simp [ByteArray.data_append]
def blankOf (len : Nat) (z : List Int) (i : Nat) : List UInt8 :=
  if i < len then (if (z.getD i 0).toNat % 3 = 0 then [32] else if (z.getD i 0).toNat % 3 = 1 then [9] else [32, 35, 120, 10]) else [32]
theorem blankOf_isB (len : Nat) (z : List Int) (i : Nat) : isB (blankOf len z i) := by
  unfold blankOf isB; (repeat' split) <;> simp
theorem blankOf_len (len : Nat) (z : List Int) (i : Nat) : (blankOf len z i).length ≤ 4 := by
  unfold blankOf; (repeat' split) <;> simp
set_option maxRecDepth 100000 in
set_option maxHeartbeats 4000000 in
theorem scanJoins_ok (s : ByteArray) (a1 : Option Addr) (len1 cap1 : Nat) (z1 : List Int) (ts : List Tk) (w : World) (hs : s.size ≤ 140737488351232) (w1 : IsRow .u8 w a1 len1 cap1 z1) (y1 : len1 * 1 ≤ 140737488351232) (ht : toksT s.data.toList = .ok ts) :
    Calls Try.prog 5 #[.string s, .slice a1 len1 cap1] w fun e w' => e = .returned (.bool true) ∧ Below w.heap.size w w' := by
  have hm : s.size ≤ maxLen := by unfold maxLen; omega
  have hl : Hid (s.data.toList.length = s.size) := Lib.hid (by simp)
  have hpl := pl_all _ _ ht
  have h0 := tks_lt _ _ ht
  have h480 := toks_480 _ _ ht
  obtain ⟨hcnt, htx⟩ := pl_bounds _ _ _ hpl
  have Htx := Lib.hid htx; clear htx hpl
  have Ht := Lib.hid ht; clear ht
  have Hidx := Lib.hid idx_any
  go_enter Try.func5, Try.ntmps5
  go_wp2_with fail
  refine (alive_any _).mono ?_
  rintro _ wa ⟨rfl, hB1⟩
  have hz1 := hB1.size
  go_wp2_with fail
  refine (tokens_ok _ ts _ Ht.out hm).mono ?_
  rintro _ w2 ⟨sv, rfl, hB2, hown2⟩
  have hz2 := hB2.size
  have hr2 := tkRow_of_owns hown2
  clear hown2
  obtain ⟨g, cap, rfl, hc, hcm, hcell⟩ := tkRow_slice hr2 h0
  unfold maxLen at hcm
  have Hcell := Lib.hid hcell; clear hcell
  have Hr2 := Lib.hid hr2; clear hr2
  have hBz : Hid (Below w.heap.size w w2) := Lib.hid (hB1.trans (hB2.mono hz1))
  clear hB1 hB2
  go_wp2
  go_loopw [7, 24] (fun v i wr => ∃ (j : Nat) (L : List UInt8), j ≤ ts.length ∧ v = .string ⟨L.toArray⟩ ∧ i = .int .i64 j ∧ L.length ≤ 500 * j ∧ Below w2.heap.size w2 wr ∧ Hid (joinL (blankOf len1 z1) 0 ts = L ++ joinL (blankOf len1 z1) j (ts.drop j))) (fun _ i _ => ts.length - (intOf i).toNat)
  case atStart => exact ⟨0, [], Nat.zero_le _, rfl, rfl, by simp, Below.refl _ _, Lib.hid (by simp)⟩
  case round =>
    obtain ⟨j, L, hj, rfl, rfl, hL, hBr, HJ⟩ := hrel
    by_cases hlt : j < ts.length
    · obtain ⟨c1, c2, c3⟩ := Hcell.out j hlt
      have d1 := cell_below c1 hBr
      have d2 := cell_below c2 hBr
      have d3 := cell_below c3 hBr
      clear c1 c2 c3
      have hx := Htx.out j hlt
      have hstep := Lib.hid (joinL_step (blankOf len1 z1) j ts hlt)
      have hbl := blankOf_len len1 z1 j
      generalize htj : ts[j] = t at d1 d2 d3 hx hstep
      clear htj
      obtain ⟨c, x, q⟩ := t
      simp only at d1 d2 d3 hx hstep
      by_cases hj1 : j < len1
      · rcases w1 with ⟨_, rfl, _⟩ | ⟨a, rfl, hl1, hcm1, hz, hcz, hwf⟩
        · omega
        · have e1 := hcz j (by omega)
          have e2 := cell_below (cell_below e1 hBz.out) hBr
          clear e1 hcz
          unfold maxLen at hcm1
          have hz0 : 0 ≤ z1.getD j 0 ∧ z1.getD j 0 ≤ 255 := by
            have hmem : z1.getD j 0 ∈ z1 := by
              rw [List.getD, List.getElem?_eq_getElem (by omega)]; exact List.getElem_mem (by omega)
            simpa [Lit.wf, IntKind.min, IntKind.max, IntKind.signed, IntKind.bits] using hwf _ hmem
          obtain ⟨q1, hq1⟩ : ∃ q : Nat, z1.getD j 0 = (q : Int) := ⟨(z1.getD j 0).toNat, by omega⟩
          have hbk : Hid (blankOf len1 z1 j = if q1 % 3 = 0 then [32] else if q1 % 3 = 1 then [9] else [32, 35, 120, 10]) := Lib.hid (by
            unfold blankOf; rw [if_pos hj1, hq1, Int.toNat_natCast])
          rw [hq1] at e2 hz0
          have hix : ∀ w : World, (Instr.index 37 (.agg #[.string ⟨#[32]⟩, .string ⟨#[9]⟩, .string ⟨#[32, 35, 120, 10]⟩]) (.int .u8 ((q1 : Int) % 3))).run Try.prog w = .ok (.string (if q1 % 3 = 0 then ⟨#[32]⟩ else if q1 % 3 = 1 then ⟨#[9]⟩ else ⟨#[32, 35, 120, 10]⟩)) w := fun w => by
            have := Hidx.out (q1 % 3) (by omega) w
            simpa using this
          have e3 := fun o => cell_alloc e2 o
          clear hwf hq1
          have hd : decide ((j : Int) < len1) = true := by (simp; omega)
          have h3 : q1 % 3 = 0 ∨ q1 % 3 = 1 ∨ q1 % 3 = 2 := by omega
          rcases h3 with h3 | h3 | h3
          all_goals
            rw [h3] at hbk
            simp only [h3, if_true, if_false, Nat.succ_ne_zero, reduceCtorEq, Nat.reduceEqDiff] at hix hbk
            clear h3
            go_wp2
            go_roundw
            case rel => exact ⟨j + 1, _, by omega, by rw [app_arr, app_arr], by go_num, by simp; omega, hBr.alloc hBr.size _, Lib.hid (by rw [HJ.out, hstep.out, hbk.out]; simp [List.append_assoc])⟩
            case measure => simp [intOf]; omega
      · have hd : decide ((j : Int) < len1) = false := by (simp; omega)
        have hbk : Hid (blankOf len1 z1 j = [32]) := Lib.hid (by unfold blankOf; rw [if_neg hj1])
        go_wp2
        go_roundw
        case rel => exact ⟨j + 1, L ++ (x ++ [32]), by omega, by rw [app_arr, app_arr], by go_num, by simp; omega, hBr.alloc hBr.size _, Lib.hid (by rw [HJ.out, hstep.out, hbk.out]; simp [List.append_assoc])⟩
        case measure => simp [intOf]; omega
    · obtain rfl : j = ts.length := by omega
      have hJ : joinL (blankOf len1 z1) 0 ts = L := by have := HJ.out; rw [List.drop_length] at this; simpa [joinL] using this
      by_cases h4 : 480 < L.length
      · go_wp2
        go_ret
        exact ⟨rfl, hBz.out.trans (hBr.mono hBz.out.size)⟩
      · obtain ⟨us, hu1, hu2⟩ := join_all _ (blankOf len1 z1) (blankOf_isB len1 z1) ts Ht.out (by rw [hJ]; omega)
        rw [hJ] at hu1
        have hul : us.length = ts.length := by have := congrArg List.length hu2; simpa using this
        have Hu1 := Lib.hid hu1; have Hu2 := Lib.hid hu2
        clear hu1 hu2 hJ
        go_wp2_with fail
        refine (tokens_ok _ us _ (by exact Hu1.out) (by simp [ByteArray.size, maxLen]; omega)).mono ?_
        rintro _ w3 ⟨tv, rfl, hB3, hown3⟩
        have hz3 := hB3.size
        have hr3 := tkRow_of_owns hown3
        clear hown3
        obtain ⟨g3, cap3, rfl, hc3, hcm3, hcell3⟩ := tkRow_slice hr3 (by rw [hul]; exact h0)
        unfold maxLen at hcm3
        have Hcell3 := Lib.hid hcell3; clear hcell3 hr3
        rw [hul] at hc3 ⊢
        have Hul := Lib.hid hul
        clear hul
        have hBr2 : Hid (Below w2.heap.size w2 w3) := Lib.hid (hBr.trans (hB3.mono hBr.size))
        have hBz3 : Hid (Below w.heap.size w w3) := Lib.hid (hBz.out.trans (hBr2.out.mono hBz.out.size))
        clear hB3 hBr
        go_wp2
        go_loopw [66] (fun i wr => ∃ (j n : Nat), j ≤ ts.length ∧ i = .int .i64 j ∧ wr = w3.drewN n) (fun i _ => ts.length - (intOf i).toNat)
        case atStart => exact ⟨0, 0, Nat.zero_le _, rfl, rfl⟩
        case round =>
          obtain ⟨j, n, hj, rfl, rfl⟩ := hrel
          by_cases hlt : j < ts.length
          · obtain ⟨c1, c2, c3⟩ := Hcell.out j hlt
            have d1 := cell_below c1 hBr2.out
            have d2 := cell_below c2 hBr2.out
            have hlt3 : j < us.length := by have := Hul.out; omega
            obtain ⟨e1, e2, e3⟩ := Hcell3.out j hlt3
            have hkt : us[j].kind = ts[j].kind ∧ us[j].text = ts[j].text := by
              have h1 : (us.map (fun t => (t.kind, t.text)))[j]? = (ts.map (fun t => (t.kind, t.text)))[j]? := by rw [Hu2.out]
              simp only [List.getElem?_map, List.getElem?_eq_getElem hlt, List.getElem?_eq_getElem hlt3, Option.map_some, Option.some.injEq, Prod.mk.injEq] at h1
              exact h1
            rw [hkt.1] at e1
            rw [hkt.2] at e2
            clear c1 c2 c3 e3 hkt hlt3
            generalize ts[j].kind = c at d1 e1
            generalize ts[j].text = x at d2 e2
            go_wp2
            go_quiet (fail)
            go_wp2
            go_roundw
            case rel => exact ⟨j + 1, _, by omega, by go_num, rfl⟩
            case measure => simp [intOf]; omega
          · go_wp2
            go_ret
            exact ⟨rfl, below_drewN _ hBz3.out⟩
theorem scanJoins_err (s : ByteArray) (a1 : Option Addr) (len1 cap1 : Nat) (c : Int) (k : Nat) (w : World) (hs : s.size ≤ 140737488351232) (ht : toksT s.data.toList = .error (c, k)) :
    Calls Try.prog 5 #[.string s, .slice a1 len1 cap1] w fun e w' => e = .returned (.bool true) ∧ Below w.heap.size w w' := by
  have hm : s.size ≤ maxLen := by unfold maxLen; omega
  have Ht := Lib.hid ht; clear ht
  go_enter Try.func5, Try.ntmps5
  go_wp2_with fail
  refine (alive_any _).mono ?_
  rintro _ w1 ⟨rfl, hB1⟩
  have hz1 := hB1.size
  go_wp2_with fail
  refine (tokens_err _ c k _ Ht.out hm).mono ?_
  rintro _ w2 ⟨b, rfl, hB2, hb, hf⟩
  have Hf := Lib.hid hf; clear hf
  go_wp2
  go_ret
  exact ⟨rfl, hB1.trans (hB2.mono hz1)⟩
theorem scanJoins_walk (s : ByteArray) (a1 : Option Addr) (len1 cap1 : Nat) (z1 : List Int) (w : World) (hs : s.size ≤ 140737488351232) (w1 : IsRow .u8 w a1 len1 cap1 z1) (y1 : len1 * 1 ≤ 140737488351232) :
    Calls Try.prog 5 #[.string s, .slice a1 len1 cap1] w fun e w' => e = .returned (.bool true) ∧ Below w.heap.size w w' := by
  cases ht : toksT s.data.toList with
  | ok ts => exact scanJoins_ok s a1 len1 cap1 z1 ts w hs w1 y1 ht
  | error e => exact scanJoins_err s a1 len1 cap1 e.1 e.2 w hs ht
end Go.Proofs.Ytfcgegglipmdlaa
