import Derived.Test.YtkoopbaopidpnaaLockFr
/-
  LockFull.
-/
namespace Go.Proofs.Ytkoopbaopidpnaa
open Go.RowKit
/-- the table behind i Takes: page j is held by j % n in mode Reads -/
def fullP (n : Nat) (ms : List Nat) : List (Int × (Nat × List (Int × Int))) := (List.range ms.length).map fun (j : Nat) => ((j : Int), (ms.getD j 0, [(((j % n : Nat) : Int), 1)]))
def fullT (n : Nat) (ms : List Nat) : LT := ⟨fullP n ms, [], ms.length⟩
theorem fullP_snoc (n : Nat) (ms : List Nat) (m : Nat) : fullP n (ms ++ [m]) = fullP n ms ++ [((ms.length : Int), (m, [(((ms.length % n : Nat) : Int), 1)]))] := by
  unfold fullP
  rw [List.length_append, List.length_singleton, List.range_succ, List.map_append]
  congr 1
  · apply List.map_congr_left
    intro j hj
    rw [List.mem_range] at hj
    rw [List.getD_eq_getElem?_getD, List.getD_eq_getElem?_getD, List.getElem?_append_left hj]
  · simp
theorem full_none (n : Nat) (ms : List Nat) (p : Int) (h : (ms.length : Int) ≤ p) : aget (fullP n ms) p = none := by
  apply aget_none
  unfold fullP
  simp only [List.map_map, List.mem_map, List.mem_range, not_exists, not_and, Function.comp]
  intro j hj e
  have : (j : Int) = p := e
  omega
theorem full_step (n : Nat) (ms : List Nat) (m : Nat) (h : ms.length < 256) : (fullT n ms).take ((ms.length % n : Nat) : Int) ms.length 1 m = (0, fullT n (ms ++ [m])) := by
  have hn := full_none n ms ms.length (by omega)
  have hh : (fullT n ms).holders ms.length = [] := by unfold LT.holders fullT; rw [hn]; rfl
  rw [take_free _ m hh (by omega) (by omega), if_neg (by unfold fullT; simp only; omega)]
  have hz : ((fullT n ms).unwait ((ms.length % n : Nat) : Int)).holds ((ms.length % n : Nat) : Int) ms.length = 0 := by unfold LT.holds; rw [show ((fullT n ms).unwait ((ms.length % n : Nat) : Int)).holders ms.length = (fullT n ms).holders ms.length from rfl, hh]; rfl
  unfold LT.set
  rw [if_pos hz]
  have hp : ((fullT n ms).unwait ((ms.length % n : Nat) : Int)).pages = fullP n ms := rfl
  have hc : ((fullT n ms).unwait ((ms.length % n : Nat) : Int)).count = ms.length := rfl
  have hw : ((fullT n ms).unwait ((ms.length % n : Nat) : Int)).waits = [] := rfl
  rw [hp, hn, hc, hw]
  simp only
  rw [aput_new _ (not_mem_of_aget hn)]
  unfold fullT
  rw [fullP_snoc, List.length_append]
  rfl
theorem txns_of (a : Int) : ∃ n : Nat, 1 ≤ n ∧ n ≤ 20 ∧ wrap64 (1 + wrap64 ((IntKind.u64.wrap a).tmod 20)) = (n : Int) := by
  have h0 : 0 ≤ IntKind.u64.wrap a := by
    show 0 ≤ a % (2 ^ IntKind.u64.bits : Int)
    exact Int.emod_nonneg _ (by decide)
  rw [Int.tmod_eq_emod_of_nonneg h0]
  generalize IntKind.u64.wrap a = x at *
  refine ⟨(1 + x % 20).toNat, by omega, by omega, ?_⟩
  unfold wrap64; omega
theorem full_fit (n : Nat) (ms : List Nat) (h : ms.length ≤ 256) : (fullT n ms).fit := by
  refine ⟨fun x hx => ?_, by simp [fullT], ?_, ?_, ?_⟩
  · obtain ⟨j, _, rfl⟩ := List.mem_map.1 (show x ∈ (List.range ms.length).map _ from hx); simp
  · show (fullP n ms).length ≤ _; unfold fullP; simp; omega
  · show -1000000 ≤ (ms.length : Int); omega
  · show (ms.length : Int) ≤ 1000000; omega
/-- the table behind the change of page 0's lock -/
def fullP2 (n : Nat) (ms : List Nat) : List (Int × (Nat × List (Int × Int))) := (List.range 256).map fun (j : Nat) => ((j : Int), (ms.getD j 0, [(((j % n : Nat) : Int), if j = 0 then 3 else 1)]))
def fullT2 (n : Nat) (ms : List Nat) : LT := ⟨fullP2 n ms, [], 256⟩
theorem full_two (n : Nat) (ms : List Nat) (h : ms.length = 256) : ∀ m, (fullT n ms).take 0 0 3 m = (0, fullT2 n ms) := by
  intro m
  have hP : fullP n ms = ((0 : Int), (ms.getD 0 0, [((0 : Int), (1 : Int))])) :: ((List.range 255).map fun (j : Nat) => (((j + 1 : Nat) : Int), (ms.getD (j + 1) 0, [((((j + 1) % n : Nat) : Int), (1 : Int))]))) := by
    unfold fullP
    rw [h, show 256 = 255 + 1 from rfl, List.range_succ_eq_map, List.map_cons, List.map_map]
    simp [Function.comp_def]
  have hP2 : fullP2 n ms = ((0 : Int), (ms.getD 0 0, [((0 : Int), (3 : Int))])) :: ((List.range 255).map fun (j : Nat) => (((j + 1 : Nat) : Int), (ms.getD (j + 1) 0, [((((j + 1) % n : Nat) : Int), (1 : Int))]))) := by
    unfold fullP2
    rw [show 256 = 255 + 1 from rfl, List.range_succ_eq_map, List.map_cons, List.map_map]
    simp [Function.comp_def]
  have hg : aget (fullP n ms) 0 = some (ms.getD 0 0, [((0 : Int), (1 : Int))]) := by rw [hP]; rfl
  have hp : ∀ v, aput (fullP n ms) 0 v = (0, v) :: (fullP2 n ms).tail := by
    intro v
    rw [hP, hP2]
    unfold aput
    rw [if_pos (by simp), List.map_cons, List.tail_cons]
    rw [if_pos rfl, List.map_map]
    refine congrArg (List.cons _) (List.map_congr_left fun j _ => ?_)
    simp only [Function.comp]
    rw [if_neg (by omega)]
  have hh : ((fullT n ms).unwait 0).holds 0 0 = 1 := by
    unfold LT.holds LT.holders
    rw [show ((fullT n ms).unwait 0).pages = fullP n ms from rfl, hg]; rfl
  have ho : ((fullT n ms).unwait 0).holders 0 = [((0 : Int), (1 : Int))] := by
    unfold LT.holders
    rw [show ((fullT n ms).unwait 0).pages = fullP n ms from rfl, hg]; rfl
  unfold LT.take
  rw [if_neg (by omega)]
  simp only [hh]
  rw [show joinI 1 3 = 3 from by decide, if_neg (by decide), if_neg (by simp [LT.others, oth, ho]), if_neg (by simp)]
  unfold LT.set
  rw [show ((fullT n ms).unwait 0).pages = fullP n ms from rfl, hg, hh]
  simp only [show ((fullT n ms).unwait 0).waits = [] from rfl, show ((fullT n ms).unwait 0).count = (ms.length : Int) from rfl, hp]
  unfold fullT2
  rw [h]
  congr 2
theorem mem_full2 {n : Nat} {ms : List Nat} {x : Int × (Nat × List (Int × Int))} (h : x ∈ (fullT2 n ms).pages) : ∃ j : Nat, j < 256 ∧ x = ((j : Int), (ms.getD j 0, [(((j % n : Nat) : Int), if j = 0 then (3 : Int) else 1)])) := by
  have h' : x ∈ fullP2 n ms := h
  unfold fullP2 at h'
  obtain ⟨j, hj, e⟩ := List.mem_map.1 h'
  exact ⟨j, List.mem_range.1 hj, e.symm⟩
theorem full_fit2 (n : Nat) (ms : List Nat) : (fullT2 n ms).fit := by
  refine ⟨fun x hx => ?_, by simp [fullT2], ?_, ?_, ?_⟩
  · obtain ⟨j, _, rfl⟩ := mem_full2 hx; simp
  · show (fullP2 n ms).length ≤ _; unfold fullP2; rw [List.length_map, List.length_range]; omega
  · show -1000000 ≤ (256 : Int); omega
  · show (256 : Int) ≤ 1000000; omega
theorem proc_len {txn : Int} {x y : Pg} (e : proc txn x = some y) : y.2.2.length ≤ x.2.2.length := by
  unfold proc at e
  split at e
  · cases e; exact Nat.le_refl _
  · split at e
    · cases e
    · cases e; exact List.length_filter_le _ _
theorem full_fit3 (n : Nat) (ms : List Nat) : ((fullT2 n ms).release 0).fit := by
  have hP : (fullT2 n ms).pages.length = 256 := by show (fullP2 n ms).length = 256; unfold fullP2; rw [List.length_map, List.length_range]
  have hl : (fullT2 n ms).locksOf 0 ≤ 256 := by unfold LT.locksOf; rw [← hP]; exact List.length_filter_le _ _
  refine ⟨fun x hx => ?_, by simp [LT.release, fullT2, adel], ?_, ?_, ?_⟩
  · obtain ⟨y, hy, e⟩ := List.mem_filterMap.1 (show x ∈ (fullT2 n ms).pages.filterMap (proc 0) from hx)
    obtain ⟨j, _, rfl⟩ := mem_full2 hy
    have := proc_len e
    simp only [List.length_cons, List.length_nil] at this; omega
  · have := List.length_filterMap_le (proc 0) (fullT2 n ms).pages
    show ((fullT2 n ms).pages.filterMap (proc 0)).length ≤ _; omega
  · show -1000000 ≤ (256 : Int) - ((fullT2 n ms).locksOf 0 : Nat); omega
  · show (256 : Int) - ((fullT2 n ms).locksOf 0 : Nat) ≤ 1000000; omega
theorem full_cnt : ∀ n : Fin 21, n ≠ 0 → ((List.range 256).filter fun j => j % n.1 == 0).length = (256 + n.1 - 1) / n.1 := by decide +kernel
theorem full_locks (n : Nat) (ms : List Nat) (h1 : 1 ≤ n) (h2 : n ≤ 20) : (fullT2 n ms).locksOf 0 = (256 + n - 1) / n := by
  unfold LT.locksOf
  rw [show (fullT2 n ms).pages = fullP2 n ms from rfl]
  unfold fullP2
  rw [List.filter_map, List.length_map]
  rw [← full_cnt ⟨n, by omega⟩ (by intro e; have := congrArg Fin.val e; simp at this; omega)]
  congr 1
  apply List.filter_congr
  intro j _
  simp only [Function.comp, modeIn, aget]
  generalize j % n = r
  cases r with
  | zero => by_cases h0 : j = 0 <;> simp [h0]
  | succ r =>
    have : ¬ ((r : Int) + 1 = 0) := by omega
    simp [this]
theorem full_end (n : Nat) (ms : List Nat) (h1 : 1 ≤ n) (h2 : n ≤ 20) (m : Nat) : (((fullT2 n ms).release 0).take 5 999 2 m).1 = 0 := by
  have hp : 1 ≤ (256 + n - 1) / n := by rw [Nat.le_div_iff_mul_le (by omega)]; omega
  have hh : ((fullT2 n ms).release 0).holders 999 = [] := by
    unfold LT.holders
    rw [aget_none (k := 999)]
    · rfl
    · intro hm
      obtain ⟨y, hy, e⟩ := List.mem_map.1 hm
      obtain ⟨x, hx, e2⟩ := List.mem_filterMap.1 (show y ∈ (fullT2 n ms).pages.filterMap (proc 0) from hy)
      have := (proc_key e2).1
      obtain ⟨j, hj, rfl⟩ := mem_full2 hx
      simp only at this
      omega
  rw [take_free _ m hh (by omega) (by omega), if_neg]
  show ¬ (256 : Int) ≤ (256 : Int) - ((fullT2 n ms).locksOf 0 : Nat)
  rw [full_locks n ms h1 h2]
  omega
set_option maxRecDepth 100000 in
set_option maxHeartbeats 4000000 in
theorem lockFull_walk (a : Int) (w : World) (_ : (Lit.int .i64 a).wf = true) : Calls Try.prog 5 #[.int .i64 a] w fun e w' => e = .returned (.bool true) ∧ Below w.heap.size w w' := by
  have hal := alive_any w
  have e15 : errV 15 = .iface 32 (.int .i64 15) := rfl
  have q15 : ∀ w, (binOp .neq 30 (.iface 32 (.int .i64 15)) (.iface 32 (.int .i64 15))).run Try.prog w = .ok (.bool false) w := fun w => errNeK w 15 15 (by decide)
  obtain ⟨n, hn1, hn2, hnv⟩ := txns_of a
  go_enter Try.func5, Try.ntmps5
  go_wp2_with (first
    | (go_at_call 10; (with_reducible refine hal.mono ?_); rintro _ w1 ⟨rfl, hb1⟩; clear hal; have hn := new_tb w w1 hb1)
    | (go_at_call 11; (with_reducible refine hn.mono ?_); rintro _ w2 ⟨p, mp, mw, rfl, h2, _, _⟩; clear hn))
  try rw [hnv]
  clear hnv
  go_loopw [4] (fun i wr => ∃ ms : List Nat, ms.length ≤ 256 ∧ i = .int .i64 ms.length ∧ TB w wr p mp mw (fullT n ms)) (fun i _ => 256 - (intOf i).toNat)
  case atStart => exact ⟨[], by simp, rfl, h2⟩
  case round =>
    clear h2
    obtain ⟨ms, hms, rfl, ht⟩ := hrel
    by_cases hlt : ms.length < 256
    · have hc := takes_to (k := 0) (t' := fun m => fullT n (ms ++ [m])) ht (full_fit n ms hms) (fun m => full_step n ms m hlt)
      rw [show (((ms.length % n : Nat) : Int)) = (ms.length : Int) % (n : Int) from Int.natCast_emod _ _] at hc
      go_wp2_with (go_at_call 13; (with_reducible refine hc.mono ?_); rintro _ w4 ⟨m, rfl, h4⟩; clear hc; rw [errV_zero])
      go_roundw
      case rel => exact ⟨ms ++ [m], by simp; omega, by simp, h4⟩
      case measure => simp [intOf]; omega
    · have hl : ms.length = 256 := by omega
      have h15 : ∀ m, (fullT n ms).take 0 999 1 m = (15, fullT n ms) := fun m => by
        have hh : (fullT n ms).holders 999 = [] := by unfold LT.holders; rw [show (fullT n ms).pages = fullP n ms from rfl, full_none n ms 999 (by omega)]; rfl
        rw [take_free _ m hh (by omega) (by omega), if_pos (by show (256 : Int) ≤ (ms.length : Int); omega)]; rfl
      have hc1 := takes_to (k := 15) (t' := fun _ => fullT n ms) ht (full_fit n ms hms) h15
      have hlk := full_locks n ms hn1 hn2
      have hend := full_end n ms hn1 hn2
      have hlv : (((256 + n - 1) / n : Nat) : Int) = (256 + (n : Int) - 1) / (n : Int) := by
        rw [Int.natCast_ediv]; congr 1; omega
      have Htwo := Lib.hid (full_two n ms hl)
      have Hlk := Lib.hid hlk
      have Hend := Lib.hid hend
      have Hlv := Lib.hid hlv
      clear hlk hend hlv ht hl h15
      go_wp2_with (first
        | (go_at_call 13; (with_reducible refine hc1.mono ?_); rintro _ w4 ⟨m, rfl, h4⟩; clear hc1; rw [e15]; have hc2 := takes_to (k := 0) (t' := fun _ => fullT2 n ms) h4 (full_fit n ms hms) Htwo.out)
        | (go_at_call 13; (with_reducible refine hc2.mono ?_); rintro _ w5 ⟨m2, rfl, h5⟩; clear hc2 h4; rw [errV_zero]; (have hln : Calls Try.prog 16 #[.pointer (some ⟨p, 0, none⟩)] w5 (fun e w' => e = .returned (.int .i64 256) ∧ w5 = w') := len_tb h5); have hrl := release_tb 0 h5 (full_fit2 n ms); rw [Hlk.out, Hlv.out] at hrl)
        | (go_at_call 16; (with_reducible refine hln.mono ?_); rintro _ _ ⟨rfl, rfl⟩; clear hln)
        | (go_at_call 12; (with_reducible refine hrl.mono ?_); rintro _ w6 ⟨rfl, h6⟩; clear hrl h5; have hc3 := take_tb 5 999 2 h6 (full_fit3 n ms))
        | (go_at_call 13; (with_reducible refine hc3.mono ?_); rintro _ w7 ⟨m3, rfl, h7⟩; clear hc3; have hb7 := h7.bel; clear h7 h6; rw [Hend.out m3, errV_zero]))
      go_ret
      exact ⟨rfl, hb7⟩
end Go.Proofs.Ytkoopbaopidpnaa
