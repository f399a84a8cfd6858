import Derived.Test.YtfcgegglipmdlaaScanN
namespace Go.Proofs.Ytfcgegglipmdlaa
open Go.RowKit
def dg (d : Nat) : UInt8 := UInt8.ofNat (48 + d)
theorem dg_nat (d : Nat) (h : d < 10) : (dg d).toNat = 48 + d := by unfold dg; simp; omega
def decR (m : Nat) (acc : List UInt8) : List UInt8 := if m < 10 then dg m :: acc else decR (m / 10) (dg (m % 10) :: acc)
termination_by m
decreasing_by omega
theorem decR_small (m : Nat) (acc : List UInt8) (h : m < 10) : decR m acc = dg m :: acc := by rw [decR, if_pos h]
theorem decR_big (m : Nat) (acc : List UInt8) (h : ¬ m < 10) : decR m acc = decR (m / 10) (dg (m % 10) :: acc) := by rw [decR, if_neg h]
def valL : List UInt8 → Nat
  | [] => 0
  | c :: l => (c.toNat - 48) * 10 ^ l.length + valL l
def digs (l : List UInt8) : Prop := ∀ c ∈ l, 48 ≤ c.toNat ∧ c.toNat ≤ 57
theorem digs_dg (d : Nat) (h : d < 10) (l : List UInt8) (hl : digs l) : digs (dg d :: l) := by
  intro c hc
  rcases List.mem_cons.1 hc with rfl | hc
  · rw [dg_nat d h]; omega
  · exact hl c hc
theorem decR_all (m : Nat) : ∀ acc, digs acc → digs (decR m acc) ∧ valL (decR m acc) = m * 10 ^ acc.length + valL acc ∧ (decR m acc ≠ []) ∧ (0 < m → ∃ c l, decR m acc = c :: l ∧ 49 ≤ c.toNat) := by
  induction m using Nat.strongRecOn with
  | _ m ih =>
    intro acc ha
    by_cases h : m < 10
    · rw [decR_small _ _ h]
      refine ⟨digs_dg m h acc ha, by simp only [valL, dg_nat m h]; rw [Nat.add_sub_cancel_left], by simp, fun hm => ⟨_, _, rfl, by rw [dg_nat m h]; omega⟩⟩
    · rw [decR_big _ _ h]
      obtain ⟨h1, h2, h3, h4⟩ := ih (m / 10) (by omega) (dg (m % 10) :: acc) (digs_dg _ (by omega) _ ha)
      refine ⟨h1, ?_, h3, fun _ => h4 (by omega)⟩
      rw [h2]; simp only [valL, dg_nat (m % 10) (by omega), List.length_cons, Nat.pow_succ]
      rw [Nat.add_sub_cancel_left, ← Nat.add_assoc]; congr 1
      rw [Nat.mul_comm (10 ^ acc.length) 10, ← Nat.mul_assoc, ← Nat.add_mul]; congr 1; omega
theorem val_lt (l : List UInt8) (h : digs l) : valL l < 10 ^ l.length := by
  induction l with
  | nil => simp [valL]
  | cons c l ih =>
    have h1 := ih (fun x hx => h x (List.mem_cons_of_mem _ hx))
    have h2 := h c (List.mem_cons_self ..)
    simp only [valL, List.length_cons, Nat.pow_succ]
    have : (c.toNat - 48) * 10 ^ l.length ≤ 9 * 10 ^ l.length := Nat.mul_le_mul_right _ (by omega)
    omega
theorem le_digs (a b : List UInt8) (hl : a.length = b.length) (ha : digs a) (hb : digs b) (h : valL a ≤ valL b) : leB a b = true := by
  induction a generalizing b with
  | nil => cases b with
    | nil => rfl
    | cons y b => simp at hl
  | cons x a ih =>
    cases b with
    | nil => simp at hl
    | cons y b =>
      have hl' : a.length = b.length := by simpa using hl
      have ha' : digs a := fun z hz => ha z (List.mem_cons_of_mem _ hz)
      have hb' : digs b := fun z hz => hb z (List.mem_cons_of_mem _ hz)
      have hx := ha x (List.mem_cons_self ..)
      have hy := hb y (List.mem_cons_self ..)
      have vb := val_lt b hb'
      simp only [valL, hl'] at h
      rcases Nat.lt_trichotomy x.toNat y.toNat with hlt | heq | hgt
      · have : x < y := UInt8.lt_iff_toNat_lt.2 hlt
        unfold leB Op.bytesLess; simp [this]
      · have e : x = y := UInt8.toNat_inj.1 heq
        subst e
        have := ih b hl' ha' hb' (by omega)
        unfold leB at this ⊢
        unfold Op.bytesLess
        simp at this ⊢
        rcases this with h | h
        · exact .inl h
        · exact .inr h
      · exfalso
        have : (y.toNat - 48 + 1) * 10 ^ b.length ≤ (x.toNat - 48) * 10 ^ b.length := Nat.mul_le_mul_right _ (by omega)
        rw [Nat.add_mul] at this; omega
theorem great_digs : digs greatest := by unfold digs greatest; decide
theorem great_val : valL greatest = 9223372036854775807 := by decide +kernel
theorem runN_digs (l : List UInt8) (h : digs l) : runN digitB l = l.length := by
  induction l with
  | nil => rfl
  | cons c l ih =>
    have h2 := h c (List.mem_cons_self ..)
    have : digitB c.toNat = true := by unfold digitB; simp; omega
    simp only [runN, this, if_true, List.length_cons]; rw [ih fun x hx => h x (List.mem_cons_of_mem _ hx)]
theorem toks_digs (c : UInt8) (l : List UInt8) (h : digs (c :: l)) (hn : l.length < 480) :
    toksT (c :: l) = if goodB (c :: l) = true then .ok [⟨2, c :: l, 0⟩, ⟨4, [], ((c :: l).length : Nat)⟩] else .error (7, 0) := by
  have hc := h c (List.mem_cons_self ..)
  have hs : skipN false (c :: l) = 0 := by simp only [skipN]; rw [if_neg (by omega), if_neg (by omega)]
  have hl : letterB c.toNat = false := by unfold letterB; simp; omega
  have hd : digitB c.toNat = true := by unfold digitB; simp; omega
  have hr := runN_digs _ h
  have ht : tokN (c :: l) = if goodB (c :: l) = true then (2, (c :: l).length) else (0, 0) := by
    unfold tokN
    simp only [List.headD_cons, hl, hd, hr, List.take_length, Bool.false_eq_true, if_false, if_true]
  unfold toksT
  rw [if_neg (by simp; omega)]
  by_cases hg : goodB (c :: l) = true
  · rw [if_pos hg] at ht ⊢
    have e := toksR_tok (c :: l) 0 (by rw [hs]; simp) (by rw [hs, List.drop_zero, ht]; show (2 : Int) ≠ 0; decide)
    rw [hs, List.drop_zero, ht] at e
    rw [e, List.drop_length, toksR_end [] _ rfl, List.take_length]
    simp [Except.map, Except.mapError, skipN]
  · rw [if_neg hg] at ht ⊢
    have e := toksR_bad (c :: l) 0 (by rw [hs]; simp) (by rw [hs, List.drop_zero, ht])
    rw [e, hs]; rfl
/-- a number's digits are a number -/
theorem dec_good (n : Nat) (hn : n ≤ 9223372036854775807) : goodB (decR n []) = true ∧ (decR n []).length ≤ 19 ∧ digs (decR n []) ∧ decR n [] ≠ [] := by
  obtain ⟨h1, h2, h3, h4⟩ := decR_all n [] (by intro c hc; cases hc)
  simp [valL] at h2
  rcases Nat.eq_zero_or_pos n with h0 | h0
  · subst h0; rw [decR_small 0 [] (by omega)]; exact ⟨by decide, by simp, digs_dg 0 (by omega) [] (by intro c hc; cases hc), by simp⟩
  · obtain ⟨c, l, e, hc⟩ := h4 h0
    rw [e] at h1 h2 ⊢
    have hv : 10 ^ l.length ≤ n := by
      rw [← h2]; simp only [valL]
      have : 1 * 10 ^ l.length ≤ (c.toNat - 48) * 10 ^ l.length := Nat.mul_le_mul_right _ (by omega)
      omega
    have hlen : l.length ≤ 18 := by
      apply Nat.le_of_not_lt; intro hgt
      have : 10 ^ 19 ≤ 10 ^ l.length := Nat.pow_le_pow_right (by omega) hgt
      omega
    refine ⟨?_, by simp; omega, h1, by simp⟩
    unfold goodB
    have a1 : decide (((c :: l).headD 0).toNat ≠ 48) = true := by simp; omega
    rw [a1, Bool.or_true, Bool.true_and]
    by_cases h19 : l.length = 18
    · have : leB (c :: l) greatest = true := le_digs _ _ (by simp [h19, greatest]) h1 great_digs (by rw [great_val, h2]; exact hn)
      rw [this]; simp [h19]
    · have : decide ((c :: l).length < 19) = true := by simp; omega
      rw [this]; rfl
theorem zero_bad (l : List UInt8) (h : l ≠ []) : goodB (48 :: l) = false := by
  unfold goodB
  have : (48 :: l == [48]) = false := by simp [h]
  rw [this]; rfl
/-- what is to come of a state of the loop: the digits so far, and what is left of the number -/
def DecInv (n m : Nat) (acc : List UInt8) : Prop := (acc = [] ∧ m = n) ∨ (acc ≠ [] ∧ (if m = 0 then acc else decR m acc) = decR n [])
theorem decInv_next (n m : Nat) (acc : List UInt8) (h : DecInv n m acc) (hc : acc = [] ∨ 0 < m) : DecInv n (m / 10) (dg (m % 10) :: acc) := by
  have h0 : decR m acc = decR n [] := by
    rcases h with ⟨rfl, rfl⟩ | ⟨h1, h2⟩
    · rfl
    · have hm : m ≠ 0 := by rcases hc with h | h; exact absurd h h1; omega
      rw [if_neg hm] at h2; exact h2
  refine .inr ⟨by simp, ?_⟩
  by_cases h1 : m < 10
  · rw [if_pos (by omega), ← h0, decR_small _ _ h1, Nat.mod_eq_of_lt h1]
  · rw [if_neg (by omega), ← h0, decR_big _ _ h1]
theorem conv_one (W : World) (x : Int) : (convert 36 9 (.slice (some ⟨W.heap.size, 0, none⟩) 1 1)).run Try.prog (W.alloc (.cells #[.int .u8 x] 5)) = .ok (.string ⟨#[UInt8.ofNat x.toNat]⟩) (W.alloc (.cells #[.int .u8 x] 5)) := by
  rw [run_convert_bytes_string _ _ _ 5 _ _ _ Try.underlying36 Try.underlying5 Try.underlying9]
  have hload : (loadCells ⟨W.heap.size, 0, none⟩ 1).run Try.prog (W.alloc (.cells #[.int .u8 x] 5)) = .ok ([x].map (Value.int .u8)).toArray (W.alloc (.cells #[.int .u8 x] 5)) :=
    run_loadCells_list _ _ [.int .u8 x] (new_cells W [.int .u8 x] 5)
  rw [run_bytesToString _ _ _ _ [x] hload]; rfl
theorem dg_add (d : Nat) : dg d = 48 + UInt8.ofNat d := by unfold dg; rw [UInt8.ofNat_add]; rfl
def isE : Value → Nat
  | .string s => if s.size = 0 then 1 else 0
  | _ => 0
theorem isE_nil : isE (.string ⟨#[]⟩) = 1 := rfl
theorem isE_app (x : UInt8) (s : ByteArray) : isE (.string (⟨#[x]⟩ ++ s)) = 0 := by
  have : (⟨#[x]⟩ : ByteArray).size = 1 := rfl
  simp only [isE, ByteArray.size_append, this]; rw [if_neg (by omega)]
theorem isE_ne (acc : List UInt8) (h : acc ≠ []) : isE (.string ⟨acc.toArray⟩) = 0 := by
  have : (⟨acc.toArray⟩ : ByteArray).size = acc.length := by simp [ByteArray.size]
  have := List.length_pos_iff.2 h
  simp only [isE]; rw [if_neg (by omega)]
theorem decR_len (m : Nat) : ∀ acc, acc.length + 1 ≤ (decR m acc).length := by
  induction m using Nat.strongRecOn with
  | _ m ih =>
    intro acc
    by_cases h : m < 10
    · rw [decR_small _ _ h]; simp
    · rw [decR_big _ _ h]; have := ih (m / 10) (by omega) (dg (m % 10) :: acc); simp at this; omega
theorem decInv_len (n m : Nat) (acc : List UInt8) (h : DecInv n m acc) (hc : acc = [] ∨ 0 < m) : acc.length + 1 ≤ (decR n []).length := by
  rcases h with ⟨rfl, rfl⟩ | ⟨h1, h2⟩
  · exact decR_len m []
  · have hm : m ≠ 0 := by rcases hc with h | h; exact absurd h h1; omega
    rw [if_neg hm] at h2; rw [← h2]; exact decR_len m acc
theorem app_cons (x : UInt8) (acc : List UInt8) : (⟨#[x]⟩ : ByteArray) ++ ⟨acc.toArray⟩ = ⟨(x :: acc).toArray⟩ := by
  apply ByteArray.ext; simp [ByteArray.data_append]
set_option maxHeartbeats 1000000 in
theorem decimal_any (n : Nat) (w : World) (hn : n ≤ 9223372036854775807) :
    Calls Try.prog 15 #[.int .i64 n] w fun e w' => e = .returned (.string ⟨(decR n []).toArray⟩) ∧ Below w.heap.size w w' := by
  have hlen := (dec_good n hn).2.1
  have hd : decide ((n : Int) < 0) = false := by simp
  have hcv := conv_one
  go_enter Try.func15, Try.ntmps15
  go_wp2
  go_loopw [0, 3] (fun i v wr => ∃ (m : Nat) (acc : List UInt8), m ≤ n ∧ i = .int .i64 m ∧ v = .string ⟨acc.toArray⟩ ∧ acc.length ≤ 19 ∧ Hid (DecInv n m acc) ∧ Below w.heap.size w wr) (fun i v _ => 2 * (intOf i).toNat + isE v)
  case atStart => exact ⟨n, [], Nat.le_refl _, rfl, rfl, by simp, Lib.hid (.inl ⟨rfl, rfl⟩), Below.refl _ _⟩
  case round =>
    obtain ⟨m, acc, hm, rfl, rfl, hal, HI, hB⟩ := hrel
    by_cases ha : acc = []
    · subst ha
      have HI2 := Lib.hid (decInv_next n m [] HI.out (.inl rfl))
      go_wp2
      go_roundw
      case rel => exact ⟨m / 10, [dg (m % 10)], by omega, by go_num, by rw [← dg_add]; rfl, by simp, HI2, hB.alloc hB.size _⟩
      case measure => rw [isE_app, isE_nil]; simp [intOf]; omega
    · have hne : acc.isEmpty = false := by cases acc <;> simp_all
      by_cases hm0 : 0 < m
      · have HI2 := Lib.hid (decInv_next n m acc HI.out (.inr hm0))
        have hle := decInv_len n m acc HI.out (.inr hm0)
        have hdm : decide (0 < (m : Int)) = true := by (simp; omega)
        go_wp2
        go_roundw
        case rel => exact ⟨m / 10, dg (m % 10) :: acc, by omega, by go_num, by rw [← dg_add, app_cons], by simp; omega, HI2, hB.alloc hB.size _⟩
        case measure => rw [isE_app, isE_ne acc ha]; simp [intOf]; omega
      · obtain rfl : m = 0 := by omega
        go_wp2
        go_ret
        refine ⟨?_, hB⟩
        rcases HI.out with ⟨h1, _⟩ | ⟨_, h2⟩
        · exact absurd h1 ha
        · rw [if_pos rfl] at h2; rw [h2]; rfl
theorem toks_dec (n : Nat) (hn : n ≤ 9223372036854775807) : toksT (decR n []) = .ok [⟨2, decR n [], 0⟩, ⟨4, [], ((decR n []).length : Nat)⟩] := by
  obtain ⟨h1, h2, h3, h4⟩ := dec_good n hn
  generalize decR n [] = D at h1 h2 h3 h4
  cases D with
  | nil => exact absurd rfl h4
  | cons c l => rw [toks_digs c l h3 (by simp at h2; omega), if_pos h1]
theorem toks_zeros (n k : Nat) (hn : n ≤ 9223372036854775807) (hk : k ≤ 5) : toksT (48 :: (List.replicate k 48 ++ decR n [])) = .error (7, 0) := by
  obtain ⟨h1, h2, h3, h4⟩ := dec_good n hn
  have hd : digs (48 :: (List.replicate k 48 ++ decR n [])) := by
    intro c hc
    rcases List.mem_cons.1 hc with rfl | hc
    · decide
    · rcases List.mem_append.1 hc with hc | hc
      · rw [List.eq_of_mem_replicate hc]; decide
      · exact h3 c hc
  rw [toks_digs _ _ hd (by simp; omega), zero_bad _ (by simp [h4])]; rfl
set_option maxHeartbeats 2000000 in
theorem scanNumbers_nat (n : Int) (N : Nat) (z : Int) (w : World) (hn : N ≤ 9223372036854775807) (hN : n = (N : Int) ∨ n = -(N : Int) - 1) :
    Calls Try.prog 6 #[.int .i64 n, .int .i64 z] w fun e w' => e = .returned (.bool true) ∧ Below w.heap.size w w' := by
  have hlen := (dec_good N hn).2.1
  obtain ⟨j, hj, hjl⟩ : ∃ j : Nat, wrap64 ((IntKind.u64.wrap z).tmod 5) = (j : Int) ∧ j < 5 := by simpa using pick_lt z 5 (by omega) (by omega)
  have hts := Lib.hid (toks_dec N hn)
  have hd1 : decide ((N : Int) < 0) = false := by simp
  have hd2 : decide (-(N : Int) - 1 < 0) = true := by (simp; omega)
  rcases hN with rfl | rfl
  all_goals
    go_enter Try.func6, Try.ntmps6
    go_wp2_with fail
    refine (alive_any _).mono ?_
    rintro _ w1 ⟨rfl, hB1⟩
    have hz1 := hB1.size
    go_wp2_with fail
    refine (decimal_any N _ hn).mono ?_
    rintro _ w2 ⟨rfl, hB2⟩
    have hz2 := hB2.size
    go_wp2_with fail
    refine (tokens_ok _ _ _ (by exact hts.out) (by simp [ByteArray.size, maxLen]; omega)).mono ?_
    rintro _ w3 ⟨sv, rfl, hB3, hown3⟩
    have hz3 := hB3.size
    have hr3 := tkRow_of_owns hown3
    clear hown3
    obtain ⟨g, cap, rfl, hc, hcm, hcell⟩ := tkRow_slice hr3 (by simp)
    have k1 : w3.cell? ⟨g, 0, none⟩ = some (.int .i64 2) := (hcell 0 (by simp)).1
    have k2 : w3.cell? ⟨g, 1, none⟩ = some (.string ⟨(decR N []).toArray⟩) := (hcell 0 (by simp)).2.1
    have hBz : Hid (Below w.heap.size w w3) := Lib.hid ((hB1.trans (hB2.mono hz1)).trans (hB3.mono (by omega)))
    clear hcell hr3 hB1 hB2 hB3
    simp only [List.length_cons, List.length_nil, Nat.zero_add, Nat.reduceAdd] at hc ⊢
    unfold maxLen at hcm
    go_wp2
    go_loopw [5, 8] (fun v i wr => ∃ (k : Nat), k ≤ j ∧ v = .string ⟨(List.replicate k 48 ++ decR N []).toArray⟩ ∧ i = .int .i64 k ∧ Below w3.heap.size w3 wr) (fun _ i _ => j - (intOf i).toNat)
    case atStart => exact ⟨0, Nat.zero_le _, rfl, rfl, Below.refl _ _⟩
    case round =>
      obtain ⟨k, hk, rfl, rfl, hBr⟩ := hrel
      by_cases hlt : k < j
      · have hze := Lib.hid (toks_zeros N k hn (by omega))
        go_wp2_with fail
        rw [app_cons]
        refine (tokens_err _ 7 0 _ (by exact hze.out) (by simp [ByteArray.size, maxLen]; omega)).mono ?_
        rintro _ w4 ⟨b, rfl, hB4, hb, hf⟩
        have hz4 := hBr.size
        clear hf
        go_wp2
        go_roundw
        case rel => exact ⟨k + 1, by omega, by rw [List.replicate_succ]; rfl, by go_num, hBr.trans (hB4.mono hz4)⟩
        case measure => simp [intOf]; omega
      · go_wp2_with fail
        refine (tokens_err _ 7 0 _ (by kernel_rfl) (by decide)).mono ?_
        rintro _ w4 ⟨b, rfl, hB4, hb, hf⟩
        clear hf
        go_wp2_with fail
        refine (tokens_err _ 7 0 _ (by kernel_rfl) (by decide)).mono ?_
        rintro _ w5 ⟨b2, rfl, hB5, hb2, hf⟩
        clear hf
        have hz4 := hBr.size
        have hz5 := hB4.size
        go_wp2
        go_ret
        exact ⟨rfl, hBz.out.trans (((hBr.trans (hB4.mono hz4)).trans (hB5.mono (by omega))).mono (hBz.out.size))⟩
theorem scanNumbers_walk (n z : Int) (w : World) (hn : (Lit.int .i64 n).wf = true) (_hz : (Lit.int .i64 z).wf = true) :
    Calls Try.prog 6 #[.int .i64 n, .int .i64 z] w fun e w' => e = .returned (.bool true) ∧ Below w.heap.size w w' := by
  have hb : -9223372036854775808 ≤ n ∧ n ≤ 9223372036854775807 := by simpa [Lit.wf, IntKind.min, IntKind.max, IntKind.signed, IntKind.bits] using hn
  rcases Int.lt_or_le n 0 with h | h
  · exact scanNumbers_nat n (-(n + 1)).toNat z w (by omega) (.inr (by omega))
  · exact scanNumbers_nat n n.toNat z w (by omega) (.inl (by omega))
end Go.Proofs.Ytfcgegglipmdlaa
