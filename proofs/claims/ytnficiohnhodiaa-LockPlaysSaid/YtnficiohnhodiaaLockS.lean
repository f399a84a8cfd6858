import Derived.Test.YtnficiohnhodiaaLockR
import Derived.Lib.IfaceEq
import Derived.Lib.IfaceNeq
namespace Go.Proofs.Ytnficiohnhodiaa
open Go.RowKit
/-- a table of the call's own -/
structure TB (w0 w : World) (p mp mw : Nat) (t : LT) : Prop where
  lay : LTAt w p mp mw t
  low : ∀ k, LTFoot p mp mw t k → w0.heap.size ≤ k
  bel : Below w0.heap.size w0 w
theorem TB.below {w0 w w' : World} {p mp mw : Nat} {t : LT} (h : TB w0 w p mp mw t) (hb : Below w.heap.size w w') : TB w0 w' p mp mw t :=
  ⟨h.lay.keeps (S := fun _ => False) (Keeps.of_below hb) (fun _ _ hf => hf), h.low, h.bel.trans (hb.mono h.bel.size)⟩
theorem TB.step {w0 w w' : World} {p mp mw : Nat} {t t' : LT} (h : TB w0 w p mp mw t) (hl : LTAt w' p mp mw t') (hk : Keeps (LTFoot p mp mw t) w w') (hf : ∀ k, LTFoot p mp mw t' k → LTFoot p mp mw t k ∨ w.heap.size ≤ k) : TB w0 w' p mp mw t' :=
  ⟨hl, fun k hk' => (hf k hk').elim (h.low k) (fun a => Nat.le_trans h.bel.size a), h.bel.trans (hk.below h.bel.size (fun k hk' hf' => by have := h.low k hf'; omega))⟩
theorem new_tb (w0 w : World) (hb : Below w0.heap.size w0 w) : Calls Try.prog 7 #[] w fun e w' => ∃ p mp mw, e = .returned (.pointer (some ⟨p, 0, none⟩)) ∧ TB w0 w' p mp mw LT.empty ∧ Below w.heap.size w w' ∧ ∀ k, LTFoot p mp mw LT.empty k → w.heap.size ≤ k :=
  (new_any w).mono fun _ _ ⟨p, mp, mw, he, hl, hb', hf⟩ => ⟨p, mp, mw, he, ⟨hl, fun k hk => Nat.le_trans hb.size (hf k hk), hb.trans (hb'.mono hb.size)⟩, hb', hf⟩
theorem take_tb {w0 w : World} {p mp mw : Nat} {t : LT} (txn page mode : Int) (h : TB w0 w p mp mw t) (hf : t.fit) : Calls Try.prog 11 #[.pointer (some ⟨p, 0, none⟩), .int .i64 txn, .int .i64 page, .int .i64 mode] w fun e w' => ∃ m, e = .returned (errV (t.take txn page mode m).1) ∧ TB w0 w' p mp mw (t.take txn page mode m).2 :=
  (take_any w p mp mw t txn page mode h.lay hf).mono fun _ _ ⟨m, he, hl, hk, hf⟩ => ⟨m, he, h.step hl hk hf⟩
theorem release_tb {w0 w : World} {p mp mw : Nat} {t : LT} (txn : Int) (h : TB w0 w p mp mw t) (hf : t.fit) : Calls Try.prog 8 #[.pointer (some ⟨p, 0, none⟩), .int .i64 txn] w fun e w' => e = .returned (.int .i64 (t.locksOf txn)) ∧ TB w0 w' p mp mw (t.release txn) :=
  (release_any w p mp mw t txn h.lay hf).mono fun _ _ ⟨he, hl, hk, hf⟩ => ⟨he, h.step hl hk (fun k hk => .inl (hf k hk))⟩
theorem holds_tb {w0 w : World} {p mp mw : Nat} {t : LT} (txn page : Int) (h : TB w0 w p mp mw t) : Calls Try.prog 14 #[.pointer (some ⟨p, 0, none⟩), .int .i64 txn, .int .i64 page] w fun e w' => e = .returned (.int .i64 (t.holds txn page)) ∧ w = w' := holds_any w p mp mw t txn page h.lay
theorem len_tb {w0 w : World} {p mp mw : Nat} {t : LT} (h : TB w0 w p mp mw t) : Calls Try.prog 13 #[.pointer (some ⟨p, 0, none⟩)] w fun e w' => e = .returned (.int .i64 t.count) ∧ w = w' := len_any w p mp mw t h.lay
/-! the chapter's example -/
def tA (m : Nat) : LT := ⟨[(5, (m, [(1, 1)]))], [], 1⟩
def tB (m : Nat) : LT := ⟨[(5, (m, [(1, 1), (2, 1)]))], [], 2⟩
def tC (m : Nat) : LT := ⟨[(5, (m, [(1, 1), (2, 1)]))], [(1, ⟨5, 3⟩)], 2⟩
def tD (m : Nat) : LT := ⟨[(5, (m, [(1, 1)]))], [(1, ⟨5, 3⟩)], 1⟩
def tE (m : Nat) : LT := ⟨[(5, (m, [(1, 3)]))], [], 1⟩
theorem a1 (m : Nat) : LT.empty.take 1 5 1 m = (0, tA m) := by
  simp [LT.take, LT.unwait, LT.empty, LT.holds, LT.holders, aget, adel, joinI, LT.others, oth, LT.set, aput, tA]
theorem a2 (m m' : Nat) : (tA m).take 2 5 1 m' = (0, tB m) := by
  simp [LT.take, LT.unwait, LT.holds, LT.holders, aget, adel, joinI, LT.others, oth, LT.set, aput, tA, tB, alongB]
theorem reach_no {t : LT} {x y : Int} (h : t.wait x = []) (hne : x ≠ y) : ¬ Reach t x y := by
  intro hr
  cases hr with
  | refl => exact hne rfl
  | step a _ => rw [h] at a; cases a
theorem take_17 {t t1 : LT} {txn page mode has md : Int} {os : List Int} (m : Nat) (h1 : 1 ≤ mode) (h3 : mode ≤ 3) (hu : t.unwait txn = t1) (hh : t1.holds txn page = has) (hj : joinI has mode = md) (hne : md ≠ has) (ho : t1.others txn ⟨page, md⟩ = os) (hos : os ≠ [])
    (hr : ¬ ∃ o ∈ os, Reach t1 o txn) : t.take txn page mode m = (17, { t1 with waits := aput t1.waits txn ⟨page, md⟩ }) := by
  subst hu; subst hh; subst hj; subst ho
  unfold LT.take; rw [if_neg (by omega)]; simp only []; rw [if_neg hne, if_pos hos, if_neg hr]
theorem take_18 {t t1 : LT} {txn page mode has md : Int} {os : List Int} (m : Nat) (h1 : 1 ≤ mode) (h3 : mode ≤ 3) (hu : t.unwait txn = t1) (hh : t1.holds txn page = has) (hj : joinI has mode = md) (hne : md ≠ has) (ho : t1.others txn ⟨page, md⟩ = os) (hos : os ≠ [])
    (hr : ∃ o ∈ os, Reach t1 o txn) : t.take txn page mode m = (18, t1) := by
  subst hu; subst hh; subst hj; subst ho
  unfold LT.take; rw [if_neg (by omega)]; simp only []; rw [if_neg hne, if_pos hos, if_pos hr]
theorem a3 (m m' : Nat) : (tB m).take 1 5 3 m' = (17, tC m) := by
  have hw : (tB m).wait 2 = [] := by simp [LT.wait, tB, aget]
  have h0 : ¬ Reach (tB m) 2 1 := reach_no hw (by decide)
  exact take_17 (t1 := tB m) (has := 1) (md := 3) (os := [2]) m' (by decide) (by decide) (by simp [LT.unwait, tB, adel]) (by simp [LT.holds, LT.holders, tB, aget]) (by decide) (by decide) (by simp [LT.others, oth, LT.holders, tB, aget, alongB]) (by simp)
    (by rintro ⟨o, ho, hr⟩; simp at ho; subst ho; exact h0 hr)
theorem a4 (m m' : Nat) : (tC m).take 2 5 3 m' = (18, tC m) := by
  have hr : Reach (tC m) 1 2 := .step (y := 2) (by simp [LT.wait, LT.others, oth, LT.holders, tC, aget, alongB]) (.refl 2)
  exact take_18 (t1 := tC m) (has := 1) (md := 3) (os := [1]) m' (by decide) (by decide) (by simp [LT.unwait, tC, adel]) (by simp [LT.holds, LT.holders, tC, aget]) (by decide) (by decide) (by simp [LT.others, oth, LT.holders, tC, aget, alongB]) (by simp)
    ⟨1, by simp, hr⟩
theorem a5 (m : Nat) : (tC m).release 2 = tD m ∧ (tC m).locksOf 2 = 1 := by
  constructor
  · simp [LT.release, LT.locksOf, proc, modeIn, tC, tD, aget, adel]
  · simp [LT.locksOf, modeIn, tC, aget]
theorem a6 (m m' : Nat) : (tD m).take 1 5 3 m' = (0, tE m) := by
  simp [LT.take, LT.unwait, LT.holds, LT.holders, aget, adel, joinI, LT.others, oth, LT.set, aput, tD, tE, alongB]
theorem a7 (m : Nat) : (tE m).holds 1 5 = 3 := by simp [LT.holds, LT.holders, tE, aget]
theorem fit_of {t : LT} (h1 : t.pages.length ≤ 1) (h2 : ∀ x ∈ t.pages, x.2.2.length ≤ 2) (h3 : t.waits.length ≤ 2) (h4 : 0 ≤ t.count) (h5 : t.count ≤ 300) : t.fit :=
  ⟨fun x hx => by have := h2 x hx; omega, by omega, by omega, by omega, by omega⟩
theorem errV_zero : errV 0 = .nilIface := rfl
theorem errV_pos {k : Int} (h : k ≠ 0) : errV k = .iface 74 (.int .i64 k) := by unfold errV; rw [if_neg h]
set_option maxRecDepth 100000 in
theorem errEqNil (w : World) (a : Int) : (binOp .eql 35 (errV a) .nilIface).run Try.prog w = .ok (.bool (a == 0)) w := by
  by_cases h : a = 0
  · subst h; exact (by kernel_rfl : (binOp .eql 35 .nilIface .nilIface).run Try.prog w = .ok (.bool true) w)
  · have h' : (a == 0) = false := by simpa using h
    have : (binOp .eql 35 (.iface 74 (.int .i64 a)) .nilIface).run Try.prog w = .ok (.bool false) w := by kernel_rfl
    rw [errV_pos h, h', this]
set_option maxRecDepth 100000 in
theorem errNeNil (w : World) (a : Int) : (binOp .neq 35 (errV a) .nilIface).run Try.prog w = .ok (.bool (a != 0)) w := by
  by_cases h : a = 0
  · subst h; exact (by kernel_rfl : (binOp .neq 35 .nilIface .nilIface).run Try.prog w = .ok (.bool false) w)
  · have h' : (a != 0) = true := by simpa using h
    have : (binOp .neq 35 (.iface 74 (.int .i64 a)) .nilIface).run Try.prog w = .ok (.bool true) w := by kernel_rfl
    rw [errV_pos h, h', this]
set_option maxRecDepth 100000 in
theorem errEqK (w : World) (a k : Int) (hk : k ≠ 0) : (binOp .eql 35 (errV a) (.iface 74 (.int .i64 k))).run Try.prog w = .ok (.bool (a == k)) w := by
  by_cases h : a = 0
  · subst h
    have h' : ((0 : Int) == k) = false := by simpa using fun e => hk e.symm
    have : (binOp .eql 35 .nilIface (.iface 74 (.int .i64 k))).run Try.prog w = .ok (.bool false) w := by kernel_rfl
    rw [errV_zero, h', this]
  · rw [errV_pos h]; exact Go.Lib.run_eql_iface_int w a k Try.underlying35 (by kernel_rfl) Try.underlying74
set_option maxRecDepth 100000 in
theorem errNeK (w : World) (a k : Int) (hk : k ≠ 0) : (binOp .neq 35 (errV a) (.iface 74 (.int .i64 k))).run Try.prog w = .ok (.bool (a != k)) w := by
  by_cases h : a = 0
  · subst h
    have h' : ((0 : Int) != k) = true := by simpa using fun e => hk e.symm
    have : (binOp .neq 35 .nilIface (.iface 74 (.int .i64 k))).run Try.prog w = .ok (.bool true) w := by kernel_rfl
    rw [errV_zero, h', this]
  · rw [errV_pos h]; exact Go.Lib.run_neq_iface_int w a k Try.underlying35 (by kernel_rfl) Try.underlying74
end Go.Proofs.Ytnficiohnhodiaa
