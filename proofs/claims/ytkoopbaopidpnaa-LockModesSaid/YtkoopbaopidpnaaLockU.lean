import Derived.Test.YtkoopbaopidpnaaLockT
namespace Go.Proofs.Ytkoopbaopidpnaa
open Go.RowKit
def sX (page : Int) (m : Nat) (md : Int) : LT := ⟨[(page, (m, [(1, md)]))], [], 1⟩
theorem fitX (page : Int) (m : Nat) (md : Int) : (sX page m md).fit := fit_of (by simp [sX]) (by simp [sX]) (by simp [sX]) (by simp [sX]) (by simp [sX])
theorem x1 (txn page md : Int) (h1 : 1 ≤ md) (h3 : md ≤ 3) (m : Nat) : LT.empty.take txn page md m = (0, ⟨[(page, (m, [(txn, md)]))], [], 1⟩) := by
  have : ¬ (md < 1 ∨ 3 < md) := by omega
  have h0 : md ≠ 0 := by omega
  simp [LT.take, LT.unwait, LT.empty, LT.holds, LT.holders, aget, adel, joinI, LT.others, oth, LT.set, aput, this, h0]
theorem x2 (page a b : Int) (h1 : 1 ≤ b) (h3 : b ≤ 3) (m m' : Nat) (h : a = b ∧ a ≠ 3) : (sX page m a).take 2 page b m' = (0, ⟨[(page, (m, [(1, a), (2, b)]))], [], 2⟩) := by
  obtain ⟨rfl, h⟩ := h
  have : ¬ (a < 1 ∨ 3 < a) := by omega
  have h0 : a ≠ 0 := by omega
  simp [LT.take, LT.unwait, sX, LT.holds, LT.holders, aget, adel, joinI, LT.others, oth, LT.set, aput, this, h0, alongB, h]
theorem x3 (page a b : Int) (h1 : 1 ≤ b) (h3 : b ≤ 3) (m m' : Nat) (h : ¬ (a = b ∧ a ≠ 3)) : (sX page m a).take 2 page b m' = (17, ⟨[(page, (m, [(1, a)]))], [(2, ⟨page, b⟩)], 1⟩) := by
  have hu : (sX page m a).unwait 2 = sX page m a := by simp [LT.unwait, sX, adel]
  have ha : alongB a b = false := by unfold alongB; simp; exact fun e => by simpa [e] using h
  have hw : (sX page m a).wait 1 = [] := by simp [LT.wait, sX, aget]
  exact take_17 (t1 := sX page m a) (has := 0) (md := b) (os := [1]) m' h1 h3 hu (by simp [LT.holds, LT.holders, sX, aget]) (by simp [joinI]) (by omega) (by simp [LT.others, oth, LT.holders, sX, aget, ha]) (by simp)
    (by rintro ⟨o, ho, hr⟩; simp at ho; subst ho; exact reach_no hw (by decide) hr)
theorem x4 (page a b : Int) (h1 : 1 ≤ a) (h2 : 1 ≤ b) (h3 : b ≤ 3) (m m' : Nat) : (sX page m a).take 1 page b m' = (0, sX page m (joinI a b)) := by
  have hb : ¬ (b < 1 ∨ 3 < b) := by omega
  have h0 : a ≠ 0 := by omega
  by_cases h : joinI a b = a
  · simp [LT.take, LT.unwait, sX, LT.holds, LT.holders, aget, adel, hb, h]
  · simp [LT.take, LT.unwait, sX, LT.holds, LT.holders, aget, adel, LT.others, oth, LT.set, aput, hb, h, h0]
theorem x5 (page : Int) (m : Nat) (md : Int) (h : md ≠ 0) : (sX page m md).release 1 = LT.empty ∧ (sX page m md).locksOf 1 = 1 := by
  constructor
  · simp [LT.release, LT.locksOf, proc, modeIn, sX, aget, adel, LT.empty, h]
  · simp [LT.locksOf, modeIn, sX, aget, h]
theorem x6 (page : Int) (m : Nat) (md : Int) : (sX page m md).holds 1 page = md := by simp [LT.holds, LT.holders, sX, aget]
theorem x7 (txn page md : Int) (h : md < 1 ∨ 3 < md) (m : Nat) (t : LT) : t.take txn page md m = (2, t) := by unfold LT.take; rw [if_pos h]
end Go.Proofs.Ytkoopbaopidpnaa
