import Derived.Test.YtnficiohnhodiaaRlkG
import Derived.Test.YtnficiohnhodiaaRlkI
/-
  The document's table of locks: Take, whole.
-/
namespace Go.Proofs.Ytnficiohnhodiaa.Pre
open Go.RowKit
section
variable {w w' : World} {B b : Nat} {vl vw : Value} {ls ws : List Lk}
set_option maxRecDepth 100000 in
set_option maxHeartbeats 4000000 in
theorem rtake_same {ql : Option Addr} {cl : Nat} (h : TabAt w B b (.slice ql ls.length cl) vw ls ws) (txn page mode : Int) (hm1 : 1 ≤ mode) (hm3 : mode ≤ 3) (hl : ls.length ≤ 1000000) (hl2 : ws.length ≤ 1000000) (hB : B ≤ w.heap.size) (has : Int) (hhas : holdsR ls txn page = has) (ws1 : List Lk) (hws1 : forgetR ws txn = ws1)
    (hcase : (has ≠ 0 ∧ has ≠ mode ∧ has = 3) ∨ (has ≠ 0 ∧ has = mode)) :
    Calls Try.prog 12 #[.pointer (some ⟨b, 0, none⟩), .int .i64 txn, .int .i64 page, .int .i64 mode] w (TakePost w B b (.slice ql ls.length cl) vw (0, ls, ws1)) := by
  have HB := Lib.hid hB
  have hfg := rforget_any h txn hl2 hB
  rw [hws1] at hfg
  have hwl : ws1.length ≤ 1000000 := by rw [← hws1]; exact Nat.le_trans (List.length_filter_le _ _) hl2
  obtain ⟨_, _, _, hcl, hml⟩ := h.locks.form
  have hm10 : ¬ mode < 1 := by omega
  have hm30 : ¬ 3 < mode := by omega
  clear h hm1 hm3
  go_enter Try.func12, Try.ntmps12
  go_upto_region 6 with (first
    | (go_at_call 36; (with_reducible refine hfg.mono ?_); rintro _ w1 ⟨rfl, vw1, h1, k1, n1⟩; clear hfg; obtain ⟨qw, cw, rfl, _, _⟩ := h1.waits.form; have hho := rholds_any h1 txn page; (rw [hhas] at hho); have HM : Hid (Mid w (w1.alloc (.cells #[.int .i64 txn, .int .i64 page, .int .i64 mode] 82)) B b w1.heap.size (.slice ql ls.length cl) vw (.slice qw ws1.length cw) ls ws1 txn page mode) := Lib.hid (mid_new h1 k1 n1 82); have HS1 : Hid (w.heap.size ≤ w1.heap.size) := Lib.hid k1.size; clear h1 k1 n1)
    | (go_at_call 15; (with_reducible refine hho.mono ?_); rintro _ _ ⟨rfl, rfl⟩; clear hho))
  generalize w1.alloc (.cells #[.int .i64 txn, .int .i64 page, .int .i64 mode] 82) = W at HM ⊢
  generalize w1.heap.size = bx at HM HS1 ⊢
  rcases hcase with ⟨hz1, hz2, rfl⟩ | ⟨hz1, rfl⟩
  · have x2 := HM.out.x2
    have f2 : W.frozen? ⟨bx, 2, none⟩ = false := HM.out.fz 2
    have b2 : ((3 : Int) != mode) = true := by simpa using hz2
    go_upto_region 8 with fail
    have HM2 := Lib.hid (HM.out.store HS1.out 3)
    clear x2 f2 HM
    generalize W.setCell ⟨bx, 2, none⟩ (.int .i64 3) = W2 at HM2 ⊢
    have x2 := HM2.out.x2
    go_wp2
    go_ret
    exact HM2.out.post
  · have x2 := HM.out.x2
    have b1 : (has != 0) = true := by simpa using hz1
    have b2 : (has != has) = false := by simp
    go_wp2
    go_ret
    exact HM.out.post
theorem rtake_any (h : TabAt w B b vl vw ls ws) (txn page mode : Int) (hl : ls.length ≤ 1000000) (hl2 : ws.length ≤ 1000000) (hB : B ≤ w.heap.size) :
    Calls Try.prog 12 #[.pointer (some ⟨b, 0, none⟩), .int .i64 txn, .int .i64 page, .int .i64 mode] w fun e w' => ∃ cb : Bool,
      (¬ (mode < 1 ∨ 3 < mode) → againstR ls ⟨txn, page, if holdsR ls txn page ≠ 0 ∧ holdsR ls txn page ≠ mode then 3 else mode⟩ ≠ [] → (cb = true ↔ ∃ o ∈ againstR ls ⟨txn, page, if holdsR ls txn page ≠ 0 ∧ holdsR ls txn page ≠ mode then 3 else mode⟩, RReach (forR ls (forgetR ws txn)) o txn)) ∧ TakePost w B b vl vw (takeR ls ws txn page mode cb) e w' := by
  obtain ⟨ql, cl, e, _, _⟩ := h.locks.form
  subst e
  by_cases hm : mode < 1 ∨ 3 < mode
  · refine (rtake_form _ txn page mode hm).mono fun e w' ⟨he, hw⟩ => ?_
    subst hw
    refine ⟨false, fun e => absurd hm e, ?_⟩
    unfold takeR
    rw [if_pos hm]
    exact ⟨he, _, vw, h, Keeps.refl _ _, fun k hk => .inl hk⟩
  · obtain ⟨has, hhas⟩ : ∃ x, holdsR ls txn page = x := ⟨_, rfl⟩
    obtain ⟨md, hmd⟩ : ∃ x : Int, (if has ≠ 0 ∧ has ≠ mode then 3 else mode) = x := ⟨_, rfl⟩
    rw [hhas, hmd]
    have htk : ∀ cb, takeR ls ws txn page mode cb = if has = md then (0, ls, forgetR ws txn) else restR ls ws (forgetR ws txn) txn page md cb := fun cb => by
      unfold takeR restR
      rw [if_neg hm]
      simp only
      rw [hhas, hmd]
    by_cases he : has = md
    · refine (rtake_same h txn page mode (by omega) (by omega) hl hl2 hB has hhas (forgetR ws txn) rfl ?_).mono fun e w' hp => ?_
      · by_cases h0 : has = 0
        · rw [if_neg (fun e => e.1 h0)] at hmd; omega
        · by_cases h1 : has = mode
          · exact .inr ⟨h0, h1⟩
          · rw [if_pos ⟨h0, h1⟩] at hmd; exact .inl ⟨h0, h1, by omega⟩
      · open Classical in
        refine ⟨decide (∃ o ∈ againstR ls ⟨txn, page, md⟩, RReach (forR ls (forgetR ws txn)) o txn), fun _ _ => by simp, ?_⟩
        rw [htk, if_pos he]; exact hp
    · refine (rtake_good h txn page mode (by omega) (by omega) hl hl2 hB md has hhas (forgetR ws txn) rfl ?_).mono fun e w' ⟨cb, h1, h2⟩ => ?_
      · by_cases h0 : has = 0
        · rw [if_neg (fun e => e.1 h0)] at hmd; exact .inr ⟨hmd.symm, h0⟩
        · by_cases h1 : has = mode
          · rw [if_neg (fun e => e.2 h1)] at hmd; omega
          · rw [if_pos ⟨h0, h1⟩] at hmd; exact .inl ⟨hmd.symm, h0, h1, by omega⟩
      · exact ⟨cb, fun _ _ => h1, by rw [htk, if_neg he]; exact h2⟩
end
end Go.Proofs.Ytnficiohnhodiaa.Pre
