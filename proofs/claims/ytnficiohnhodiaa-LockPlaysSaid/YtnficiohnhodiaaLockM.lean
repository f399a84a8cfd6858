import Derived.Test.YtnficiohnhodiaaLockL
namespace Go.Proofs.Ytnficiohnhodiaa
open Go.RowKit
open Go.ChangeMaps (setBlock)
theorem LT.holds_none {t : LT} {page txn : Int} (h : aget t.pages page = none) : t.holds txn page = 0 := by unfold LT.holds LT.holders; rw [h]; rfl
/-- Take, whatever it is asked -/
theorem take_any (w : World) (p mp mw : Nat) (t : LT) (txn page mode : Int) (h : LTAt w p mp mw t) (hf : t.fit) :
    Calls Try.prog 11 #[.pointer (some ⟨p, 0, none⟩), .int .i64 txn, .int .i64 page, .int .i64 mode] w (TakePost w p mp mw t (fun m => t.take txn page mode m)) := by
  by_cases hm : mode < 1 ∨ 3 < mode
  · refine (take_form w _ txn page mode hm).mono ?_
    rintro e w' ⟨rfl, rfl⟩
    have hr : t.take txn page mode 0 = (2, t) := by unfold LT.take; rw [if_pos hm]
    simp only [TakePost]
    exact ⟨0, by rw [hr], by rw [hr]; exact h, Keeps.refl _ _, fun k hk => .inl (by rw [hr] at hk; exact hk)⟩
  · have h1 : 1 ≤ mode := by omega
    have h3 : mode ≤ 3 := by omega
    by_cases hj : joinI ((t.unwait txn).holds txn page) mode = (t.unwait txn).holds txn page
    · exact take_has w p mp mw t txn page mode h h1 h3 hj
    · by_cases hos : (t.unwait txn).others txn ⟨page, joinI ((t.unwait txn).holds txn page) mode⟩ = []
      · cases hpg : aget t.pages page with
        | none =>
          have hh : (t.unwait txn).holds txn page = 0 := LT.holds_none hpg
          by_cases hc : t.count < 256
          · exact take_new w p mp mw t txn page mode h hf h1 h3 hpg hc
          · rw [hh, show joinI 0 mode = mode from by simp [joinI]] at hos
            exact take_full w p mp mw t txn page mode h hf h1 h3 hh (by omega) hos
        | some x =>
          obtain ⟨m0, hs0⟩ := x
          by_cases hh : (t.unwait txn).holds txn page = 0
          · rw [hh, show joinI 0 mode = mode from by simp [joinI]] at hos
            by_cases hc : t.count < 256
            · exact take_old w p mp mw t txn page mode h hf h1 h3 m0 hs0 hpg hh hc hos
            · exact take_full w p mp mw t txn page mode h hf h1 h3 hh (by omega) hos
          · exact take_join w p mp mw t txn page mode h hf h1 h3 m0 hs0 hpg hh hj hos
      · exact take_against w p mp mw t txn page mode h hf h1 h3 hj hos
end Go.Proofs.Ytnficiohnhodiaa
