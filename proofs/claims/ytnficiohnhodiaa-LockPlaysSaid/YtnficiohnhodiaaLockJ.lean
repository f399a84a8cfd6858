import Derived.Test.YtnficiohnhodiaaLockI
namespace Go.Proofs.Ytnficiohnhodiaa
open Go.RowKit
open Go.ChangeMaps (setBlock)
theorem owned_nil {W : World} {base e size : Nat} {v : Value} {xs : List Value} (h : W.ownsRow base e size v 0 xs) : ∃ q cap, v = .slice q 0 cap := by
  rcases h.2 with ⟨h, _⟩ | ⟨g, cap, _, hv, _⟩
  · exact ⟨none, 0, h⟩
  · exact ⟨_, cap, hv⟩
set_option maxRecDepth 100000 in
set_option maxHeartbeats 4000000 in
theorem take_full (w : World) (p mp mw : Nat) (t : LT) (txn page mode : Int) (h : LTAt w p mp mw t) (hf : t.fit) (h1 : 1 ≤ mode) (h3 : mode ≤ 3) (hh : (t.unwait txn).holds txn page = 0) (hc : 256 ≤ t.count)
    (hos : (t.unwait txn).others txn ⟨page, mode⟩ = []) :
    Calls Try.prog 11 #[.pointer (some ⟨p, 0, none⟩), .int .i64 txn, .int .i64 page, .int .i64 mode] w (TakePost w p mp mw t (fun m => t.take txn page mode m)) := by
  have hmd : joinI 0 mode = mode := by simp [joinI]
  have hr : ∀ m, t.take txn page mode m = (15, t.unwait txn) := fun m => by
    unfold LT.take; rw [if_neg (by omega)]; simp only [hh, hmd]; rw [if_neg (by omega), if_neg (by simp [hos]), if_pos ⟨trivial, hc⟩]
  have hs1 : (t.unwait txn).small := hf.small
  have c1 := cell_in (o := 1) (u := .map (some mw)) h.self rfl
  obtain ⟨w1, m, hd, hA1, hK1, hsz, l1, l2⟩ := take_start h txn page 0
  have c2 := cell_in (o := 0) (u := .map (some mp)) hA1.self rfl
  rw [hh] at l2
  obtain ⟨hA, hK⟩ := take_then txn page mode hA1 hK1
  have hag := against_any _ p mp mw (t.unwait txn) txn ⟨page, mode⟩ hA hs1
  unfold Want.v at hag
  rw [hos] at hag
  have hm0 : mode ≠ 0 := by omega
  clear hA1 hK1 hsz
  go_enter Try.func11, Try.ntmps11
  go_wp2_with (first | (go_at_call 37; (with_reducible refine (join_any _ _ _).mono ?_); rintro _ _ ⟨rfl, rfl⟩; rw [hmd]) | (go_at_call 38; (with_reducible refine hag.mono ?_); rintro _ w2 ⟨v2, rfl, hown2, hb2⟩; (obtain ⟨g2, cap2, rfl⟩ := owned_nil hown2); have hA2 := hA.keeps (Keeps.of_below (S := fun _ => False) hb2) (fun _ _ hf => hf); have c3 := cell_in (o := 2) (u := .int .i64 t.count) hA2.self rfl))
  go_ret
  simp only [hr]
  exact ⟨0, rfl, hA2, hK.trans' (Keeps.of_below (S := fun _ => False) hb2) (fun _ _ hf => hf.elim), fun k hk => .inl hk⟩
end Go.Proofs.Ytnficiohnhodiaa
