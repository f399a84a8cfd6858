import Derived.Test.YtbaphjnglkocpaaWireC
/-
  Takes: bytes that are no such numbers.
-/
namespace Go.Proofs.Ytbaphjnglkocpaa
open Go.RowKit
set_option maxRecDepth 100000 in
set_option maxHeartbeats 4000000 in
theorem Takes_none {w : World} {v : Value} {l : List UInt8} {c : Nat} (h : Bytes w v l) (hl : l.length ≤ 1000000000000) (hc : c ≤ 4096) (ht : takesM c l = none) :
    Calls Try.prog 72 #[v, .int .i64 (c : Int)] w fun e w' => e = .returned (.tuple #[.slice none 0 0, .slice none 0 0, errV 4]) ∧ Below w.heap.size w w' := by
  obtain ⟨i0, hi, hz0, hz1, hz2⟩ := info_parts infoI
  have hb0 : Below w.heap.size w w := Below.refl _ _
  have hcc : ((c : Nat) : Int) ≤ 4096 := by omega
  have hm := makeErr 4
  rw [errV_pos (by decide)]
  go_enter Try.func72, Try.ntmps72
  go_wp2
  go_loopw [0, 7, 18] (fun b o i wr => ∃ (k : Nat) (cur : List UInt8) (done : List Int), k ≤ c ∧ i = .int .i64 k ∧ takesM (c - k) cur = none ∧ done.length = k ∧ cur.length ≤ 1000000000000 ∧ Bytes w b cur ∧ SubRow wr w.heap.size o (done.map (Value.int .i64)) ∧ Below w.heap.size w wr) (fun _ _ i _ => c - (intOf i).toNat)
  case atStart => exact ⟨0, l, [], Nat.zero_le _, rfl, ht, rfl, hl, h, .inl ⟨rfl, rfl⟩, hb0⟩
  case round =>
    clear ht h hb0 hl
    obtain ⟨k, cur, done, hk, rfl, ht, hdl, hl, hB, hO, hb⟩ := hrel
    by_cases hlt : k < c
    · obtain ⟨d, hd⟩ : ∃ d, c - k = d + 1 := ⟨c - k - 1, by omega⟩
      rw [hd, takesM] at ht
      have hor : takeN cur = none ∨ ∃ n kk, takeN cur = some (n, kk) ∧ takesM d (cur.drop kk) = none := by
        cases htn : takeN cur with
        | none => exact .inl rfl
        | some p =>
          obtain ⟨n, kk⟩ := p
          rw [htn] at ht
          simp only [] at ht
          split at ht
          · rename_i htm; exact .inr ⟨n, kk, rfl, htm⟩
          · cases ht
      rcases hor with htn | ⟨n, kk, htn, htm⟩
      · clear ht
        have htk := take_any (hB.below hb)
        have e1 : takeV cur = (0, 0) := by unfold takeV; rw [htn]; rfl
        rw [e1] at htk
        have htk : Calls Try.prog 101 #[u0] wr fun e w' => e = .returned (.tuple #[.int .i64 0, .int .i64 0]) ∧ wr = w' := htk
        clear e1 htn hd hB hO
        go_wp2_with (go_at_call 101; (with_reducible refine htk.mono ?_); rintro _ _ ⟨rfl, rfl⟩; clear htk)
        go_ret3
        exact ⟨rfl, hb⟩
      · clear ht
        have hkl := takeN_len htn
        have htk := take_any (hB.below hb)
        have e1 : takeV cur = (n, kk) := by unfold takeV; rw [htn]; rfl
        rw [e1] at htk
        simp only [] at htk
        have HB := Lib.hid hB
        obtain ⟨q, cap, rfl, h1, h2, _⟩ := hB
        have hk0 : ((kk : Int) == 0) = false := by simp; omega
        have hkk : ((kk : Nat) : Int) ≤ ((cur.length : Nat) : Int) := by omega
        obtain ⟨X1, hX1⟩ : ∃ X, (if cap = kk then q else Option.map (fun x => x.add kk) q) = X := ⟨_, rfl⟩
        have HB2 : Hid (Bytes w (.slice X1 (cur.length - kk) (cap - kk)) (cur.drop kk)) := Lib.hid (by have := HB.out.sub' kk (by omega); rwa [hX1] at this)
        have Hst : Hid (takesM d (cur.drop kk) = none ∧ (done ++ [n]).length = k + 1 ∧ (cur.drop kk).length ≤ 1000000000000) := Lib.hid ⟨htm, by simp; omega, by rw [List.length_drop]; omega⟩
        have Hdl : Hid ((done.map (Value.int .i64)).length = k) := Lib.hid (by simpa using hdl)
        have hbs := hb.size
        have Hd := Lib.hid hd
        unfold maxLen at h2
        clear e1 htn htm hdl hd
        go_wp2_with (first
          | (go_at_call 101; (with_reducible refine htk.mono ?_); rintro _ _ ⟨rfl, rfl⟩; clear htk)
          | (at_builtin; refine wpList_append_sub _ rfl _ _ 32 rfl 3 i0 (.int .i64 0) 8 Try.underlying32 hi hz0 hz1 hz2 rfl w.heap.size _ (done.map (Value.int .i64)) rfl (hO.below ((Below.refl _ _).alloc (Nat.le_refl _) _)) _ rfl [.int .i64 n] (src_one Try.underlying32 _ rfl _) (by rw [Hdl.out]; simp; unfold maxLen; omega) (by rw [Hdl.out]; simp; omega) (by simp; omega) ?_; intro v' w7 h7 hk7 hn7))
        all_goals
          have hlt7 := hO.lt
          have hb7 : Below w.heap.size w w7 := (hb.alloc hbs _).trans (hk7.below (by simp; omega) (fun j hj e => by have := (hlt7 j e).1; omega))
          have h7' : SubRow w7 w.heap.size v' ((done ++ [n]).map (Value.int .i64)) := by rw [List.map_append]; exact h7
          clear hk7 hn7 hlt7 hO hb h7 hX1
          go_wp2
          go_roundw
          case rel => exact ⟨k + 1, cur.drop kk, done ++ [n], by omega, by go_num, by rw [show c - (k + 1) = d from by have := Hd.out; omega]; exact Hst.out.1, Hst.out.2.1, Hst.out.2.2, HB2.out, h7', hb7⟩
          case measure => simp [intOf]; omega
    · rw [show c - k = 0 from by omega] at ht
      cases ht
end Go.Proofs.Ytbaphjnglkocpaa
