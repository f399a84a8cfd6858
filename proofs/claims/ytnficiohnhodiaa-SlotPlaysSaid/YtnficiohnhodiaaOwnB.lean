import Derived.Test.YtnficiohnhodiaaOwnA
/-
  Over, Apart: bytes are written over; lists are marked, grown, and looked at.
-/
namespace Go.Proofs.Ytnficiohnhodiaa
open Go.RowKit
theorem xor_byteO (b : UInt8) : ∃ x : UInt8, bits .xor .u8 (b.toNat : Int) 255 = (x.toNat : Int) := by
  have h : ∀ n : Fin 256, ∃ x : Fin 256, bits .xor .u8 (n.val : Int) 255 = (x.val : Int) := by decide +kernel
  obtain ⟨x, hx⟩ := h ⟨b.toNat, b.toNat_lt⟩
  exact ⟨UInt8.ofNat x.val, by rw [UInt8.toNat_ofNat', Nat.mod_eq_of_lt (by have := x.isLt; omega)]; exact hx⟩
theorem bytesV_set (l : List UInt8) (j : Nat) (x : UInt8) : (bytesV l).set j (byteV x) = bytesV (l.set j x) := by unfold bytesV; rw [List.map_set]
theorem bytesV_get {l : List UInt8} {j : Nat} {x : UInt8} (h : l[j]? = some x) : (bytesV l)[j]? = some (byteV x) := by unfold bytesV; rw [List.getElem?_map, h]; rfl
theorem SubRow.cellAt {w : World} {B g off n cap : Nat} {xs : List Value} (h : SubRow w B (.slice (some ⟨g, off, none⟩) n cap) xs) {j : Nat} {u : Value} (hu : xs[j]? = some u) : w.cell? ⟨g, off + j, none⟩ = some u ∧ w.frozen? ⟨g, off + j, none⟩ = false := by
  rcases h with ⟨e, _⟩ | ⟨g', off', cap', e, h1, h2, h3, h4, h5, h6⟩
  · cases e
  injection e with e1 e2 e3
  injection e1 with e1
  injection e1 with e4 e5 _
  subst e4 e5 e3
  exact ⟨h6 j u hu, (h5 j (by have := (List.getElem?_eq_some_iff.1 hu).1; omega)).2⟩
set_option maxRecDepth 100000 in
set_option maxHeartbeats 1000000 in
theorem over_any (w : World) (B g off n cap : Nat) (l : List UInt8) (hn : l.length = n) (hn2 : n ≤ 1000000000) (h : SubRow w B (.slice (some ⟨g, off, none⟩) n cap) (bytesV l)) :
    Calls Try.prog 53 #[.slice (some ⟨g, off, none⟩) n cap] w fun e w' => e = .returned (.tuple #[]) ∧ ∃ l' : List UInt8, l'.length = n ∧ SubRow w' B (.slice (some ⟨g, off, none⟩) n cap) (bytesV l') ∧ Keeps (· = g) w w' := by
  have H := Lib.hid h
  have Hn := Lib.hid hn
  clear h hn
  go_enter Try.func53, Try.ntmps53
  go_wp2
  go_loopw [5] (fun i wr => ∃ (k : Nat) (l' : List UInt8), i = .int .i64 k ∧ k ≤ n ∧ l'.length = n ∧ SubRow wr B (.slice (some ⟨g, off, none⟩) n cap) (bytesV l') ∧ Keeps (· = g) w wr) (fun i _ => n - (intOf i).toNat)
  case atStart => exact ⟨0, l, rfl, Nat.zero_le _, Hn.out, H.out, Keeps.refl _ _⟩
  case round =>
    clear H Hn
    obtain ⟨k, l', rfl, hk, hl', hS, hK⟩ := hrel
    have hcap : n ≤ cap := by obtain ⟨_, _, e, h1, _⟩ := hS.form; rw [bytesV_len] at e h1; injection e with _ _ e; omega
    have Hl := Lib.hid hl'
    have HS := Lib.hid hS
    have HK := Lib.hid hK
    clear hl' hK
    by_cases hlt : k < n
    · obtain ⟨b, hb⟩ : ∃ b, l'[k]? = some b := ⟨_, List.getElem?_eq_getElem (by have := Hl.out; omega)⟩
      obtain ⟨x, hx⟩ := xor_byteO b
      obtain ⟨c1, f1⟩ := hS.cellAt (bytesV_get hb)
      have hs2 := Lib.hid (hS.set k (by rw [bytesV_len]; have := Hl.out; omega) (byteV x))
      have hK2 : Hid (Keeps (· = g) w (wr.setCell ⟨g, off + k, none⟩ (byteV x))) := Lib.hid (HK.out.trans (Keeps.cellAt (S := (· = g)) rfl _))
      have c1' : wr.cell? ⟨g, off + k, none⟩ = some (.int .u8 (b.toNat : Int)) := c1
      have hs3 : Hid (SubRow (wr.setCell ⟨g, off + k, none⟩ (.int .u8 (x.toNat : Int))) B (.slice (some ⟨g, off, none⟩) n cap) (bytesV (l'.set k x))) := Lib.hid (by rw [← bytesV_set]; exact hs2.out)
      have hK3 : Hid (Keeps (· = g) w (wr.setCell ⟨g, off + k, none⟩ (.int .u8 (x.toNat : Int)))) := hK2
      clear hb hS c1 hs2 hK2
      go_wp2
      go_roundw
      case rel => exact ⟨k + 1, l'.set k x, by go_num, by omega, by rw [List.length_set]; exact Hl.out, hs3.out, hK3.out⟩
      case measure => simp [intOf]; omega
    · obtain rfl : k = n := by omega
      clear hS
      go_wp2
      go_end0
      exact ⟨rfl, l', Hl.out, HS.out, HK.out⟩
end Go.Proofs.Ytnficiohnhodiaa
