import Derived.Test.YtnficiohnhodiaaSlotP
import Derived.Lib.SlBytesConst
/-
  Slots over a device whose power is there: the calls' contracts as the statements use them.
-/
namespace Go.Proofs.Ytnficiohnhodiaa
open Go.RowKit
theorem lit_bytes (w : World) (l : List UInt8) (T : TypeId) (fz : Nat × Nat) : Bytes (w.alloc (.cells (bytesV l).toArray T fz)) (.slice (some ⟨w.heap.size, 0, none⟩) l.length l.length) l ∨ maxLen < l.length := by
  by_cases hm : maxLen < l.length
  · exact .inr hm
  · refine .inl ⟨_, l.length, rfl, Nat.le_refl _, by omega, fun j b hb => ⟨_, rfl, ?_⟩⟩
    rw [Addr.add_mid, Nat.zero_add]
    exact cell_in (heap_alloc_new w _) (by unfold bytesV; rw [List.getElem?_toArray, List.getElem?_map, hb]; rfl)
theorem lit_one (w : World) (b : UInt8) (T : TypeId) (fz : Nat × Nat) : Bytes (w.alloc (.cells #[.int .u8 (b.toNat : Int)] T fz)) (.slice (some ⟨w.heap.size, 0, none⟩) 1 1) [b] :=
  (lit_bytes w [b] T fz).resolve_right (by unfold maxLen; simp)
theorem strB_toList (l : List UInt8) : (strB l).toList = l := ByteArray.toList_mk l
theorem row_form {w : World} {s p : Nat} {at_ number : Int} {row : List UInt8} {dead : Bool} (h : SlotAt w s p at_ number row dead) (hl : row.length ≤ 1000000000000) :
    Calls Try.prog 64 #[.pointer (some ⟨s, 0, none⟩)] w fun e w' => ∃ q m c, e = .returned (.slice q m c) ∧ SubRow w' w.heap.size (.slice q m c) (bytesV row) ∧ (convert 52 9 (.slice q m c)).run Try.prog w' = .ok (.string (strB row)) w' ∧ Below w.heap.size w w' :=
  (row_any h hl).mono fun _ _ ⟨q, c, h1, h2, h3⟩ => ⟨q, _, c, h1, h2, conv_bytes (Bytes.of_sub h2), h3⟩
section
variable {w0 w : World} {p mn ms mc n s : Nat} {d : Dev} {at_ number : Int} {row new : List UInt8} {v : Value}
theorem format_live (hD : DB w0 w p mn ms mc d n) (hn : n ≤ 100000000) (hlv : Live d) (h0 : 0 ≤ at_) (h1 : at_ < d.size - 1) (hv : Bytes w v row) (hl : row.length ≤ 480) :
    Calls Try.prog 60 #[.pointer (some ⟨p, 0, none⟩), .int .i64 at_, v] w fun e w' => ∃ s d', e = .returned (.tuple #[.pointer (some ⟨s, 0, none⟩), .nilIface]) ∧ DB w0 w' p mn ms mc d' (n + 3) ∧ Clean d' at_ 1 row ∧ d'.size = d.size ∧ (∀ j, j ≠ at_ → j ≠ at_ + 1 → d'.now j = d.now j) ∧ (∀ j, d'.chg j = false) ∧ SlotAt w' s p at_ 1 row false ∧ w.heap.size ≤ s ∧ Keeps (DFoot p mn ms mc) w w' := by
  obtain ⟨d', hd', hc, hsz, hnow, hchg⟩ := format_clean hD.ok hlv h0 h1 hl
  refine (format_any hD hn hv).mono fun e w' hp => ?_
  rw [hd'] at hp
  obtain ⟨hD', hK, hor⟩ := hp
  rcases hor with ⟨hne, _⟩ | ⟨_, s, he, hS, hs, _⟩
  · exact absurd rfl hne
  · exact ⟨s, d', he, hD', hc, hsz, hnow, hchg, hS, hs, hK⟩
theorem save_ok' (hD : DB w0 w p mn ms mc d n) (hn : n ≤ 100000000) (hc : Clean d at_ number row) (hS : SlotAt w s p at_ number row false) (hs0 : w0.heap.size ≤ s) (hm : number < most62) (hv : Bytes w v new) (hl : new.length ≤ 480) :
    Calls Try.prog 61 #[.pointer (some ⟨s, 0, none⟩), v] w fun e w' => e = .returned .nilIface ∧ ∃ d', DB w0 w' p mn ms mc d' (n + 2) ∧ Clean d' at_ (number + 1) new ∧ SlotAt w' s p at_ (number + 1) new false ∧ Keeps (SFoot p mn ms mc s) w w' := by
  obtain ⟨d', hd', hc'⟩ := save_clean hD.ok hc hm hl
  have := hc.a1
  have := hD.ok.z2
  have hn1 := hc.num
  refine (save_any (new := new) hD hn hS hs0 hv hc.a0 (by omega) (by omega)).mono fun e w' hp => ?_
  rw [hd'] at hp
  obtain ⟨he, hD', hS', hK, _⟩ := hp
  exact ⟨by rw [he]; rfl, d', hD', hc', hS', hK⟩
theorem open_ok (hD : DB w0 w p mn ms mc d n) (hc : Clean d at_ number row) :
    Calls Try.prog 62 #[.pointer (some ⟨p, 0, none⟩), .int .i64 at_] w fun e w' => ∃ s, e = .returned (.tuple #[.pointer (some ⟨s, 0, none⟩), .nilIface]) ∧ DB w0 w' p mn ms mc d n ∧ SlotAt w' s p at_ number row false ∧ w.heap.size ≤ s ∧ Below w.heap.size w w' := by
  refine (open_any hD at_).mono fun e w' hp => ?_
  rw [hc.opens] at hp
  obtain ⟨hD', hB, hor⟩ := hp
  rcases hor with ⟨hne, _⟩ | ⟨_, s, he, hS, hs, _⟩
  · exact absurd rfl hne
  · exact ⟨s, he, hD', hS, hs, hB⟩
end
end Go.Proofs.Ytnficiohnhodiaa
