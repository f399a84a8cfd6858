import Derived.Test.YtbaphjnglkocpaaJournP
/-
  The journal's laws: a model that begins; JournalRooms.
-/
namespace Go.Proofs.Ytbaphjnglkocpaa
open Go.RowKit
theorem mod_of (a : Int) (k : Nat) (h0 : 0 < k) (h1 : k ≤ 1000000) : ∃ m : Nat, m < k ∧ wrap64 ((IntKind.u64.wrap a).tmod k) = (m : Int) := by
  have hx : 0 ≤ IntKind.u64.wrap a := by
    show 0 ≤ a % (2 ^ IntKind.u64.bits : Int)
    exact Int.emod_nonneg _ (by decide)
  rw [Int.tmod_eq_emod_of_nonneg hx]
  generalize IntKind.u64.wrap a = x at *
  have e1 := Int.emod_nonneg x (show (k : Int) ≠ 0 by omega)
  have e2 := Int.emod_lt_of_pos x (show (0 : Int) < k by omega)
  refine ⟨(x % k).toNat, by omega, ?_⟩
  unfold wrap64; omega
/-- a model's own cells -/
structure ModelAt (w : World) (b : Nat) (A : JAd) (n : Int) : Prop where
  self : ∃ q c, w.heap[b]? = some (.cells #[.pointer (some ⟨A.p, 0, none⟩), .int .i64 n, .pointer (some ⟨A.j, 0, none⟩), .slice none 0 0, .slice q 1 c, .int .i64 1, .string ByteArray.empty, .int .i64 1, .int .i64 0, .bool false, .slice none 0 0] 37 (0, 0))
set_option maxRecDepth 100000 in
theorem begun_ok (w : World) (n : Int) (h2 : 2 ≤ n) (h3 : n ≤ 2048) : Calls Try.prog 11 #[.int .i64 n] w fun e w' => ∃ b A d, e = .returned (.pointer (some ⟨b, 0, none⟩)) ∧ ModelAt w' b A n ∧ JB w w' A d (JM.new 1 n) 3000 ∧ Fresh (Dev.new (n + 3)) d 1 n ∧ w.heap.size ≤ b ∧ ¬ A.Foot b := by
  have hnw := new_db w w (n + 3) (by omega) (by omega) (Below.refl _ _)
  go_enter Try.func11, Try.ntmps11
  go_upto_region 7 with (first
    | (go_at_call 20; (with_reducible refine hnw.mono ?_); rintro _ w1 ⟨p, mn, ms, mc, rfl, h1, b1, _⟩; clear hnw; have hfm := jformat_live (at_ := 1) (n := n) h1 (by omega) ⟨rfl, rfl⟩ (by omega) h2 h3 (by show (1 : Int) ≤ n + 3 - 2 - n; omega); clear h1 b1)
    | (go_at_call 50; (with_reducible refine hfm.mono ?_); rintro _ w2 ⟨A, d1, rfl, E2, h2', fr2, _, _⟩; clear hfm))
  have H2 := Lib.hid h2'
  have Hf2 := Lib.hid fr2
  have E2' := Lib.hid E2
  clear h2' fr2 E2
  go_wp2
  go_ret
  have b4 : Below w2.heap.size w2 (w2.alloc (.cells #[.int .i64 0] 3)) := (Below.refl _ _).alloc (Nat.le_refl _) _
  have hb := b4.alloc (by simp) (.cells #[.pointer (some ⟨p, 0, none⟩), .int .i64 n, .pointer (some ⟨A.j, 0, none⟩), .slice none 0 0, .slice (some ⟨w2.heap.size, 0, none⟩) 1 1, .int .i64 1, .string ByteArray.empty, .int .i64 1, .int .i64 0, .bool false, .slice none 0 0] 37)
  have hn := H2.out.new (k := w2.heap.size + 1) (by omega)
  refine ⟨w2.heap.size + 1, A, d1, rfl, ⟨⟨some ⟨w2.heap.size, 0, none⟩, 1, ?_⟩⟩, H2.out.below hb, Hf2.out, hn.2.1, hn.1⟩
  rw [E2'.out.1]
  exact alloc_at _ _ _ (by simp)
section
variable {w0 w W : World} {A : JAd} {m : JM} {d : Dev} {c : Nat}
theorem japp_at (h : JB w0 w A d m c) (hcc : c ≤ 10000000) (hB : Below w.heap.size w W) {b n : Nat} {r : List UInt8} (hn : r.length = n) (hb : Bytes W (.slice (some ⟨b, 0, none⟩) n n) r) (hq : w.heap.size ≤ b) {x : Int × Int × JM} (hx : m.put r m.booked = x) :
    Calls Try.prog 12 #[.pointer (some ⟨A.j, 0, none⟩), .slice (some ⟨b, 0, none⟩) n n] W fun e w' => e = .returned (.tuple #[.int .i64 x.1, errV x.2.1]) ∧ ∃ A', JB w0 w' A' d x.2.2 (c + 1) ∧ JStep w w' A A' ∧ (A'.p = A.p ∧ A'.mn = A.mn ∧ A'.ms = A.ms ∧ A'.mc = A.mc ∧ A'.j = A.j) := by
  subst hx hn
  refine (japp_any (h.below hB) hcc hb (fun k e => (h.new (by cases e; exact hq)).1)).mono fun e w' ⟨he, A', hJ, hS, hE⟩ => ⟨he, A', hJ, (JStep.below A hB).trans hS, hE⟩
theorem jspend_at (h : JB w0 w A d m c) (hcc : c ≤ 10000000) (hB : Below w.heap.size w W) {b n : Nat} {r : List UInt8} (hn : r.length = n) (hb : Bytes W (.slice (some ⟨b, 0, none⟩) n n) r) (hq : w.heap.size ≤ b) {x : Int × Int × JM} (hx : m.put r 0 = x) :
    Calls Try.prog 18 #[.pointer (some ⟨A.j, 0, none⟩), .slice (some ⟨b, 0, none⟩) n n] W fun e w' => e = .returned (.tuple #[.int .i64 x.1, errV x.2.1]) ∧ ∃ A', JB w0 w' A' d x.2.2 (c + 1) ∧ JStep w w' A A' ∧ (A'.p = A.p ∧ A'.mn = A.mn ∧ A'.ms = A.ms ∧ A'.mc = A.mc ∧ A'.j = A.j) := by
  subst hx hn
  refine (jspend_any (h.below hB) hcc hb (fun k e => (h.new (by cases e; exact hq)).1)).mono fun e w' ⟨he, A', hJ, hS, hE⟩ => ⟨he, A', hJ, (JStep.below A hB).trans hS, hE⟩
end
def JM.addN (m : JM) (k : Nat) (z : List UInt8) : JM := { m with recs := m.recs ++ List.replicate k z }
theorem JM.addN_succ (m : JM) (k : Nat) (z : List UInt8) : (m.addN k z).add z = m.addN (k + 1) z := by
  unfold JM.addN JM.add
  show ({ m with recs := (m.recs ++ List.replicate k z) ++ [z] } : JM) = _
  rw [List.append_assoc, List.replicate_succ']
theorem JM.addN_free (m : JM) (k : Nat) (z : List UInt8) : (m.addN k z).free = m.free - k * (z.length + 2 : Nat) := by
  induction k with
  | zero => unfold JM.addN; simp
  | succ k ih =>
    rw [← m.addN_succ, free_add, ih]
    rw [show ((k + 1 : Nat) : Int) * ((z.length + 2 : Nat) : Int) = k * ((z.length + 2 : Nat) : Int) + ((z.length + 2 : Nat) : Int) from by rw [Int.natCast_succ, Int.add_mul, Int.one_mul]]
    omega
theorem JM.addN_recs (n : Int) (k : Nat) (z : List UInt8) : ((JM.new 1 n).addN k z).recs = List.replicate k z := by unfold JM.addN JM.new; simp
theorem recsB_rep (k : Nat) (z : List UInt8) : (recsB (List.replicate k z)).length = k * (z.length + 2) := by
  induction k with
  | zero => simp [recsB]
  | succ k ih =>
    rw [List.replicate_succ, show recsB (z :: List.replicate k z) = recB z ++ recsB (List.replicate k z) from rfl, List.length_append, ih, recB_len, Nat.succ_mul]; omega
end Go.Proofs.Ytbaphjnglkocpaa
