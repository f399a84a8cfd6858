import Derived.Test.YtbaphjnglkocpaaSub
import Derived.Test.YtbaphjnglkocpaaRows
import Derived.Laws.LoneSync
import Derived.Deep.WholeRow
import Derived.Lib.IfaceEq
import Derived.Lib.IfaceNeq
/-
  The device: what it is; how it lies in memory; its small functions.
-/
namespace Go.Proofs.Ytbaphjnglkocpaa
open Go.RowKit
open Go.ChangeMaps (setBlock)
def byteV (b : UInt8) : Value := .int .u8 b.toNat
def bytesV (l : List UInt8) : List Value := l.map byteV
def secV (l : List UInt8) : Value := .agg (bytesV l).toArray
def blank : List UInt8 := List.replicate 512 0
/-! pairs with int keys -/
def aget {α : Type} (l : List (Int × α)) (k : Int) : Option α := (l.find? fun p => p.1 == k).map (·.2)
def enc {α : Type} (f : α → Value) (l : List (Int × α)) : IM := l.map fun p => (p.1, f p.2)
/-- the device: of each sector its bytes, as they are and as they were synced; which were written since (rising) -/
structure Dev where
  steps : Int
  syncs : Int
  left : Int
  armed : Bool
  down : Bool
  size : Int
  now : Int → List UInt8
  synced : Int → List UInt8
  chg : Int → Bool
structure DevAt (w : World) (p mn ms mc : Nat) (d : Dev) : Prop where
  self : w.heap[p]? = some (.cells #[.int .i64 d.steps, .int .i64 d.syncs, .int .i64 d.left, .bool d.armed, .bool d.down, .int .i64 d.size, .map (some mn), .map (some ms), .map (some mc)] 108 (0, 0))
  now : ∃ l : List (Int × List UInt8), IMap w mn (enc secV l) ∧ ∀ k, (aget l k).getD blank = d.now k
  synced : ∃ l : List (Int × List UInt8), IMap w ms (enc secV l) ∧ ∀ k, (aget l k).getD blank = d.synced k
  chg : ∃ l : List (Int × Int), IMap w mc (enc (fun n => .int .i64 n) l) ∧ ∀ k, (aget l k).isSome = d.chg k
  apart : [p, mn, ms, mc].Nodup
def DFoot (p mn ms mc : Nat) (k : Nat) : Prop := k = p ∨ k = mn ∨ k = ms ∨ k = mc
theorem DevAt.keeps {S : Nat → Prop} {w w' : World} {p mn ms mc : Nat} {d : Dev} (h : DevAt w p mn ms mc d) (hk : Keeps S w w') (hs : ∀ k, DFoot p mn ms mc k → ¬ S k) : DevAt w' p mn ms mc d := by
  obtain ⟨l1, a1, b1⟩ := h.now
  obtain ⟨l2, a2, b2⟩ := h.synced
  obtain ⟨l3, a3, b3⟩ := h.chg
  exact ⟨hk.at h.self (hs _ (.inl rfl)), ⟨l1, a1.keeps hk (hs _ (.inr (.inl rfl))), b1⟩, ⟨l2, a2.keeps hk (hs _ (.inr (.inr (.inl rfl)))), b2⟩, ⟨l3, a3.keeps hk (hs _ (.inr (.inr (.inr rfl)))), b3⟩, h.apart⟩
theorem DevAt.lt {w : World} {p mn ms mc : Nat} {d : Dev} (h : DevAt w p mn ms mc d) : ∀ k, DFoot p mn ms mc k → k < w.heap.size := by
  obtain ⟨l1, a1, b1⟩ := h.now
  obtain ⟨l2, a2, b2⟩ := h.synced
  obtain ⟨l3, a3, b3⟩ := h.chg
  rintro k (rfl | rfl | rfl | rfl)
  · exact lt_of h.self
  · exact a1.lt
  · exact a2.lt
  · exact a3.lt
def errV (k : Int) : Value := if k = 0 then Value.nilIface else .iface 40 (.int .i64 k)
theorem errV_zero : errV 0 = .nilIface := rfl
theorem errV_pos {k : Int} (h : k ≠ 0) : errV k = .iface 40 (.int .i64 k) := by unfold errV; rw [if_neg h]
theorem makeErr (k : Int) (w : World) : (Instr.makeInterface 40 (.int .i64 k)).run Try.prog w = .ok (.iface 40 (.int .i64 k)) w := by kernel_rfl
def Dev.new (size : Int) : Dev := ⟨0, 0, 0, false, false, size, fun _ => blank, fun _ => blank, fun _ => false⟩
theorem new_bad (n : Int) (w : World) (h : n < 1 ∨ 4096 < n) : Calls Try.prog 20 #[.int .i64 n] w fun e w' => e = .returned (.tuple #[.pointer none, errV 1]) ∧ w = w' := by
  have hm := makeErr 1
  rcases h with h | h
  all_goals
    go_enter Try.func20, Try.ntmps20
    go_wp2
    go_ret2
    exact ⟨rfl, rfl⟩
theorem new_ok (n : Int) (w : World) (h1 : 1 ≤ n) (h2 : n ≤ 4096) : Calls Try.prog 20 #[.int .i64 n] w fun e w' => ∃ p mn ms mc, e = .returned (.tuple #[.pointer (some ⟨p, 0, none⟩), .nilIface]) ∧ DevAt w' p mn ms mc (Dev.new n) ∧ Below w.heap.size w w' ∧ ∀ k, DFoot p mn ms mc k → w.heap.size ≤ k := by
  have hmm := @run_makeMap Try.prog
  go_enter Try.func20, Try.ntmps20
  go_wp2
  go_ret2
  refine ⟨w.heap.size + 1 + 1 + 1, w.heap.size, w.heap.size + 1, w.heap.size + 1 + 1, rfl, ⟨alloc_at _ _ _ (by simp), ⟨[], imap_nil (clock := 0) (at_alloc (at_alloc (at_alloc (heap_alloc_new w _) _) _) _), fun _ => rfl⟩, ⟨[], imap_nil (clock := 0) (at_alloc (at_alloc (alloc_at _ _ _ (by simp)) _) _), fun _ => rfl⟩, ⟨[], imap_nil (clock := 0) (at_alloc (alloc_at _ _ _ (by simp)) _), fun _ => rfl⟩, ?_⟩,
    ((((Below.refl _ _).alloc (Nat.le_refl _) _).alloc (by simp) _).alloc (by simp; omega) _).alloc (by simp; omega) _, ?_⟩
  · simp; omega
  · rintro k (rfl | rfl | rfl | rfl) <;> omega
/-- its cells, for a walk -/
structure DCells (w : World) (p mn ms mc : Nat) (d : Dev) : Prop where
  c0 : w.cell? ⟨p, 0, none⟩ = some (.int .i64 d.steps)
  c1 : w.cell? ⟨p, 1, none⟩ = some (.int .i64 d.syncs)
  c2 : w.cell? ⟨p, 2, none⟩ = some (.int .i64 d.left)
  c3 : w.cell? ⟨p, 3, none⟩ = some (.bool d.armed)
  c4 : w.cell? ⟨p, 4, none⟩ = some (.bool d.down)
  c5 : w.cell? ⟨p, 5, none⟩ = some (.int .i64 d.size)
  c6 : w.cell? ⟨p, 6, none⟩ = some (.map (some mn))
  c7 : w.cell? ⟨p, 7, none⟩ = some (.map (some ms))
  c8 : w.cell? ⟨p, 8, none⟩ = some (.map (some mc))
theorem DevAt.cells {w : World} {p mn ms mc : Nat} {d : Dev} (h : DevAt w p mn ms mc d) : DCells w p mn ms mc d :=
  ⟨cell_in h.self rfl, cell_in h.self rfl, cell_in h.self rfl, cell_in h.self rfl, cell_in h.self rfl, cell_in h.self rfl, cell_in h.self rfl, cell_in h.self rfl, cell_in h.self rfl⟩
theorem DevAt.free {w : World} {p mn ms mc : Nat} {d : Dev} (h : DevAt w p mn ms mc d) (o : Nat) : w.frozen? ⟨p, o, none⟩ = false := free_in h.self
/-- its own cells are written -/
theorem DevAt.upd {w w' : World} {p mn ms mc : Nat} {d d' : Dev} (h : DevAt w p mn ms mc d) (hk : Keeps (· = p) w w')
    (hs : w'.heap[p]? = some (.cells #[.int .i64 d'.steps, .int .i64 d'.syncs, .int .i64 d'.left, .bool d'.armed, .bool d'.down, .int .i64 d'.size, .map (some mn), .map (some ms), .map (some mc)] 108 (0, 0)))
    (h1 : d'.now = d.now) (h2 : d'.synced = d.synced) (h3 : d'.chg = d.chg) : DevAt w' p mn ms mc d' := by
  have ha := h.apart
  simp only [List.nodup_cons, List.mem_cons, List.not_mem_nil, or_false, not_or] at ha
  obtain ⟨⟨n1, n2, n3⟩, _⟩ := ha
  obtain ⟨l1, a1, b1⟩ := h.now
  obtain ⟨l2, a2, b2⟩ := h.synced
  obtain ⟨l3, a3, b3⟩ := h.chg
  exact ⟨hs, ⟨l1, a1.keeps hk (fun e => n1 e.symm), fun k => h1 ▸ b1 k⟩, ⟨l2, a2.keeps hk (fun e => n2 e.symm), fun k => h2 ▸ b2 k⟩, ⟨l3, a3.keeps hk (fun e => n3 e.symm), fun k => h3 ▸ b3 k⟩, h.apart⟩
section
variable (w : World) (p mn ms mc : Nat) (d : Dev) (h : DevAt w p mn ms mc d)
include h
theorem size_any : Calls Try.prog 36 #[.pointer (some ⟨p, 0, none⟩)] w fun e w' => e = .returned (.int .i64 d.size) ∧ w = w' := by
  have c := h.cells.c5
  clear h
  go_enter Try.func36, Try.ntmps36
  go_wp2
  go_ret
  exact ⟨rfl, rfl⟩
theorem down_any : Calls Try.prog 32 #[.pointer (some ⟨p, 0, none⟩)] w fun e w' => e = .returned (.bool d.down) ∧ w = w' := by
  have c := h.cells.c4
  clear h
  go_enter Try.func32, Try.ntmps32
  go_wp2
  go_ret
  exact ⟨rfl, rfl⟩
omit h in
theorem load_any (o : Nat) (v : Int) (hc : w.cell? ⟨p, o, none⟩ = some (.int .i64 v)) : Calls Try.prog 67 #[.pointer (some ⟨p, o, none⟩)] w fun e w' => e = .returned (.int .i64 v) ∧ w = w' := by
  have hl := run_call_load (P := Try.prog) Try.func95 (by kernel_rfl) (by kernel_rfl) (by kernel_rfl) .i64 (by kernel_rfl) hc
  go_enter Try.func67, Try.ntmps67
  go_wp2
  go_ret
  exact ⟨rfl, rfl⟩
end
theorem steps_any (w : World) (p mn ms mc : Nat) (d : Dev) (h : DevAt w p mn ms mc d) : Calls Try.prog 30 #[.pointer (some ⟨p, 0, none⟩)] w fun e w' => e = .returned (.int .i64 d.steps) ∧ w = w' := by
  have hl := load_any w p 0 d.steps h.cells.c0
  clear h
  go_enter Try.func30, Try.ntmps30
  go_wp2_with (go_at_call 67; (with_reducible refine hl.mono ?_); rintro _ _ ⟨rfl, rfl⟩)
  go_ret
  exact ⟨rfl, rfl⟩
theorem syncs_any (w : World) (p mn ms mc : Nat) (d : Dev) (h : DevAt w p mn ms mc d) : Calls Try.prog 31 #[.pointer (some ⟨p, 0, none⟩)] w fun e w' => e = .returned (.int .i64 d.syncs) ∧ w = w' := by
  have hl := load_any w p 1 d.syncs h.cells.c1
  clear h
  go_enter Try.func31, Try.ntmps31
  go_wp2_with (go_at_call 67; (with_reducible refine hl.mono ?_); rintro _ _ ⟨rfl, rfl⟩)
  go_ret
  exact ⟨rfl, rfl⟩
theorem add_any (w : World) (p o : Nat) (v : Int) (hc : w.cell? ⟨p, o, none⟩ = some (.int .i64 v)) (hf : w.frozen? ⟨p, o, none⟩ = false) (h1 : 0 ≤ v) (h2 : v ≤ 4611686018427387904) :
    Calls Try.prog 90 #[.pointer (some ⟨p, o, none⟩), .int .i64 1] w fun e w' => e = .returned (.int .i64 (v + 1)) ∧ w' = w.setCell ⟨p, o, none⟩ (.int .i64 (v + 1)) := by
  have hs : (Op.intArith .add .i64 v 1).run Try.prog w = .ok (.int .i64 (v + 1)) w := by
    have : IntKind.i64.wrap (v + 1) = v + 1 := by rw [IntKind.wrap_i64]; omega
    simp [go_sem, this]
  have ha := run_call_add (P := Try.prog) Try.func111 (by kernel_rfl) (by kernel_rfl) (by kernel_rfl) .i64 (by kernel_rfl) (y := 1) hc hf hs
  clear hs
  go_enter Try.func90, Try.ntmps90
  go_wp2
  go_ret
  exact ⟨rfl, rfl⟩
def Dev.step (d : Dev) : Int × Dev :=
  if d.down = true ∨ (d.armed = true ∧ d.left = 0) then (3, { d with down := true }) else (0, { d with left := if d.armed then d.left - 1 else d.left, steps := d.steps + 1 })
end Go.Proofs.Ytbaphjnglkocpaa
