import Derived.Test.YtnficiohnhodiaaLow
import Derived.Test.YtnficiohnhodiaaRows
import Derived.Laws.LoneSync
import Derived.Deep.WholeRow
import Derived.Lib.IfaceEq
import Derived.Lib.IfaceNeq
import Derived.StillTailTactics
import Derived.Test.YtnficiohnhodiaaShelfK
import Derived.Shelf.SlIterI.Sorted
import Derived.Laws.CopyOwn
import Derived.Lib.AppendZerosOnto
import Derived.Deep.RegionLaw
import Derived.Test.YtnficiohnhodiaaShelf
/-
  The device: what it is; how it lies in memory; its small functions.
-/
namespace Go.Proofs.Ytnficiohnhodiaa
open Go.RowKit
open Go.ChangeMaps (setBlock)
def byteV (b : UInt8) : Value := .int .u8 b.toNat
def bytesV (l : List UInt8) : List Value := l.map byteV
def secV (l : List UInt8) : Value := .agg (bytesV l).toArray
def blank : List UInt8 := List.replicate 512 0
/-! pairs with int keys -/
def aget {α : Type} (l : List (Int × α)) (k : Int) : Option α := (l.find? fun p => p.1 == k).map (·.2)
def enc {α : Type} (f : α → Value) (l : List (Int × α)) : IM := l.map fun p => (p.1, f p.2)
/-- the device: of each sector its bytes, as they are and as they were synced; which were written since (rising) -/
structure Dev where
  steps : Int
  syncs : Int
  left : Int
  armed : Bool
  down : Bool
  size : Int
  now : Int → List UInt8
  synced : Int → List UInt8
  chg : Int → Bool
structure DevAt (w : World) (p mn ms mc : Nat) (d : Dev) : Prop where
  self : w.heap[p]? = some (.cells #[.int .i64 d.steps, .int .i64 d.syncs, .int .i64 d.left, .bool d.armed, .bool d.down, .int .i64 d.size, .map (some mn), .map (some ms), .map (some mc)] 109 (0, 0))
  now : ∃ l : List (Int × List UInt8), IMap w mn (enc secV l) ∧ ∀ k, (aget l k).getD blank = d.now k
  synced : ∃ l : List (Int × List UInt8), IMap w ms (enc secV l) ∧ ∀ k, (aget l k).getD blank = d.synced k
  chg : ∃ l : List (Int × Int), IMap w mc (enc (fun n => .int .i64 n) l) ∧ ∀ k, (aget l k).isSome = d.chg k
  apart : [p, mn, ms, mc].Nodup
def DFoot (p mn ms mc : Nat) (k : Nat) : Prop := k = p ∨ k = mn ∨ k = ms ∨ k = mc
theorem DevAt.keeps {S : Nat → Prop} {w w' : World} {p mn ms mc : Nat} {d : Dev} (h : DevAt w p mn ms mc d) (hk : Keeps S w w') (hs : ∀ k, DFoot p mn ms mc k → ¬ S k) : DevAt w' p mn ms mc d := by
  obtain ⟨l1, a1, b1⟩ := h.now
  obtain ⟨l2, a2, b2⟩ := h.synced
  obtain ⟨l3, a3, b3⟩ := h.chg
  exact ⟨hk.at h.self (hs _ (.inl rfl)), ⟨l1, a1.keeps hk (hs _ (.inr (.inl rfl))), b1⟩, ⟨l2, a2.keeps hk (hs _ (.inr (.inr (.inl rfl)))), b2⟩, ⟨l3, a3.keeps hk (hs _ (.inr (.inr (.inr rfl)))), b3⟩, h.apart⟩
theorem DevAt.lt {w : World} {p mn ms mc : Nat} {d : Dev} (h : DevAt w p mn ms mc d) : ∀ k, DFoot p mn ms mc k → k < w.heap.size := by
  obtain ⟨l1, a1, b1⟩ := h.now
  obtain ⟨l2, a2, b2⟩ := h.synced
  obtain ⟨l3, a3, b3⟩ := h.chg
  rintro k (rfl | rfl | rfl | rfl)
  · exact lt_of h.self
  · exact a1.lt
  · exact a2.lt
  · exact a3.lt
def errV (k : Int) : Value := if k = 0 then Value.nilIface else .iface 74 (.int .i64 k)
theorem errV_zero : errV 0 = .nilIface := rfl
theorem errV_pos {k : Int} (h : k ≠ 0) : errV k = .iface 74 (.int .i64 k) := by unfold errV; rw [if_neg h]
theorem makeErr (k : Int) (w : World) : (Instr.makeInterface 74 (.int .i64 k)).run Try.prog w = .ok (.iface 74 (.int .i64 k)) w := by kernel_rfl
def Dev.new (size : Int) : Dev := ⟨0, 0, 0, false, false, size, fun _ => blank, fun _ => blank, fun _ => false⟩
theorem new_bad (n : Int) (w : World) (h : n < 1 ∨ 4096 < n) : Calls Try.prog 22 #[.int .i64 n] w fun e w' => e = .returned (.tuple #[.pointer none, errV 1]) ∧ w = w' := by
  have hm := makeErr 1
  rcases h with h | h
  all_goals
    go_enter Try.func22, Try.ntmps22
    go_wp2
    go_ret2
    exact ⟨rfl, rfl⟩
theorem new_ok (n : Int) (w : World) (h1 : 1 ≤ n) (h2 : n ≤ 4096) : Calls Try.prog 22 #[.int .i64 n] w fun e w' => ∃ p mn ms mc, e = .returned (.tuple #[.pointer (some ⟨p, 0, none⟩), .nilIface]) ∧ DevAt w' p mn ms mc (Dev.new n) ∧ Below w.heap.size w w' ∧ ∀ k, DFoot p mn ms mc k → w.heap.size ≤ k := by
  have hmm := @run_makeMap Try.prog
  go_enter Try.func22, Try.ntmps22
  go_wp2
  go_ret2
  refine ⟨w.heap.size + 1 + 1 + 1, w.heap.size, w.heap.size + 1, w.heap.size + 1 + 1, rfl, ⟨alloc_at _ _ _ (by simp), ⟨[], imap_nil (clock := 0) (at_alloc (at_alloc (at_alloc (heap_alloc_new w _) _) _) _), fun _ => rfl⟩, ⟨[], imap_nil (clock := 0) (at_alloc (at_alloc (alloc_at _ _ _ (by simp)) _) _), fun _ => rfl⟩, ⟨[], imap_nil (clock := 0) (at_alloc (alloc_at _ _ _ (by simp)) _), fun _ => rfl⟩, ?_⟩,
    ((((Below.refl _ _).alloc (Nat.le_refl _) _).alloc (by simp) _).alloc (by simp; omega) _).alloc (by simp; omega) _, ?_⟩
  · simp; omega
  · rintro k (rfl | rfl | rfl | rfl) <;> omega
/-- its cells, for a walk -/
structure DCells (w : World) (p mn ms mc : Nat) (d : Dev) : Prop where
  c0 : w.cell? ⟨p, 0, none⟩ = some (.int .i64 d.steps)
  c1 : w.cell? ⟨p, 1, none⟩ = some (.int .i64 d.syncs)
  c2 : w.cell? ⟨p, 2, none⟩ = some (.int .i64 d.left)
  c3 : w.cell? ⟨p, 3, none⟩ = some (.bool d.armed)
  c4 : w.cell? ⟨p, 4, none⟩ = some (.bool d.down)
  c5 : w.cell? ⟨p, 5, none⟩ = some (.int .i64 d.size)
  c6 : w.cell? ⟨p, 6, none⟩ = some (.map (some mn))
  c7 : w.cell? ⟨p, 7, none⟩ = some (.map (some ms))
  c8 : w.cell? ⟨p, 8, none⟩ = some (.map (some mc))
theorem DevAt.cells {w : World} {p mn ms mc : Nat} {d : Dev} (h : DevAt w p mn ms mc d) : DCells w p mn ms mc d :=
  ⟨cell_in h.self rfl, cell_in h.self rfl, cell_in h.self rfl, cell_in h.self rfl, cell_in h.self rfl, cell_in h.self rfl, cell_in h.self rfl, cell_in h.self rfl, cell_in h.self rfl⟩
theorem DevAt.free {w : World} {p mn ms mc : Nat} {d : Dev} (h : DevAt w p mn ms mc d) (o : Nat) : w.frozen? ⟨p, o, none⟩ = false := free_in h.self
/-- its own cells are written -/
theorem DevAt.upd {w w' : World} {p mn ms mc : Nat} {d d' : Dev} (h : DevAt w p mn ms mc d) (hk : Keeps (· = p) w w')
    (hs : w'.heap[p]? = some (.cells #[.int .i64 d'.steps, .int .i64 d'.syncs, .int .i64 d'.left, .bool d'.armed, .bool d'.down, .int .i64 d'.size, .map (some mn), .map (some ms), .map (some mc)] 109 (0, 0)))
    (h1 : d'.now = d.now) (h2 : d'.synced = d.synced) (h3 : d'.chg = d.chg) : DevAt w' p mn ms mc d' := by
  have ha := h.apart
  simp only [List.nodup_cons, List.mem_cons, List.not_mem_nil, or_false, not_or] at ha
  obtain ⟨⟨n1, n2, n3⟩, _⟩ := ha
  obtain ⟨l1, a1, b1⟩ := h.now
  obtain ⟨l2, a2, b2⟩ := h.synced
  obtain ⟨l3, a3, b3⟩ := h.chg
  exact ⟨hs, ⟨l1, a1.keeps hk (fun e => n1 e.symm), fun k => h1 ▸ b1 k⟩, ⟨l2, a2.keeps hk (fun e => n2 e.symm), fun k => h2 ▸ b2 k⟩, ⟨l3, a3.keeps hk (fun e => n3 e.symm), fun k => h3 ▸ b3 k⟩, h.apart⟩
section
variable (w : World) (p mn ms mc : Nat) (d : Dev) (h : DevAt w p mn ms mc d)
include h
theorem size_any : Calls Try.prog 31 #[.pointer (some ⟨p, 0, none⟩)] w fun e w' => e = .returned (.int .i64 d.size) ∧ w = w' := by
  have c := h.cells.c5
  clear h
  go_enter Try.func31, Try.ntmps31
  go_wp2
  go_ret
  exact ⟨rfl, rfl⟩
theorem down_any : Calls Try.prog 28 #[.pointer (some ⟨p, 0, none⟩)] w fun e w' => e = .returned (.bool d.down) ∧ w = w' := by
  have c := h.cells.c4
  clear h
  go_enter Try.func28, Try.ntmps28
  go_wp2
  go_ret
  exact ⟨rfl, rfl⟩
omit h in
theorem load_any (o : Nat) (v : Int) (hc : w.cell? ⟨p, o, none⟩ = some (.int .i64 v)) : Calls Try.prog 58 #[.pointer (some ⟨p, o, none⟩)] w fun e w' => e = .returned (.int .i64 v) ∧ w = w' := by
  have hl := run_call_load (P := Try.prog) Try.func82 (by kernel_rfl) (by kernel_rfl) (by kernel_rfl) .i64 (by kernel_rfl) hc
  go_enter Try.func58, Try.ntmps58
  go_wp2
  go_ret
  exact ⟨rfl, rfl⟩
end
theorem steps_any (w : World) (p mn ms mc : Nat) (d : Dev) (h : DevAt w p mn ms mc d) : Calls Try.prog 26 #[.pointer (some ⟨p, 0, none⟩)] w fun e w' => e = .returned (.int .i64 d.steps) ∧ w = w' := by
  have hl := load_any w p 0 d.steps h.cells.c0
  clear h
  go_enter Try.func26, Try.ntmps26
  go_wp2_with (go_at_call 58; (with_reducible refine hl.mono ?_); rintro _ _ ⟨rfl, rfl⟩)
  go_ret
  exact ⟨rfl, rfl⟩
theorem syncs_any (w : World) (p mn ms mc : Nat) (d : Dev) (h : DevAt w p mn ms mc d) : Calls Try.prog 27 #[.pointer (some ⟨p, 0, none⟩)] w fun e w' => e = .returned (.int .i64 d.syncs) ∧ w = w' := by
  have hl := load_any w p 1 d.syncs h.cells.c1
  clear h
  go_enter Try.func27, Try.ntmps27
  go_wp2_with (go_at_call 58; (with_reducible refine hl.mono ?_); rintro _ _ ⟨rfl, rfl⟩)
  go_ret
  exact ⟨rfl, rfl⟩
theorem add_any (w : World) (p o : Nat) (v : Int) (hc : w.cell? ⟨p, o, none⟩ = some (.int .i64 v)) (hf : w.frozen? ⟨p, o, none⟩ = false) (h1 : 0 ≤ v) (h2 : v ≤ 4611686018427387904) :
    Calls Try.prog 76 #[.pointer (some ⟨p, o, none⟩), .int .i64 1] w fun e w' => e = .returned (.int .i64 (v + 1)) ∧ w' = w.setCell ⟨p, o, none⟩ (.int .i64 (v + 1)) := by
  have hs : (Op.intArith .add .i64 v 1).run Try.prog w = .ok (.int .i64 (v + 1)) w := by
    have : IntKind.i64.wrap (v + 1) = v + 1 := by rw [IntKind.wrap_i64]; omega
    simp [go_sem, this]
  have ha := run_call_add (P := Try.prog) Try.func93 (by kernel_rfl) (by kernel_rfl) (by kernel_rfl) .i64 (by kernel_rfl) (y := 1) hc hf hs
  clear hs
  go_enter Try.func76, Try.ntmps76
  go_wp2
  go_ret
  exact ⟨rfl, rfl⟩
def Dev.step (d : Dev) : Int × Dev :=
  if d.down = true ∨ (d.armed = true ∧ d.left = 0) then (3, { d with down := true }) else (0, { d with left := if d.armed then d.left - 1 else d.left, steps := d.steps + 1 })
end Go.Proofs.Ytnficiohnhodiaa


/-
  The device: a step; Arm.
-/
namespace Go.Proofs.Ytnficiohnhodiaa
open Go.RowKit
open Go.ChangeMaps (setBlock)
theorem Keeps.cellAt {S : Nat → Prop} {w : World} {p : Addr} (h : S p.block) (u : Value) : Keeps S w (w.setCell p u) := (Keeps.refl S w).setCell (.inl h) u
/-- the small bounds under which a device is used -/
structure Dev.Ok (d : Dev) (n : Nat) : Prop where
  s0 : 0 ≤ d.steps
  s1 : d.steps ≤ n
  y0 : 0 ≤ d.syncs
  y1 : d.syncs ≤ d.steps
  l0 : 0 ≤ d.left
  l1 : d.left < 9223372036854775808
  z1 : 1 ≤ d.size
  z2 : d.size ≤ 4096
  lens : ∀ k, (d.now k).length = 512 ∧ (d.synced k).length = 512
  rng : ∀ k, d.chg k = true → 0 ≤ k ∧ k < d.size
  same : ∀ k, d.chg k = false → d.now k = d.synced k
theorem step_any (w : World) (p mn ms mc : Nat) (d : Dev) (n : Nat) (h : DevAt w p mn ms mc d) (hd : d.Ok n) (hn : n ≤ 1000000000) :
    Calls Try.prog 74 #[.pointer (some ⟨p, 0, none⟩)] w fun e w' => e = .returned (errV d.step.1) ∧ DevAt w' p mn ms mc d.step.2 ∧ Keeps (· = p) w w' := by
  have hc := h.cells
  obtain ⟨c0, c1, c2, c3, c4, c5, c6, c7, c8⟩ := hc
  have f0 := h.free 0
  have f2 := h.free 2
  have f4 := h.free 4
  have hm := makeErr 3
  have b0 := hd.s0
  have b1 := hd.s1
  have b2 := hd.l0
  have hwr : wrap64 (d.left - 1) = d.left - 1 ∨ d.left = 0 := by have := hd.l1; unfold wrap64; omega
  clear hd
  by_cases hdn : d.down = true
  · have hst : d.step = (3, { d with down := true }) := by unfold Dev.step; rw [if_pos (.inl hdn)]
    have hself : ({ d with down := true } : Dev) = d := by cases d; simp at hdn ⊢; exact hdn
    rw [hst]
    simp only []
    rw [errV_pos (k := 3) (by decide)]
    rw [hdn] at c4
    by_cases ha : d.armed = true
    · rw [ha] at c3
      by_cases hl : d.left = 0
      · have hb : (d.left == 0) = true := by simpa using hl
        rw [hself]
        go_enter Try.func74, Try.ntmps74
        go_wp2
        go_ret
        refine ⟨rfl, h.upd (Keeps.cellAt (S := (· = p)) rfl _) ?_ rfl rfl rfl, Keeps.cellAt (S := (· = p)) rfl _⟩
        rw [heap_setCell _ _ _ _ _ _ _ h.self, hdn]; rfl
      · have hb : (d.left == 0) = false := by simpa using hl
        rw [hself]
        go_enter Try.func74, Try.ntmps74
        go_wp2
        go_ret
        exact ⟨rfl, h, Keeps.refl _ _⟩
    · have ha : d.armed = false := by simpa using ha
      rw [ha] at c3
      rw [hself]
      go_enter Try.func74, Try.ntmps74
      go_wp2
      go_ret
      exact ⟨rfl, h, Keeps.refl _ _⟩
  · have hdn : d.down = false := by simpa using hdn
    rw [hdn] at c4
    by_cases ha : d.armed = true
    · rw [ha] at c3
      by_cases hl : d.left = 0
      · have hb : (d.left == 0) = true := by simpa using hl
        have hst : d.step = (3, { d with down := true }) := by unfold Dev.step; rw [if_pos (.inr ⟨ha, hl⟩)]
        rw [hst]
        simp only []
        rw [errV_pos (k := 3) (by decide)]
        go_enter Try.func74, Try.ntmps74
        go_wp2
        go_ret
        refine ⟨rfl, h.upd (Keeps.cellAt (S := (· = p)) rfl _) ?_ rfl rfl rfl, Keeps.cellAt (S := (· = p)) rfl _⟩
        rw [heap_setCell _ _ _ _ _ _ _ h.self]; rfl
      · have hb : (d.left == 0) = false := by simpa using hl
        have hst : d.step = (0, { d with left := d.left - 1, steps := d.steps + 1 }) := by unfold Dev.step; rw [if_neg (by simp [hdn, hl]), ha]; rfl
        rw [hst, errV_zero]
        have Hadd := Lib.hid (fun (w' : World) (hh : w'.cell? ⟨p, 0, none⟩ = some (.int .i64 d.steps)) (hf : w'.frozen? ⟨p, 0, none⟩ = false) => add_any w' p 0 d.steps hh hf (by omega) (by omega))
        have Hh := Lib.hid h
        have Hwr := Lib.hid (hwr.resolve_right hl)
        clear h hwr hl hst b2
        go_enter Try.func74, Try.ntmps74
        go_wp2_with fail
        rw [Hwr.out]
        have hc0' : (w.setCell ⟨p, 2, none⟩ (.int .i64 (d.left - 1))).cell? ⟨p, 0, none⟩ = some (.int .i64 d.steps) := by rw [World.cell?_setCell_other _ _ _ _ (by simp)]; exact c0
        refine (Hadd.out _ hc0' (by rw [World.frozen?_setCell]; exact f0)).mono ?_
        rintro _ _ ⟨rfl, rfl⟩
        go_wp2_with fail
        go_ret
        have hk : Keeps (· = p) w ((w.setCell ⟨p, 2, none⟩ (.int .i64 (d.left - 1))).setCell ⟨p, 0, none⟩ (.int .i64 (d.steps + 1))) := (Keeps.cellAt (S := (· = p)) rfl _).setCell (.inl rfl) _
        refine ⟨rfl, Hh.out.upd hk ?_ rfl rfl rfl, hk⟩
        rw [heap_setCell _ _ _ _ _ _ _ (heap_setCell _ _ _ _ _ _ _ Hh.out.self)]; rfl
    · have ha : d.armed = false := by simpa using ha
      rw [ha] at c3
      have hst : d.step = (0, { d with steps := d.steps + 1 }) := by unfold Dev.step; rw [if_neg (by simp [hdn, ha]), ha]; rfl
      rw [hst]
      simp only []
      rw [errV_zero]
      have Hadd := Lib.hid (add_any w p 0 d.steps c0 f0 (by omega) (by omega))
      have Hh := Lib.hid h
      clear h hwr hst b2
      go_enter Try.func74, Try.ntmps74
      go_wp2_with fail
      refine (Hadd.out).mono ?_
      rintro _ _ ⟨rfl, rfl⟩
      go_wp2_with fail
      go_ret
      have hk : Keeps (· = p) w (w.setCell ⟨p, 0, none⟩ (.int .i64 (d.steps + 1))) := Keeps.cellAt (S := (· = p)) rfl _
      refine ⟨rfl, Hh.out.upd hk ?_ rfl rfl rfl, hk⟩
      rw [heap_setCell _ _ _ _ _ _ _ Hh.out.self]; rfl
theorem Dev.Ok.step {d : Dev} {n : Nat} (h : d.Ok n) : d.step.2.Ok (n + 1) := by
  have hs1 := h.s1; have hs0 := h.s0; have hy0 := h.y0; have hy1 := h.y1; have hl0 := h.l0; have hl1 := h.l1
  unfold Dev.step
  split
  · exact ⟨h.s0, by show d.steps ≤ _; omega, h.y0, h.y1, h.l0, h.l1, h.z1, h.z2, h.lens, h.rng, h.same⟩
  · rename_i hn
    refine ⟨by show 0 ≤ d.steps + 1; omega, by show d.steps + 1 ≤ _; omega, h.y0, by show d.syncs ≤ d.steps + 1; omega, ?_, ?_, h.z1, h.z2, h.lens, h.rng, h.same⟩
    · show 0 ≤ (if d.armed then d.left - 1 else d.left)
      split
      · have : d.left ≠ 0 := fun e => hn (.inr ⟨‹_›, e⟩)
        omega
      · exact hl0
    · show (if d.armed then d.left - 1 else d.left) < _
      split <;> omega
theorem arm_bad (w : World) (p : Nat) (n : Int) (h : n < 0) : Calls Try.prog 56 #[.pointer (some ⟨p, 0, none⟩), .int .i64 n] w fun e w' => e = .returned (errV 1) ∧ w = w' := by
  have hm := makeErr 1
  rw [errV_pos (by decide)]
  go_enter Try.func56, Try.ntmps56
  go_wp2
  go_ret
  exact ⟨rfl, rfl⟩
theorem arm_ok (w : World) (p mn ms mc : Nat) (d : Dev) (n : Int) (h : DevAt w p mn ms mc d) (hn : 0 ≤ n) :
    Calls Try.prog 56 #[.pointer (some ⟨p, 0, none⟩), .int .i64 n] w fun e w' => e = .returned .nilIface ∧ DevAt w' p mn ms mc { d with armed := true, left := n } ∧ Keeps (· = p) w w' := by
  obtain ⟨c0, c1, c2, c3, c4, c5, c6, c7, c8⟩ := h.cells
  have f2 := h.free 2
  have f3 := h.free 3
  have Hh := Lib.hid h
  clear h
  go_enter Try.func56, Try.ntmps56
  go_wp2
  go_ret
  have hk : Keeps (· = p) w ((w.setCell ⟨p, 3, none⟩ (.bool true)).setCell ⟨p, 2, none⟩ (.int .i64 n)) := (Keeps.cellAt (S := (· = p)) rfl _).setCell (.inl rfl) _
  refine ⟨rfl, Hh.out.upd hk ?_ rfl rfl rfl, hk⟩
  rw [heap_setCell _ _ _ _ _ _ _ (heap_setCell _ _ _ _ _ _ _ Hh.out.self)]; rfl
end Go.Proofs.Ytnficiohnhodiaa


/-
  The device: Unsynced.
-/
namespace Go.Proofs.Ytnficiohnhodiaa
open Go.RowKit Go.Maps Go.Sort Go.Shelf
open Go.ChangeMaps (setBlock)
open Go.WideElems (Fit rd rg pl)
def sortI (l : List Int) : List Int := l.mergeSort (fun x y => decide (x ≤ y))
theorem sortI_length (l : List Int) : (sortI l).length = l.length := by unfold sortI; simp
theorem sortI_perm {a b : List Int} (h : a.Perm b) : sortI a = sortI b := by
  have hp : (sortI a).Perm (sortI b) := ((List.mergeSort_perm a _).trans h).trans (List.mergeSort_perm b _).symm
  have s1 : (sortI a).Pairwise (fun x y => decide (x ≤ y)) := List.pairwise_mergeSort (by simp; omega) (by simp; omega) a
  have s2 : (sortI b).Pairwise (fun x y => decide (x ≤ y)) := List.pairwise_mergeSort (by simp; omega) (by simp; omega) b
  exact hp.eq_of_pairwise (fun x y _ _ h1 h2 => by simp at h1 h2; omega) s1 s2
/-- how an element reads: it does not matter -/
def anyElem : Value → Option (DataW Unit × List MemPlace) := fun _ => some (.lit (.bool true), [])
def wfI (k : Int) : Prop := (Lit.int .i64 k).wf = true
theorem own_im {w : World} {r : Nat} {l : IM} (h : IMap w r l) (hw : ∀ p ∈ l, wfI p.1) (hl : l.length ≤ 1000000) : ∃ D : DataW Unit, w.ownsMap Try.prog 3 anyElem r l.length D ∧ (intKeys D).Perm (l.map (·.1)) ∧ Maps.size D = l.length := by
  obtain ⟨es, c, hb, he⟩ := h
  have hlen : es.size = l.length := by have := congrArg List.length he.same; simpa using this
  have hkn : (es.toList.map (·.key)) = l.map (fun p => Value.int .i64 p.1) := by
    have := congrArg (List.map Prod.fst) he.same; simpa [List.map_map, Function.comp_def] using this
  have hk : ∀ x ∈ es.toList, ∃ k, x.key = .int .i64 k ∧ wfI k := by
    intro x hx
    have : x.key ∈ es.toList.map (·.key) := List.mem_map.2 ⟨x, hx, rfl⟩
    rw [hkn] at this
    obtain ⟨p, hp, e⟩ := List.mem_map.1 this
    exact ⟨p.1, e.symm, hw p hp⟩
  have hrd : ∀ x ∈ es.toList, ∀ k, x.key = .int .i64 k → wfI k → rd Try.prog 3 anyElem x = some (.int .i64 k, .lit (.bool true)) := by
    intro x _ k e hwk
    unfold Go.WideElems.rd; rw [e, keyOf_int_mk Try.underlying3 hwk]; rfl
  have hrg : es.toList.map (rg Try.prog 3 anyElem) = l.map (fun p => (Lit.int .i64 p.1, (DataW.lit (.bool true) : DataW Unit))) := by
    have h1 : es.toList.map (rg Try.prog 3 anyElem) = (es.toList.map (·.key)).map (fun v => match v with | .int _ k => (Lit.int .i64 k, (DataW.lit (.bool true) : DataW Unit)) | _ => (.bool false, .nil)) := by
      rw [List.map_map]; apply List.map_congr_left; intro x hx
      obtain ⟨k, e, hwk⟩ := hk x hx
      simp only [Function.comp, rg, hrd x hx k e hwk, Option.getD_some, e]
    rw [h1, hkn, List.map_map]; rfl
  have hperm : (List.foldr DataW.insert [] (es.toList.map (rg Try.prog 3 anyElem))).Perm (es.toList.map (rg Try.prog 3 anyElem)) := Go.WideShapes.sorted_perm _
  refine ⟨_, ⟨es, c, hb, ⟨by unfold maxLen; omega, ⟨he.late, he.born.imp (fun h => Nat.ne_of_lt h), ?_⟩, ?_⟩, by omega, rfl⟩, ?_, ?_⟩
  · rw [hkn, show l.map (fun p => Value.int .i64 p.1) = (l.map (·.1)).map (Value.int .i64) from by simp [List.map_map]]
    exact nodup_map_inj _ (fun a b h => by cases h; rfl) he.keys
  · intro x hx; obtain ⟨k, e, hwk⟩ := hk x hx; exact ⟨_, hrd x hx k e hwk⟩
  · show (List.map (fun p : Lit × DataW Unit => Go.intOf p.1) _).Perm _
    refine (hperm.map _).trans ?_
    rw [hrg, List.map_map]
    exact List.Perm.refl _
  · show List.length _ = _
    rw [hperm.length_eq, List.length_map]; simpa using hlen
/-- slices.Sort's two contracts, at the fence that asks nothing -/
theorem sortsA (m : Nat) : AnyZI.SortsIn Try.prog Try.sortedA_ren Fence.wide m :=
  ⟨fun blk off cap ss W hH hblk hsz => callsIn_wide.2 (AnyM.slices_Sort_int Try.sortA blk off cap ss W hH hblk hsz),
   fun p cap W => callsIn_wide.2 (AnyM.slices_Sort_int_none Try.sortA p cap W)⟩
theorem seq_mono {α : Type} {F : Fence} {n : Nat} {P : Program} {g : Nat} {lb : Array Value} {enc : α → Value} {S S' : List α → Prop} {N N' : Nat} {w : World} (h : SeqGives F n P g lb enc S N w) (hS : ∀ xs, S xs → S' xs) (hN : N ≤ N') : SeqGives F n P g lb enc S' N' w :=
  fun l J W hW hJ hY h0 => (h l J W hW hJ (fun pre x W1 a b => hY pre x W1 a (by omega)) h0).mono fun _ _ ⟨a, xs, b, c⟩ => ⟨a, xs, hS xs b, c⟩
theorem sortI_perm_self (l : List Int) : (sortI l).Perm l := by unfold sortI; exact List.mergeSort_perm _ _
theorem sortI_sorted (l : List Int) : (sortI l).Pairwise (fun x y => x ≤ y) := by
  have := List.pairwise_mergeSort (le := fun x y : Int => decide (x ≤ y)) (by simp; omega) (by simp; omega) l
  unfold sortI
  exact this.imp (fun h => by simpa using h)
theorem owns_lower {W : World} {base base' e size n : Nat} {v : Value} {xs : List Value} (h : W.ownsRow base e size v n xs) (hb : base' ≤ base) : W.ownsRow base' e size v n xs :=
  ⟨h.1, h.2.imp id fun ⟨g, cap, cur, a, b, r⟩ => ⟨g, cap, cur, a, Nat.le_trans hb b, r⟩⟩
def Dev.unsynced (d : Dev) : List Int := ((List.range d.size.toNat).filter fun (i : Nat) => d.chg i).map fun (i : Nat) => (i : Int)
theorem aget_mem {α : Type} {l : List (Int × α)} {k : Int} {x : α} (h : aget l k = some x) : (k, x) ∈ l := by
  unfold aget at h
  obtain ⟨q, hq, e⟩ := Option.map_eq_some_iff.1 h
  have h1 := List.mem_of_find?_eq_some hq
  have h2 := List.find?_some hq
  obtain ⟨a, b⟩ := q
  simp at h2 e; subst h2; subst e; exact h1
theorem aget_some_iff {α : Type} (l : List (Int × α)) (k : Int) : (aget l k).isSome = true ↔ k ∈ l.map (·.1) := by
  constructor
  · intro h
    obtain ⟨v, hv⟩ := Option.isSome_iff_exists.1 h
    exact List.mem_map.2 ⟨_, aget_mem hv, rfl⟩
  · intro h
    obtain ⟨p, hp, rfl⟩ := List.mem_map.1 h
    unfold aget
    cases hf : l.find? (fun q => q.1 == p.1) with
    | none => rw [List.find?_eq_none] at hf; exact absurd (by simp) (hf p hp)
    | some q => rfl
theorem imap_nodup {α : Type} {w : World} {r : Nat} {f : α → Value} {l : List (Int × α)} (h : IMap w r (enc f l)) : (l.map (·.1)).Nodup := by
  obtain ⟨es, c, _, he⟩ := h
  have := he.keys
  unfold enc at this
  rw [List.map_map] at this
  exact this
theorem keys_unsynced {w : World} {mc : Nat} {d : Dev} {n : Nat} (hd : d.Ok n) {l : List (Int × Int)} (hm : IMap w mc (enc (fun n => .int .i64 n) l)) (hc : ∀ k, (aget l k).isSome = d.chg k) : sortI (l.map (·.1)) = d.unsynced := by
  have nd := imap_nodup hm
  have hmem : ∀ k, k ∈ l.map (·.1) ↔ d.chg k = true := fun k => by rw [← hc, aget_some_iff]
  have hu : d.unsynced.Pairwise (fun x y => x < y) := by
    unfold Dev.unsynced
    rw [List.pairwise_map]
    exact (List.pairwise_lt_range.filter _).imp (fun h => by omega)
  have ndu : d.unsynced.Nodup := hu.imp (fun h => by omega)
  have hp : (sortI (l.map (·.1))).Perm d.unsynced := by
    refine (sortI_perm_self _).trans ?_
    refine (List.perm_ext_iff_of_nodup nd ndu).2 fun k => ?_
    rw [hmem]
    unfold Dev.unsynced
    simp only [List.mem_map, List.mem_filter, List.mem_range]
    constructor
    · intro h
      have := hd.rng k h
      exact ⟨k.toNat, ⟨by omega, by rw [Int.toNat_of_nonneg this.1]; exact h⟩, Int.toNat_of_nonneg this.1⟩
    · rintro ⟨i, ⟨_, h⟩, rfl⟩; exact h
  exact hp.eq_of_pairwise (fun x y _ _ h1 h2 => by omega) (sortI_sorted _) (hu.imp (fun h => by omega))
theorem chg_len {w : World} {mc : Nat} {d : Dev} {n : Nat} (hd : d.Ok n) {l : List (Int × Int)} (hm : IMap w mc (enc (fun n => .int .i64 n) l)) (hc : ∀ k, (aget l k).isSome = d.chg k) : l.length ≤ 4096 := by
  have h := (keys_unsynced hd hm hc)
  have h1 : (sortI (l.map (·.1))).length = l.length := by rw [(sortI_perm_self _).length_eq, List.length_map]
  rw [h] at h1
  have h2 : d.unsynced.length ≤ d.size.toNat := by
    unfold Dev.unsynced
    rw [List.length_map]
    exact Nat.le_trans (List.length_filter_le _ _) (by simp)
  have := hd.z2; omega
set_option maxRecDepth 100000 in
set_option maxHeartbeats 2000000 in
theorem unsynced_any (w : World) (p mn ms mc : Nat) (d : Dev) (n : Nat) (h : DevAt w p mn ms mc d) (hd : d.Ok n) :
    Calls Try.prog 29 #[.pointer (some ⟨p, 0, none⟩)] w fun e w' => ∃ v, e = .returned v ∧ w'.ownsRow w.heap.size 3 1 v d.unsynced.length (d.unsynced.map (Value.int .i64)) ∧ Below w.heap.size w w' := by
  refine (callsIn_wide (n := 6)).1 ?_
  have c8 := h.cells.c8
  obtain ⟨l, hl, hc⟩ := h.chg
  have hln := chg_len hd hl hc
  have hks := keys_unsynced hd hl hc
  have hwf : ∀ q ∈ l, wfI q.1 := fun q hq => by
    have hq' : d.chg q.1 = true := by rw [← hc, aget_some_iff]; exact List.mem_map.2 ⟨q, hq, rfl⟩
    have := hd.rng _ hq'; have := hd.z2
    show (Lit.int .i64 q.1).wf = true
    simp [Lit.wf, IntKind.min, IntKind.max, IntKind.signed, IntKind.bits]; omega
  have hseq : SeqGives Fence.wide 2 Try.prog 73 #[.pointer (some ⟨w.heap.size, 0, none⟩)] encZ (fun ss => ss.Perm (l.map (·.1))) l.length (w.alloc (.cells #[.map (some mc)] 79)) := by
    have hc : (w.alloc (.cells #[.map (some mc)] 79)).cell? ⟨w.heap.size, 0, none⟩ = some (.map (some mc)) := cell_in (heap_alloc_new w _) rfl
    obtain ⟨D, hD, hD2, hD3⟩ := own_im hl (fun q hq => by obtain ⟨y, hy, rfl⟩ := List.mem_map.1 hq; exact hwf y hy) (by simp [enc]; omega)
    have hbl := hD.lt
    have hD' : (w.alloc (.cells #[.map (some mc)] 79)).ownsMap Try.prog 3 anyElem mc (enc (fun m : Int => Value.int .i64 m) l).length D := by
      obtain ⟨es, clock, hb, Ft, hs, hD⟩ := hD
      exact ⟨es, clock, (Below.heap_alloc _ _ _ hbl).trans hb, Ft, hs, hD⟩
    have hk := AnyZI.keys_gives (ρ := Try.keysA_ren) { Try.keysA with } Fence.wide 2 trivial rfl (by omega) w.heap.size mc _ D _ (by simp) hc hD'
    refine seq_mono hk (fun ss hs => hs.trans ?_) ?_
    · refine hD2.trans ?_
      unfold enc; simp [List.map_map, Function.comp_def]
    · rw [hD3]; simp [enc]
  have cK : ∀ mb W, CallsIn Fence.wide 5 Try.prog 44 #[.map mb] W fun e w' => e = .returned (.func (.func 73) #[] #[.pointer (some ⟨W.heap.size, 0, none⟩)]) ∧ w' = W.alloc (.cells #[.map mb] 79) := fun mb W => AnyZI.keys_in Try.keysA Fence.wide 5 trivial rfl mb W
  have cS := AnyZI.sorted_in Try.sortedA Fence.wide 5 trivial trivial trivial trivial rfl (by omega) (sortsA _) (enters_of Try.func70 (by kernel_rfl) rfl) 73 #[.pointer (some ⟨w.heap.size, 0, none⟩)] trivial (enters_of Try.func73 (by kernel_rfl) rfl) _ _ (by unfold maxLen; omega) (by omega) _ hseq
  change CallsIn _ _ Try.prog 43 _ _ _ at cS
  have hfK : Fence.wide.fn 44 := trivial
  have hfS : Fence.wide.fn 43 := trivial
  clear h hl hc hwf hd
  refine callsIn_of_wp Try.func29 rfl trivial ?_ rfl
  simp only [Try.ntmps29, List.size_toArray, List.length_cons, List.length_nil, Nat.reduceAdd, Nat.reduceSub, Array.replicate_succ, Array.replicate_zero, List.push_toArray, List.append_toArray, List.nil_append, List.cons_append]
  gi_wp2_with (first
    | (gi_at_call 44; refine (cK _ _).mono ?_; rintro e w' ⟨rfl, rfl⟩)
    | (gi_at_call 43; refine cS.mono ?_; rintro e w' ⟨v, ss, rfl, hS, hrow, hnil, hb⟩))
  go_ret
  refine ⟨v, rfl, ?_, ((Below.refl _ w).alloc (Nat.le_refl _) _).trans (hb.mono (by simp))⟩
  have e1 : sortI ss = d.unsynced := (sortI_perm hS).trans hks
  rw [← e1, show (sortI ss).length = ss.length from by rw [(sortI_perm_self ss).length_eq]]
  exact owns_lower hrow (by simp)
end Go.Proofs.Ytnficiohnhodiaa


/-
  The device: its maps; settle.
-/
namespace Go.Proofs.Ytnficiohnhodiaa
open Go.RowKit
open Go.ChangeMaps (setBlock)
def aput {α : Type} (l : List (Int × α)) (k : Int) (v : α) : List (Int × α) := if l.any (fun p => p.1 == k) then l.map (fun p => if p.1 = k then (k, v) else p) else l ++ [(k, v)]
def adel {α : Type} (l : List (Int × α)) (k : Int) : List (Int × α) := l.filter (fun p => !(p.1 == k))
theorem enc_get {α : Type} (f : α → Value) (l : List (Int × α)) (k : Int) : (enc f l).get k = (aget l k).map f := by
  unfold enc IM.get aget
  induction l with
  | nil => rfl
  | cons p l ih =>
    by_cases h : p.1 = k
    · rw [List.map_cons, List.find?_cons_of_pos (by simpa using h), List.find?_cons_of_pos (by simpa using h)]; rfl
    · rw [List.map_cons, List.find?_cons_of_neg (by simpa using h), List.find?_cons_of_neg (by simpa using h)]; exact ih
theorem enc_any {α : Type} (f : α → Value) (l : List (Int × α)) (k : Int) : (enc f l).any (fun p => p.1 == k) = l.any (fun p => p.1 == k) := by
  unfold enc; rw [List.any_map]; rfl
theorem enc_put {α : Type} (f : α → Value) (l : List (Int × α)) (k : Int) (v : α) : (enc f l).put k (f v) = enc f (aput l k v) := by
  unfold IM.put aput
  rw [enc_any]
  split
  · unfold enc; rw [List.map_map, List.map_map]; apply List.map_congr_left; intro p _
    by_cases h : p.1 = k <;> simp [h]
  · unfold enc; simp
theorem enc_del {α : Type} (f : α → Value) (l : List (Int × α)) (k : Int) : (enc f l).del k = enc f (adel l k) := by
  unfold IM.del adel enc
  rw [List.filter_map]; rfl
theorem aget_none {α : Type} {l : List (Int × α)} {k : Int} (h : k ∉ l.map (·.1)) : aget l k = none := by
  unfold aget
  rw [Option.map_eq_none_iff, List.find?_eq_none]
  intro q hq e
  exact h (List.mem_map.2 ⟨q, hq, by simpa using e⟩)
theorem aput_new {α : Type} {l : List (Int × α)} {k : Int} (v : α) (h : k ∉ l.map (·.1)) : aput l k v = l ++ [(k, v)] := by
  unfold aput
  rw [if_neg]
  rw [Bool.not_eq_true, List.any_eq_false]
  intro q hq e; exact h (List.mem_map.2 ⟨q, hq, by simpa using e⟩)
theorem aput_old {α : Type} {l : List (Int × α)} {k : Int} (v : α) (h : k ∈ l.map (·.1)) : aput l k v = l.map (fun p => if p.1 = k then (k, v) else p) := by
  unfold aput
  rw [if_pos]
  rw [List.any_eq_true]
  obtain ⟨q, hq, e⟩ := List.mem_map.1 h; exact ⟨q, hq, by simpa using e⟩
theorem aget_of_mem {α : Type} {l : List (Int × α)} {k : Int} {v : α} (hn : (l.map (·.1)).Nodup) (h : (k, v) ∈ l) : aget l k = some v := by
  unfold aget
  induction l with
  | nil => cases h
  | cons q l ih =>
    rw [List.map_cons, List.nodup_cons] at hn
    rcases List.mem_cons.1 h with rfl | h
    · rw [List.find?_cons_of_pos (by simp)]; rfl
    · have : q.1 ≠ k := fun e => hn.1 (e ▸ List.mem_map.2 ⟨(k, v), h, rfl⟩)
      rw [List.find?_cons_of_neg (by simpa using this)]; exact ih hn.2 h
theorem aget_isSome {α : Type} {l : List (Int × α)} {k : Int} (h : k ∈ l.map (·.1)) : ∃ v, aget l k = some v := by
  obtain ⟨q, hq, e⟩ := List.mem_map.1 h
  cases hx : aget l k with
  | some v => exact ⟨v, rfl⟩
  | none =>
    unfold aget at hx
    rw [Option.map_eq_none_iff, List.find?_eq_none] at hx
    exact absurd (by simpa using e) (hx q hq)
theorem mem_of_aget {α : Type} {l : List (Int × α)} {k : Int} {v : α} (h : aget l k = some v) : k ∈ l.map (·.1) := List.mem_map.2 ⟨_, aget_mem h, rfl⟩
theorem not_mem_of_aget {α : Type} {l : List (Int × α)} {k : Int} (h : aget l k = none) : k ∉ l.map (·.1) := fun hm => by obtain ⟨v, hv⟩ := aget_isSome hm; rw [h] at hv; cases hv
theorem aget_aput {α : Type} (l : List (Int × α)) (k j : Int) (v : α) : aget (aput l k v) j = if j = k then some v else aget l j := by
  by_cases hk : k ∈ l.map (·.1)
  · rw [aput_old v hk]
    induction l with
    | nil => simp at hk
    | cons q l ih =>
      unfold aget at ih ⊢
      rw [List.map_cons]
      by_cases hq : q.1 = k
      · rw [if_pos hq]
        by_cases hj : j = k
        · subst hj; rw [List.find?_cons_of_pos (by simp), if_pos rfl]; rfl
        · rw [List.find?_cons_of_neg (by simp; exact fun e => hj e.symm), List.find?_cons_of_neg (by rw [hq]; simp; exact fun e => hj e.symm), if_neg hj]
          by_cases hk2 : k ∈ l.map (·.1)
          · rw [ih hk2, if_neg hj]
          · congr 1
            have : l.map (fun p => if p.1 = k then (k, v) else p) = l := by
              conv => rhs; rw [← List.map_id l]
              apply List.map_congr_left
              intro p hp
              have : p.1 ≠ k := fun e => hk2 (List.mem_map.2 ⟨p, hp, e⟩)
              simp [this]
            rw [this]
      · rw [if_neg hq]
        have hk2 : k ∈ l.map (·.1) := by rw [List.map_cons, List.mem_cons] at hk; exact hk.resolve_left (fun e => hq e.symm)
        by_cases hj : q.1 = j
        · have : j ≠ k := fun e => hq (hj.trans e)
          rw [List.find?_cons_of_pos (by simpa using hj), List.find?_cons_of_pos (by simpa using hj), if_neg this]
        · rw [List.find?_cons_of_neg (by simpa using hj), List.find?_cons_of_neg (by simpa using hj)]; exact ih hk2
  · rw [aput_new v hk]
    unfold aget
    rw [List.find?_append]
    by_cases hj : j = k
    · subst hj
      have := aget_none hk
      unfold aget at this
      rw [Option.map_eq_none_iff] at this
      rw [this, if_pos rfl]; simp
    · rw [if_neg hj]
      have : List.find? (fun p : Int × α => p.1 == j) [(k, v)] = none := by rw [List.find?_cons_of_neg (by simp; exact fun e => hj e.symm)]; rfl
      rw [this]; simp
theorem infoS : (Try.prog.info? 120).map (fun i => (i.zero, i.size)) = some (some (secV blank), 512) := by kernel_rfl
theorem zeroS (w : World) : (zeroValue 120).run Try.prog w = .ok (secV blank) w := (zero_of_info infoS).1 w
section
variable {w : World} {p mn ms mc : Nat} {d : Dev} (h : DevAt w p mn ms mc d)
include h
theorem get_now (k : Int) : (Instr.lookup 100 (.map (some mn)) (.int .i64 k) false).run Try.prog w = .ok (secV (d.now k)) w := by
  obtain ⟨l, hl, hc⟩ := h.now
  have := run_lookup_im (P := Try.prog) Try.underlying100 Try.underlying3 hl (secV blank) (zeroS w) k false
  rw [this, enc_get, ← hc]
  cases aget l k <;> rfl
theorem get_synced (k : Int) : (Instr.lookup 100 (.map (some ms)) (.int .i64 k) false).run Try.prog w = .ok (secV (d.synced k)) w := by
  obtain ⟨l, hl, hc⟩ := h.synced
  have := run_lookup_im (P := Try.prog) Try.underlying100 Try.underlying3 hl (secV blank) (zeroS w) k false
  rw [this, enc_get, ← hc]
  cases aget l k <;> rfl
theorem put_now (k : Int) (v : List UInt8) : ∃ w', (Instr.mapUpdate 100 (.map (some mn)) (.int .i64 k) (secV v)).run Try.prog w = .ok () w' ∧ DevAt w' p mn ms mc { d with now := fun j => if j = k then v else d.now j } ∧ Keeps (· = mn) w w' ∧ w'.heap.size = w.heap.size := by
  have ha := h.apart
  simp only [List.nodup_cons, List.mem_cons, List.not_mem_nil, or_false, not_or] at ha
  obtain ⟨⟨n1, n2, n3⟩, ⟨n4, n5⟩, n6, _⟩ := ha
  obtain ⟨l1, a1, b1⟩ := h.now
  obtain ⟨l2, a2, b2⟩ := h.synced
  obtain ⟨l3, a3, b3⟩ := h.chg
  obtain ⟨w', r1, r2, r3, r4⟩ := run_mapUpdate_im (P := Try.prog) Try.underlying100 Try.underlying3 a1 k (secV v)
  rw [enc_put] at r2
  refine ⟨w', r1, ⟨r3.at h.self n1, ⟨_, r2, fun j => ?_⟩, ⟨l2, a2.keeps r3 (fun e => n4 e.symm), b2⟩, ⟨l3, a3.keeps r3 (fun e => n5 e.symm), b3⟩, h.apart⟩, r3, r4⟩
  rw [aget_aput]
  by_cases hj : j = k
  · simp [hj]
  · simp [hj, b1]
theorem put_synced (k : Int) (v : List UInt8) : ∃ w', (Instr.mapUpdate 100 (.map (some ms)) (.int .i64 k) (secV v)).run Try.prog w = .ok () w' ∧ DevAt w' p mn ms mc { d with synced := fun j => if j = k then v else d.synced j } ∧ Keeps (· = ms) w w' ∧ w'.heap.size = w.heap.size := by
  have ha := h.apart
  simp only [List.nodup_cons, List.mem_cons, List.not_mem_nil, or_false, not_or] at ha
  obtain ⟨⟨n1, n2, n3⟩, ⟨n4, n5⟩, n6, _⟩ := ha
  obtain ⟨l1, a1, b1⟩ := h.now
  obtain ⟨l2, a2, b2⟩ := h.synced
  obtain ⟨l3, a3, b3⟩ := h.chg
  obtain ⟨w', r1, r2, r3, r4⟩ := run_mapUpdate_im (P := Try.prog) Try.underlying100 Try.underlying3 a2 k (secV v)
  rw [enc_put] at r2
  refine ⟨w', r1, ⟨r3.at h.self n2, ⟨l1, a1.keeps r3 n4, b1⟩, ⟨_, r2, fun j => ?_⟩, ⟨l3, a3.keeps r3 (fun e => n6 e.symm), b3⟩, h.apart⟩, r3, r4⟩
  rw [aget_aput]
  by_cases hj : j = k
  · simp [hj]
  · simp [hj, b2]
theorem put_chg (k : Int) : ∃ w', (Instr.mapUpdate 79 (.map (some mc)) (.int .i64 k) (.int .i64 1)).run Try.prog w = .ok () w' ∧ DevAt w' p mn ms mc { d with chg := fun j => if j = k then true else d.chg j } ∧ Keeps (· = mc) w w' ∧ w'.heap.size = w.heap.size := by
  have ha := h.apart
  simp only [List.nodup_cons, List.mem_cons, List.not_mem_nil, or_false, not_or] at ha
  obtain ⟨⟨n1, n2, n3⟩, ⟨n4, n5⟩, n6, _⟩ := ha
  obtain ⟨l1, a1, b1⟩ := h.now
  obtain ⟨l2, a2, b2⟩ := h.synced
  obtain ⟨l3, a3, b3⟩ := h.chg
  obtain ⟨w', r1, r2, r3, r4⟩ := run_mapUpdate_im (P := Try.prog) Try.underlying79 Try.underlying3 a3 k (.int .i64 1)
  rw [enc_put (fun n : Int => Value.int .i64 n)] at r2
  refine ⟨w', r1, ⟨r3.at h.self n3, ⟨l1, a1.keeps r3 n5, b1⟩, ⟨l2, a2.keeps r3 n6, b2⟩, ⟨_, r2, fun j => ?_⟩, h.apart⟩, r3, r4⟩
  rw [aget_aput]
  by_cases hj : j = k
  · simp [hj]
  · simp [hj, b3]
end
theorem Dev.ext' {a b : Dev} (h1 : a.steps = b.steps) (h2 : a.syncs = b.syncs) (h3 : a.left = b.left) (h4 : a.armed = b.armed) (h5 : a.down = b.down) (h6 : a.size = b.size) (h7 : ∀ k, a.now k = b.now k) (h8 : ∀ k, a.synced k = b.synced k) (h9 : ∀ k, a.chg k = b.chg k) : a = b := by
  cases a; cases b
  simp only [Dev.mk.injEq]
  exact ⟨h1, h2, h3, h4, h5, h6, funext h7, funext h8, funext h9⟩
def Dev.settle (d : Dev) : Dev := { d with synced := fun k => if d.chg k then d.now k else d.synced k, chg := fun _ => false }
/-- part of it is done: what is still to come is T -/
def Dev.part (d : Dev) (T : List (Int × Int)) : Dev := { d with synced := fun k => if d.chg k = true ∧ k ∉ T.map (·.1) then d.now k else d.synced k }
end Go.Proofs.Ytnficiohnhodiaa


/-
  The device: settle.
-/
namespace Go.Proofs.Ytnficiohnhodiaa
open Go.RowKit
open Go.ChangeMaps (setBlock)
def encC (l : List (Int × Int)) : IM := enc (fun n => .int .i64 n) l
structure SettleAt (w : World) (p mn ms mc : Nat) (d : Dev) (l : List (Int × Int)) (it : Nat) (k : Nat) (wr : World) (T : List (Int × Int)) : Prop where
  lay : DevAt wr p mn ms mc (d.part T)
  rng : Rng wr it mc (encC l) (encC T)
  kp : Keeps (· = ms) w wr
  nd : (T.map (·.1)).Nodup
  sub : ∀ x ∈ T, d.chg x.1 = true
  len : k = T.length
theorem adel_keys {α : Type} {l : List (Int × α)} {k y : Int} : y ∈ (adel l k).map (·.1) ↔ y ∈ l.map (·.1) ∧ y ≠ k := by
  unfold adel
  simp only [List.mem_map, List.mem_filter]
  constructor
  · rintro ⟨p, ⟨h1, h2⟩, rfl⟩; exact ⟨⟨p, h1, rfl⟩, by simpa using h2⟩
  · rintro ⟨⟨p, h1, rfl⟩, h2⟩; exact ⟨p, ⟨h1, by simpa using h2⟩, rfl⟩
theorem perm_adel {α : Type} (L : List (Int × α)) (p : Int × α) (hn : (L.map (·.1)).Nodup) (hp : p ∈ L) : L.Perm (p :: adel L p.1) := by
  induction L with
  | nil => cases hp
  | cons q L ih =>
    rw [List.map_cons, List.nodup_cons] at hn
    unfold adel at ih ⊢
    rcases List.mem_cons.1 hp with rfl | hp
    · rw [List.filter_cons_of_neg (by simp), List.filter_eq_self.2]
      intro q hq
      have : q.1 ≠ p.1 := fun e => hn.1 (e ▸ List.mem_map.2 ⟨q, hq, rfl⟩)
      simpa using this
    · have : q.1 ≠ p.1 := fun e => hn.1 (e ▸ List.mem_map.2 ⟨p, hp, rfl⟩)
      rw [List.filter_cons_of_pos (by simpa using this)]
      exact ((ih hn.2 hp).cons q).trans (List.Perm.swap ..)
theorem adel_nodup {α : Type} (L : List (Int × α)) (k : Int) (hn : (L.map (·.1)).Nodup) : ((adel L k).map (·.1)).Nodup := hn.sublist (List.filter_sublist.map _)
theorem part_step {d : Dev} {T : List (Int × Int)} {k n : Int} (hk : (k, n) ∈ T) (hc : d.chg k = true) :
    ({ d.part T with synced := fun j => if j = k then (d.part T).now k else (d.part T).synced j } : Dev) = d.part (adel T k) := by
  refine Dev.ext' rfl rfl rfl rfl rfl rfl (fun _ => rfl) (fun j => ?_) (fun _ => rfl)
  show (if j = k then d.now k else if d.chg j = true ∧ j ∉ T.map (·.1) then d.now j else d.synced j) = if d.chg j = true ∧ j ∉ (adel T k).map (·.1) then d.now j else d.synced j
  by_cases hj : j = k
  · subst hj
    rw [if_pos rfl, if_pos ⟨hc, fun h => (adel_keys.1 h).2 rfl⟩]
  · rw [if_neg hj]
    have : j ∈ (adel T k).map (·.1) ↔ j ∈ T.map (·.1) := by rw [adel_keys]; exact ⟨fun h => h.1, fun h => ⟨h, hj⟩⟩
    simp only [this]
theorem part_end {d : Dev} : ({ d.part [] with chg := fun _ => false } : Dev) = d.settle := by
  refine Dev.ext' rfl rfl rfl rfl rfl rfl (fun _ => rfl) (fun j => ?_) (fun _ => rfl)
  show (if d.chg j = true ∧ j ∉ ([] : List (Int × Int)).map (·.1) then d.now j else d.synced j) = if d.chg j then d.now j else d.synced j
  simp
theorem part_all {d : Dev} {l : List (Int × Int)} (h : ∀ k, (aget l k).isSome = d.chg k) : d.part l = d := by
  refine Dev.ext' rfl rfl rfl rfl rfl rfl (fun _ => rfl) (fun j => ?_) (fun _ => rfl)
  show (if d.chg j = true ∧ j ∉ l.map (·.1) then d.now j else d.synced j) = d.synced j
  rw [if_neg]
  rintro ⟨h1, h2⟩
  rw [← h, aget_some_iff] at h1
  exact h2 h1
theorem clear_chg {w : World} {p mn ms mc : Nat} {d : Dev} (h : DevAt w p mn ms mc d) (ty : TypeId) : ∃ w', (Builtin.clear_ #[79] ty #[.map (some mc)]).run Try.prog w = .ok (.tuple #[]) w' ∧ DevAt w' p mn ms mc { d with chg := fun _ => false } ∧ Keeps (· = mc) w w' := by
  have ha := h.apart
  simp only [List.nodup_cons, List.mem_cons, List.not_mem_nil, or_false, not_or] at ha
  obtain ⟨⟨n1, n2, n3⟩, ⟨n4, n5⟩, n6, _⟩ := ha
  obtain ⟨l1, a1, b1⟩ := h.now
  obtain ⟨l2, a2, b2⟩ := h.synced
  obtain ⟨l3, a3, b3⟩ := h.chg
  obtain ⟨w', r1, r2, r3, r4⟩ := run_clear_im (P := Try.prog) Try.underlying79 a3 ty
  exact ⟨w', r1, ⟨r3.at h.self n3, ⟨l1, a1.keeps r3 n5, b1⟩, ⟨l2, a2.keeps r3 n6, b2⟩, ⟨[], r2, fun _ => rfl⟩, h.apart⟩, r3⟩
set_option maxRecDepth 100000 in
set_option maxHeartbeats 4000000 in
theorem settle_any (w : World) (p mn ms mc : Nat) (d : Dev) (h : DevAt w p mn ms mc d) :
    Calls Try.prog 77 #[.pointer (some ⟨p, 0, none⟩)] w fun e w' => e = .returned (.tuple #[]) ∧ DevAt w' p mn ms mc d.settle ∧ Keeps (fun k => k = ms ∨ k = mc) w w' := by
  have ha := h.apart
  simp only [List.nodup_cons, List.mem_cons, List.not_mem_nil, or_false, not_or] at ha
  obtain ⟨l, hl, hc⟩ := h.chg
  obtain ⟨W3, r1, r2, r3, r4⟩ := run_range_im (P := Try.prog) Try.underlying79 hl
  have c8 := h.cells.c8
  have hnd := imap_nodup hl
  have hlt := h.lt
  have hA : DevAt W3 p mn ms mc d := h.keeps (S := fun _ => False) (Keeps.of_below r3) (fun _ _ hf => hf)
  have Hst : Hid (SettleAt w p mn ms mc d l w.heap.size l.length W3 l) := ⟨by rw [part_all hc]; exact hA, r2, (Keeps.of_below (S := fun _ => False) r3).mono (fun _ _ hf => hf.elim), hnd, fun x hx => by rw [← hc, aget_some_iff]; exact List.mem_map.2 ⟨x, hx, rfl⟩, rfl⟩
  have Hlt := Lib.hid hlt
  have Ha := Lib.hid ha
  clear hlt ha hA h hl hc hnd r2 r3 r4
  go_enter Try.func77, Try.ntmps77
  go_wp2
  clear r1 c8
  go_loopg [] l.length (fun k wr => ∃ T, SettleAt w p mn ms mc d l w.heap.size k wr T)
  case atStart => exact ⟨l, Hst.out⟩
  case round =>
    obtain ⟨T, hR⟩ := hrel
    have hlay := hR.lay
    rcases run_next_im (P := Try.prog) hR.rng 0 with ⟨h0, hr⟩ | ⟨q, hq, w4, hr, hR', hK, hsz4, hent⟩
    · have hT : T = [] := by unfold encC enc at h0; simpa using h0
      subst hT
      obtain ⟨w5, hcl, hA5, hK5⟩ := clear_chg hlay 0
      rw [part_end] at hA5
      have c8 := hlay.cells.c8
      have hkk : Keeps (fun k => k = ms ∨ k = mc) w w5 := (hR.kp.mono (fun _ _ e => .inl e)).trans (hK5.mono (fun _ _ e => .inr e))
      clear hR hlay h0
      go_wp2
      go_end0
      exact ⟨rfl, hA5, hkk⟩
    · obtain ⟨pp, hp, rfl⟩ := List.mem_map.1 hq
      obtain ⟨k, n⟩ := pp
      have he := hent w4 rfl rfl
      have hit : w.heap.size < wr.heap.size := hR.rng.lt.1
      have hf4 : ∀ j, DFoot p mn ms mc j → ¬ j = w.heap.size := fun j hj e => by have := Hlt.out j hj; omega
      have hA4 : DevAt w4 p mn ms mc (d.part T) := hlay.keeps hK hf4
      have hA4d : DevAt w4.drew p mn ms mc (d.part T) := hA4.keeps (S := fun _ => False) ((Keeps.refl _ w4).drew) (fun _ _ hf => hf)
      rw [show (encC T).del k = encC (adel T k) from enc_del _ _ _] at hR'
      have hkp4 : Keeps (· = ms) w w4 := hR.kp.trans' hK (fun j hj e => by omega)
      have hck := hR.sub _ hp
      have hnd := hR.nd
      have hsub := hR.sub
      have htl : gk = T.length := hR.len
      clear hlay hent hq hR
      have Hit := Lib.hid hit
      have Hrest : Hid (DevAt w4 p mn ms mc (d.part T) ∧ Rng w4 w.heap.size mc (encC l) (encC (adel T k)) ∧ Keeps (· = ms) w w4 ∧ d.chg k = true ∧ (T.map (·.1)).Nodup ∧ (∀ x ∈ T, d.chg x.1 = true) ∧ gk = T.length ∧ (k, n) ∈ T) := ⟨hA4, hR', hkp4, hck, hnd, hsub, htl, hp⟩
      obtain ⟨w6, hu, hA6, hK6, hsz6⟩ := put_synced hA4d k ((d.part T).now k)
      have hgn := get_now hA4d k
      have c6 := hA4d.cells.c6
      have c7 := hA4d.cells.c7
      have HA6 := Lib.hid hA6
      have HK6 : Hid (Keeps (· = ms) w4 w6) := ((Keeps.refl (· = ms) w4).drew).trans hK6
      clear hA4 hA4d hR' hkp4 hck hnd hsub htl hp hK hsz4 hf4 hA6 hK6 hsz6 hit
      go_wp2
      refine wp_region_still_tail 11 (by kernel_rfl) (by kernel_rfl) ?_
      simp only [List.take_succ_cons, List.take_zero, List.drop_succ_cons, List.drop_zero]
      change wpStill _ _ w4.drew (fun a' => wpList _ _ _ _ a' w4.drew) _ _
      generalize w4.drew = w5 at hu hgn c6 c7 ⊢
      repeat still_step
      refine wpStill_nil ?_
      go_wp2
      obtain ⟨_, hR', hkp4, hck, hnd, hsub, htl, hp⟩ := Hrest.out
      have hln : T.length = (adel T k).length + 1 := (perm_adel T (k, n) hnd hp).length_eq
      go_roundg (adel T k).length
      case measure => omega
      case rel =>
        have hlt1 := Hlt.out ms (.inr (.inr (.inl rfl)))
        have hlt2 := Ha.out
        have hA6 := HA6.out
        rw [part_step hp hck] at hA6
        exact ⟨adel T k, hA6, hR'.keeps HK6.out (fun e => by omega) (fun e => hlt2.2.2.1 e.symm), hkp4.trans HK6.out, adel_nodup _ _ hnd, fun x hx => hsub x (List.mem_filter.1 hx).1, rfl⟩
end Go.Proofs.Ytnficiohnhodiaa


/-
  The device: sectors as values; Read.
-/
namespace Go.Proofs.Ytnficiohnhodiaa
open Go.RowKit
open Go.ChangeMaps (setBlock)
theorem secV_cells (l : List UInt8) : (secV l).cells = (bytesV l).toArray := by simp [secV, Value.cells]
theorem bytesV_one (l : List UInt8) : ∀ u ∈ bytesV l, u.oneCell' = true := by
  intro u hu; obtain ⟨b, _, rfl⟩ := List.mem_map.1 hu; rfl
theorem bytesV_len (l : List UInt8) : (bytesV l).length = l.length := by unfold bytesV; simp
theorem run_alloc_sec (w : World) (v : Value) : (Instr.alloc 120 true v).run Try.prog w = .ok (.pointer (some ⟨w.heap.size, 0, none⟩)) (w.alloc (.cells (bytesV blank).toArray 120)) := by
  have hz := zeroS w
  simp [Instr.alloc, hz, newVar, secV_cells, newRow, Result.andThen]
section
variable {w : World} {ops : Array Oper} {rest : List Oper} {o : Oper} {a : Act} {Q : Exit → Act → World → Prop}
theorem wpList_alloc_sec (hgd : o.guard = none) (ho : o.op = .alloc 120) (h : wpList Try.prog ops Q rest (a.put o.dst (.pointer (some ⟨w.heap.size, 0, none⟩))) (w.alloc (.cells (bytesV blank).toArray 120))) : wpList Try.prog ops Q (o :: rest) a w := by
  refine wpList_plain hgd fun _ hK => ?_
  unfold Oper.wp execOp
  simp only [ho, Sem.run_bind, run_alloc_sec, Sem.run_pure, Result.andThen_ok]
  exact hK _ _ h
theorem wpList_store_new (hgd : o.guard = none) (p x : Operand) (ho : o.op = .store 120 p x) {w0 : World} {c : List Value} {l : List UInt8} (hw : w = w0.alloc (.cells c.toArray 120)) (hp : a.eval p = .pointer (some ⟨w0.heap.size, 0, none⟩)) (hx : a.eval x = secV l) (hc : c.length = 512) (hl : l.length = 512)
    (h : wpList Try.prog ops Q rest (a.put o.dst undef) (w0.alloc (.cells (bytesV l).toArray 120))) : wpList Try.prog ops Q (o :: rest) a w := by
  subst hw
  refine wpList_plain hgd fun _ hK => ?_
  have hs := run_storeAt_new (P := Try.prog) w0 120 c.toArray (bytesV l).toArray (by rw [List.size_toArray, bytesV_len, hl]; exact (zero_of_info infoS).2) (by simp [bytesV_len, hc, hl]) (Array.all_eq_true_iff_forall_mem.2 (fun v hv => bytesV_one l v (by simpa using hv)))
  unfold Oper.wp execOp
  simp only [ho, hp, hx, Sem.run_bind, Sem.run_pure]
  rw [show secV l = .agg (bytesV l).toArray from rfl, hs]
  exact hK _ _ h
end
/-- slices.Clone of bytes -/
theorem info8 : (Try.prog.info? 5).map (fun i => (i.zero, i.size, i.bytes)) = some (some (.int .u8 0), 1, 1) := by kernel_rfl
set_option maxRecDepth 100000 in
set_option maxHeartbeats 1000000 in
theorem clone_bytes (w : World) (a : Addr) (cap : Nat) (l : List UInt8) (hl : l.length ≤ 1000000000000) (hc : ∀ j b, l[j]? = some b → w.cell? (a.add j) = some (byteV b)) :
    Calls Try.prog 59 #[.slice (some a) l.length cap] w fun e w' => ∃ v, e = .returned v ∧ SubRow w' w.heap.size v (bytesV l) ∧ Below w.heap.size w w' := by
  obtain ⟨i0, hi, hz0, hz1, hz2⟩ := info_parts info8
  have hr0 : SubRow (w.alloc (.cells #[] 5)) w.heap.size (.slice (some ⟨w.heap.size, 0, none⟩) 0 0) [] := .inr ⟨w.heap.size, 0, 0, rfl, Nat.le_refl _, by simp, by simp, by simp, fun j hj => by omega, fun j u hu => by simp at hu⟩
  have hB : Below w.heap.size w (w.alloc (.cells #[] 5)) := (Below.refl _ w).alloc (Nat.le_refl _) _
  have hsrc : Src Try.prog 1 52 (.slice (some a) l.length cap) (bytesV l).length (bytesV l) (w.alloc (.cells #[] 5)) := by
    rw [bytesV_len]
    refine Src.ofSlice _ Try.underlying52 a l.length cap _ (by rw [bytesV_len]; omega) (fun j u hu => ?_) (bytesV_one l)
    unfold bytesV at hu
    rw [List.getElem?_map] at hu
    obtain ⟨b, hb, rfl⟩ := Option.map_eq_some_iff.1 hu
    have := hc j b hb
    exact (hB.cell (p := a.add j) (World.block_lt_of_cell? w _ this)).trans this
  clear hc
  have hq : (binOp .eql 52 (.slice (some a) l.length cap) (.slice none 0 0)).run Try.prog w = .ok (.bool false) w := by kernel_rfl
  have hlb := Lib.hid (bytesV_len l)
  go_enter Try.func59, Try.ntmps59
  go_wp2_with (at_builtin; refine wpList_append_sub _ rfl _ _ 52 rfl 5 i0 (.int .u8 0) 1 Try.underlying52 hi hz0 hz1 hz2 rfl w.heap.size _ [] rfl hr0 _ rfl _ hsrc (by rw [hlb.out]; simp; unfold maxLen; omega) (by rw [hlb.out]; simp; omega) (by simp) ?_; intro v' w7 h7 hk7 hn7)
  go_ret
  refine ⟨_, rfl, by simpa using h7, hB.trans (hk7.below (by simp) (fun k hk e => ?_))⟩
  have e' : some w.heap.size = some k := e
  cases e'; omega
def Dev.read (d : Dev) (at_ : Int) : Option (List UInt8) := if at_ < 0 ∨ d.size ≤ at_ ∨ d.down = true then none else some (d.now at_)
section
variable (w : World) (p mn ms mc : Nat) (d : Dev) (n : Nat) (h : DevAt w p mn ms mc d) (hd : d.Ok n) (at_ : Int)
include h
theorem read_range (hr : at_ < 0 ∨ d.size ≤ at_) : Calls Try.prog 32 #[.pointer (some ⟨p, 0, none⟩), .int .i64 at_] w fun e w' => e = .returned (.tuple #[.slice none 0 0, errV 1]) ∧ w = w' := by
  have hm := makeErr 1
  have hs := size_any w p mn ms mc d h
  rw [errV_pos (by decide)]
  by_cases h0 : at_ < 0
  · go_enter Try.func32, Try.ntmps32
    go_wp2
    go_ret2
    exact ⟨rfl, rfl⟩
  · have h1 : d.size ≤ at_ := by omega
    go_enter Try.func32, Try.ntmps32
    go_wp2_with (go_at_call 31; (with_reducible refine hs.mono ?_); rintro _ _ ⟨rfl, rfl⟩)
    go_ret2
    exact ⟨rfl, rfl⟩
theorem read_down (h0 : 0 ≤ at_) (h1 : at_ < d.size) (hdn : d.down = true) : Calls Try.prog 32 #[.pointer (some ⟨p, 0, none⟩), .int .i64 at_] w fun e w' => e = .returned (.tuple #[.slice none 0 0, errV 3]) ∧ w = w' := by
  have hm := makeErr 3
  have hs := size_any w p mn ms mc d h
  have c4 := h.cells.c4
  rw [hdn] at c4
  have n0 : ¬ at_ < 0 := by omega
  rw [errV_pos (by decide)]
  clear hdn
  go_enter Try.func32, Try.ntmps32
  go_wp2_with (go_at_call 31; (with_reducible refine hs.mono ?_); rintro _ _ ⟨rfl, rfl⟩)
  go_ret2
  exact ⟨rfl, rfl⟩
include hd
set_option maxRecDepth 100000 in
set_option maxHeartbeats 2000000 in
theorem read_ok (h0 : 0 ≤ at_) (h1 : at_ < d.size) (hdn : d.down = false) : Calls Try.prog 32 #[.pointer (some ⟨p, 0, none⟩), .int .i64 at_] w fun e w' => ∃ v, e = .returned (.tuple #[v, .nilIface]) ∧ SubRow w' w.heap.size v (bytesV (d.now at_)) ∧ Below w.heap.size w w' := by
  have hs := size_any w p mn ms mc d h
  have c4 := h.cells.c4
  have c6 := h.cells.c6
  rw [hdn] at c4
  have n0 : ¬ at_ < 0 := by omega
  have hg := get_now h at_
  have hln := (hd.lens at_).1
  clear hdn h hd
  generalize hnw : d.now at_ = sec at hg hln
  have Hnw := Lib.hid hnw
  have Hln := Lib.hid hln
  clear hnw hln
  have hcl := clone_bytes (w.alloc (.cells (bytesV sec).toArray 120)) ⟨w.heap.size, 0, none⟩ 512 sec (by rw [Hln.out]; omega) (fun j b hb => by
    have hh := heap_alloc_new w (.cells (bytesV sec).toArray 120)
    have : (⟨w.heap.size, 0, none⟩ : Addr).add j = ⟨w.heap.size, j, none⟩ := by unfold Addr.add; split <;> simp_all
    rw [this]
    exact cell_in hh (by unfold bytesV; simp [hb]))
  rw [Hln.out] at hcl
  go_enter Try.func32, Try.ntmps32
  go_wp2_with (first
    | (go_at_call 31; (with_reducible refine hs.mono ?_); rintro _ _ ⟨rfl, rfl⟩)
    | (go_at_call 59; (with_reducible refine hcl.mono ?_); rintro _ w5 ⟨v, rfl, hrow, hb5⟩)
    | (with_reducible refine wpList_alloc_sec rfl rfl ?_)
    | (with_reducible refine wpList_store_new rfl (.tmp 6) (.tmp 27) rfl (w0 := w) (c := bytesV blank) rfl rfl rfl (bytesV_len _) Hln.out ?_))
  go_ret2
  exact ⟨v, rfl, hrow.weaken (by simp), ((Below.refl _ w).alloc (Nat.le_refl _) _).trans (hb5.mono (by simp))⟩
end
end Go.Proofs.Ytnficiohnhodiaa


/-
  slices.Concat of rows of bytes, 512 together.
-/
namespace Go.Proofs.Ytnficiohnhodiaa
open Go.RowKit
theorem wpList_append_run {P : Program} {w w' : World} {ops : Array Oper} {rest : List Oper} {o : Oper} {a : Act} {Q : Exit → Act → World → Prop} (hgd : o.guard = none) (s x : Operand) (t u : TypeId)
    (ho : o.op = .call { callee := .builtin .append, args := #[s, x], argTypes := #[t, u] }) {v y r : Value} (hv : a.eval s = v) (hx : a.eval x = y) (hr : ∀ ty, (Builtin.append_ #[t, u] ty #[v, y]).run P w = .ok r w')
    (h : wpList P ops Q rest (a.put o.dst r) w') : wpList P ops Q (o :: rest) a w := by
  refine wpList_plain hgd fun _ hK => ?_
  unfold Oper.wp execOp
  simp only [ho, resolve, invoke, builtin, Sem.run_bind, Sem.run_pure, Result.andThen_ok, List.map_toArray, List.map_cons, List.map_nil, hv, hx, hr]
  exact hK _ _ h
set_option maxRecDepth 100000 in
theorem grow512 (w : World) : Calls Try.prog 92 #[.slice none 0 0, .int .i64 512] w fun e w' => ∃ v, e = .returned v ∧ SubRow w' w.heap.size v [] ∧ Below w.heap.size w w' := by
  obtain ⟨i0, hi, hz0, hz1, hz2⟩ := info_parts info8
  have hr := fun ty => Lib.run_append_grow_zeros (P := Try.prog) w 52 3 ty 5 i0 (.int .u8 0) .i64 .i64 Try.underlying52 Try.underlying3 hi hz0 none 0 0 [] (run_firstCells_none _ _ _ _ _) 512 (by omega) (by omega) (by omega) (by omega) (by omega) (growslice_fits (by omega) (by omega))
  have hge := grownCap_ge w 512 0 5
  have hle := grownCap_le_maxLen w 512 0 5 (by unfold maxLen; omega)
  have hl2 : ((0 : Nat) : Int) ≤ 0 := by omega
  simp only [Nat.zero_add] at hr
  have Hge := Lib.hid hge
  generalize hcap : grownCap w 512 0 5 = cap at hr hge hle Hge
  clear hcap
  have hsz : ([].toArray ++ Builtin.zeroCells (Value.int .u8 0).cells 512 ++ Builtin.zeroCells (Value.int .u8 0).cells (cap - 512) : Array Value).size = cap := by
    rw [Array.size_append, Array.size_append, size_zeroCells, size_zeroCells]; simp [Value.cells]; omega
  generalize ([].toArray ++ Builtin.zeroCells (Value.int .u8 0).cells 512 ++ Builtin.zeroCells (Value.int .u8 0).cells (cap - 512) : Array Value) = cs at hr hsz
  have hr' : ∀ ty, (Builtin.append_ #[52, 3] ty #[.slice none 0 0, .int .i64 512]).run Try.prog w = .ok (.slice (some ⟨w.heap.size, 0, none⟩) 512 cap) (w.drew.alloc (.cells cs 5)) := hr
  have Hr := Lib.hid hr'
  have Hsz := Lib.hid hsz
  clear hr hr' hsz hl2 hi hz0 hz1 hz2
  have hcl : (512 : Int) ≤ (cap : Int) := by omega
  go_enter Try.func92, Try.ntmps92
  go_wp2_with (at_builtin; go_loud (refine wpList_append_run rfl _ _ _ _ rfl rfl rfl Hr.out ?_))
  go_ret
  have hh := heap_alloc_new w.drew (.cells cs 5)
  refine ⟨_, rfl, .inr ⟨w.heap.size, 0, cap, rfl, Nat.le_refl _, by simp, by simp, hle, fun j hj => ?_, fun j u hu => by simp at hu⟩, ((Below.refl _ w).drew).alloc (by simp) _⟩
  have hc2 := cell_in (o := j) (u := cs[j]'(by rw [Hsz.out]; exact hj)) hh (Array.getElem?_eq_getElem _)
  rw [Nat.zero_add]
  show ((w.drew.alloc (.cells cs 5)).cell? ⟨w.heap.size, j, none⟩).isSome = true ∧ (w.drew.alloc (.cells cs 5)).frozen? ⟨w.heap.size, j, none⟩ = false
  exact ⟨by rw [show w.drew.heap.size = w.heap.size from rfl] at hc2; rw [hc2]; rfl, free_in (o := j) hh⟩
/-- a slice of bytes of whatever memory -/
def Bytes (w : World) (v : Value) (l : List UInt8) : Prop :=
  ∃ q cap, v = .slice q l.length cap ∧ l.length ≤ cap ∧ cap ≤ maxLen ∧ ∀ j b, l[j]? = some b → ∃ a, q = some a ∧ w.cell? (a.add j) = some (byteV b)
theorem Bytes.keeps {S : Nat → Prop} {w w' : World} {v : Value} {l : List UInt8} (h : Bytes w v l) (hk : Keeps S w w') (hs : ∀ k, v.ownBlock = some k → ¬ S k) : Bytes w' v l := by
  obtain ⟨q, cap, rfl, h1, h2, h3⟩ := h
  refine ⟨q, cap, rfl, h1, h2, fun j b hb => ?_⟩
  obtain ⟨a, rfl, hc⟩ := h3 j b hb
  exact ⟨a, rfl, hk.cell hc (fun e => hs a.block rfl (by unfold Addr.add at e; split at e <;> exact e))⟩
theorem Bytes.below {w w' : World} {v : Value} {l : List UInt8} (h : Bytes w v l) (hb : Below w.heap.size w w') : Bytes w' v l := h.keeps (S := fun _ => False) (Keeps.of_below hb) (fun _ _ hf => hf)
theorem Bytes.src {w : World} {v : Value} {l : List UInt8} (h : Bytes w v l) : Src Try.prog 1 52 v (bytesV l).length (bytesV l) w := by
  obtain ⟨q, cap, rfl, h1, h2, h3⟩ := h
  rw [bytesV_len]
  cases q with
  | none =>
    have : l = [] := by
      cases l with
      | nil => rfl
      | cons b l => obtain ⟨a, e, _⟩ := h3 0 b rfl; cases e
    subst this
    exact Src.ofNil (P := Try.prog) w Try.underlying52 cap
  | some a =>
    refine Src.ofSlice _ Try.underlying52 a l.length cap _ (by rw [bytesV_len]; omega) (fun j u hu => ?_) (bytesV_one l)
    unfold bytesV at hu
    rw [List.getElem?_map] at hu
    obtain ⟨b, hb, rfl⟩ := Option.map_eq_some_iff.1 hu
    obtain ⟨a', e, hc⟩ := h3 j b hb
    cases e; exact hc
theorem Bytes.of_sub {w : World} {B : Nat} {v : Value} {l : List UInt8} (h : SubRow w B v (bytesV l)) : Bytes w v l := by
  rcases h with ⟨rfl, h0⟩ | ⟨g, off, cap, rfl, _, _, h3, h4, _, h6⟩
  · have : l = [] := List.map_eq_nil_iff.1 h0
    subst this
    exact ⟨none, 0, rfl, Nat.le_refl _, Nat.zero_le _, fun j b hb => by simp at hb⟩
  · rw [bytesV_len] at h3 ⊢
    refine ⟨_, cap, rfl, h3, h4, fun j b hb => ⟨_, rfl, ?_⟩⟩
    have := h6 j (byteV b) (by unfold bytesV; simp [hb])
    unfold Addr.add; split
    · rename_i h0; subst h0; simpa using this
    · simpa using this
/-- a slice of such slices -/
def Parts (w : World) (v : Value) (ps : List (List UInt8)) : Prop :=
  ∃ q cap, v = .slice q ps.length cap ∧ ps.length ≤ cap ∧ cap ≤ maxLen ∧ ∀ j l, ps[j]? = some l → ∃ a u, q = some a ∧ w.cell? (a.add j) = some u ∧ Bytes w u l
theorem Parts.below {w w' : World} {v : Value} {ps : List (List UInt8)} (h : Parts w v ps) (hb : Below w.heap.size w w') : Parts w' v ps := by
  obtain ⟨q, cap, rfl, h1, h2, h3⟩ := h
  refine ⟨q, cap, rfl, h1, h2, fun j l hl => ?_⟩
  obtain ⟨a, u, e, hc, hu⟩ := h3 j l hl
  exact ⟨a, u, e, (hb.cell (p := a.add j) (World.block_lt_of_cell? w _ hc)).trans hc, hu.below hb⟩
theorem flat_take {ps : List (List UInt8)} {k : Nat} {l : List UInt8} (h : ps[k]? = some l) : (ps.take (k + 1)).flatten = (ps.take k).flatten ++ l := by
  rw [List.take_add_one, h]; simp
def tot (ps : List (List UInt8)) (k : Nat) : Nat := (ps.take k).flatten.length
theorem tot_le (ps : List (List UInt8)) (k : Nat) : tot ps k ≤ ps.flatten.length := by
  unfold tot
  conv => rhs; rw [← List.take_append_drop k ps, List.flatten_append, List.length_append]
  omega
theorem tot_succ {ps : List (List UInt8)} {k : Nat} {l : List UInt8} (h : ps[k]? = some l) : tot ps (k + 1) = tot ps k + l.length := by unfold tot; rw [flat_take h, List.length_append]
def flatTo (ps : List (List UInt8)) (k : Nat) : List Value := bytesV (ps.take k).flatten
theorem flatTo_succ {ps : List (List UInt8)} {k : Nat} {l : List UInt8} (h : ps[k]? = some l) : flatTo ps (k + 1) = flatTo ps k ++ bytesV l := by unfold flatTo bytesV; rw [flat_take h, List.map_append]
theorem flatTo_len (ps : List (List UInt8)) (k : Nat) : (flatTo ps k).length = tot ps k := by unfold flatTo tot; rw [bytesV_len]
set_option maxRecDepth 100000 in
set_option maxHeartbeats 4000000 in
theorem concat_any (w : World) (v : Value) (ps : List (List UInt8)) (hp : Parts w v ps) (ht : ps.flatten.length = 512) (hn : ps.length ≤ 1000000) :
    Calls Try.prog 75 #[v] w fun e w' => ∃ v', e = .returned v' ∧ SubRow w' w.heap.size v' (bytesV ps.flatten) ∧ Below w.heap.size w w' := by
  have Hp := Lib.hid hp
  obtain ⟨q, cap, rfl, hc1, hc2, h3⟩ := hp
  have H3 := Lib.hid h3
  have Ht := Lib.hid ht
  clear h3 ht
  obtain ⟨i0, hi, hz0, hz1, hz2⟩ := info_parts info8
  go_enter Try.func75, Try.ntmps75
  go_wp2
  go_loop [3, 11] (fun s i => ∃ k : Nat, k ≤ ps.length ∧ i = .int .i64 k ∧ s = .int .i64 (tot ps k)) (fun _ i => ps.length - (intOf i).toNat)
  case atStart => exact ⟨0, by omega, rfl, rfl⟩
  case round =>
    obtain ⟨k, hk, rfl, rfl⟩ := hrel
    by_cases hlt : k < ps.length
    · obtain ⟨l, hl⟩ : ∃ l, ps[k]? = some l := ⟨_, List.getElem?_eq_getElem hlt⟩
      obtain ⟨a, u, rfl, hcell, hu⟩ := H3.out k l hl
      obtain ⟨q2, cap2, rfl, hq1, hq2, _⟩ := hu
      have hft := tot_succ hl
      have hle := tot_le ps (k + 1)
      rw [hft, Ht.out] at hle
      have Hft := Lib.hid hft
      clear hft hl
      go_wp2
      go_round
      case rel => exact ⟨k + 1, by omega, by go_num, by rw [Hft.out]; go_num⟩
      case measure => simp [intOf]; omega
    · obtain rfl : k = ps.length := by omega
      have Hts : Hid (tot ps ps.length = 512) := by unfold tot; rw [List.take_length]; exact Ht.out
      rw [Hts.out]
      have hg := grow512 w
      go_wp2_with (go_at_call 92; (with_reducible refine hg.mono ?_); rintro _ w2 ⟨v2, rfl, hv2, hb2⟩; clear hg)
      have hst : SubRow w2 w.heap.size v2 (flatTo ps 0) := hv2
      clear hv2
      go_loopw [6, 27] (fun s i wr => ∃ k : Nat, k ≤ ps.length ∧ i = .int .i64 k ∧ SubRow wr w.heap.size s (flatTo ps k) ∧ Below w.heap.size w wr) (fun _ i _ => ps.length - (intOf i).toNat)
      case atStart => exact ⟨0, by omega, rfl, hst, hb2⟩
      case round =>
        clear hst hb2
        obtain ⟨k, hk, rfl, hrow, hb⟩ := hrel
        by_cases hlt : k < ps.length
        · obtain ⟨l, hl⟩ : ∃ l, ps[k]? = some l := ⟨_, List.getElem?_eq_getElem hlt⟩
          obtain ⟨q', cap', e, _, _, h3'⟩ := Hp.out.below hb
          simp only [Value.slice.injEq, true_and] at e
          obtain ⟨a, u, hqa, hcell, hu⟩ := h3' k l hl
          obtain rfl : q = some a := e.1.trans hqa
          have hsrc := hu.src
          obtain ⟨q2, cap2, rfl, hq1, hq2, _⟩ := hu
          have Hfs := Lib.hid (flatTo_succ hl)
          have hft := tot_succ hl
          have hle := tot_le ps (k + 1)
          rw [hft, Ht.out] at hle
          have Hfl := Lib.hid (flatTo_len ps k)
          have Hbl := Lib.hid (bytesV_len l)
          have hbs := hb.size
          clear hft hl h3' e hqa
          go_wp2_with (at_builtin; refine wpList_append_sub _ rfl _ _ 52 rfl 5 i0 (.int .u8 0) 1 Try.underlying52 hi hz0 hz1 hz2 rfl w.heap.size _ (flatTo ps k) rfl hrow _ rfl _ hsrc (by rw [Hfl.out, Hbl.out]; unfold maxLen; omega) (by rw [Hfl.out, Hbl.out]; omega) (by omega) ?_; intro v' w7 h7 hk7 hn7)
          have hlt7 := hrow.lt
          have hb7 : Below w.heap.size w w7 := hb.trans (hk7.below hbs (fun j hj e => by have := (hlt7 j e).1; omega))
          rw [← Hfs.out] at h7
          clear hk7 hn7 hlt7 hsrc hrow hcell
          go_roundw
          case rel => exact ⟨k + 1, by omega, by go_num, h7, hb7⟩
          case measure => simp [intOf]; omega
        · obtain rfl : k = ps.length := by omega
          have hfin : flatTo ps ps.length = bytesV ps.flatten := by unfold flatTo; rw [List.take_length]
          rw [hfin] at hrow
          go_wp2
          go_ret
          exact ⟨_, rfl, hrow, hb⟩
end Go.Proofs.Ytnficiohnhodiaa


/-
  The device: Write.
-/
namespace Go.Proofs.Ytnficiohnhodiaa
open Go.RowKit
open Go.ChangeMaps (setBlock)
theorem wpStill_load_sec {w : World} {ops : Array Oper} {rest : List Oper} {o : Oper} {a : Act} {Q : Act → Prop} (hgd : o.guard = none) (x : Operand) (ho : o.op = .load 120 x) {g : Nat} (hx : a.eval x = .pointer (some ⟨g, 0, none⟩)) {l : List UInt8} {T : TypeId} {fr : Nat × Nat}
    (hg : w.heap[g]? = some (.cells (bytesV l).toArray T fr)) (hl : l.length = 512) (h : wpStill Try.prog ops w Q rest (a.put o.dst (secV l))) : wpStill Try.prog ops w Q (o :: rest) a := by
  refine wpStill_step fun K hK => ?_
  have hr := run_loadVar_row (P := Try.prog) w g T 120 (bytesV l).toArray fr _ hg Try.underlying120 rfl (by rw [List.size_toArray, bytesV_len, hl]; exact (zero_of_info infoS).2)
  have hw : Region.wanted o (yielded ops a.tmps) = true := by simp [Region.wanted, hgd]
  rw [if_pos hw]
  unfold Oper.still execOp
  simp only [ho, hx, Instr.loadAt, Instr.sureAddr, Sem.run_bind, Sem.run_pure, Result.andThen_ok, hr]
  exact ⟨rfl, hK _ h⟩
theorem dev_apart {w : World} {p mn ms mc : Nat} {d : Dev} (h : DevAt w p mn ms mc d) {a : Addr} {u : Value} (hc : w.cell? a = some u) (hu : (∃ b, u = byteV b) ∨ ∃ q n c, u = .slice q n c) : ¬ DFoot p mn ms mc a.block := by
  obtain ⟨l1, ⟨_, _, a1, _⟩, _⟩ := h.now
  obtain ⟨l2, ⟨_, _, a2, _⟩, _⟩ := h.synced
  obtain ⟨l3, ⟨_, _, a3, _⟩, _⟩ := h.chg
  rintro (e | e | e | e)
  · unfold World.cell? at hc
    rw [e, h.self] at hc
    have hm : u ∈ [Value.int .i64 d.steps, .int .i64 d.syncs, .int .i64 d.left, .bool d.armed, .bool d.down, .int .i64 d.size, .map (some mn), .map (some ms), .map (some mc)] := by
      simp only at hc
      split at hc <;> first | exact List.mem_of_getElem? (by simpa using hc) | cases hc
    rcases hu with ⟨b, rfl⟩ | ⟨q, n, c, rfl⟩ <;> simp [byteV] at hm
  · unfold World.cell? at hc; rw [e, a1] at hc; simp at hc
  · unfold World.cell? at hc; rw [e, a2] at hc; simp at hc
  · unfold World.cell? at hc; rw [e, a3] at hc; simp at hc
theorem Bytes.kept {S : Nat → Prop} {w w' : World} {v : Value} {l : List UInt8} (h : Bytes w v l) (hk : Keeps S w w') (hs : ∀ a b, w.cell? a = some (byteV b) → ¬ S a.block) : Bytes w' v l := by
  obtain ⟨q, cap, rfl, h1, h2, h3⟩ := h
  refine ⟨q, cap, rfl, h1, h2, fun j b hb => ?_⟩
  obtain ⟨a, rfl, hc⟩ := h3 j b hb
  exact ⟨a, rfl, hk.cell hc (hs _ _ hc)⟩
theorem Parts.kept {S : Nat → Prop} {w w' : World} {v : Value} {ps : List (List UInt8)} (h : Parts w v ps) (hk : Keeps S w w') (hs : ∀ a u, w.cell? a = some u → ((∃ b, u = byteV b) ∨ ∃ q n c, u = .slice q n c) → ¬ S a.block) : Parts w' v ps := by
  obtain ⟨q, cap, rfl, h1, h2, h3⟩ := h
  refine ⟨q, cap, rfl, h1, h2, fun j l hl => ?_⟩
  obtain ⟨a, u, e, hc, hu⟩ := h3 j l hl
  refine ⟨a, u, e, hk.cell hc (hs _ _ hc (.inr ?_)), hu.kept hk (fun a b hb => hs _ _ hb (.inl ⟨b, rfl⟩))⟩
  obtain ⟨q2, c2, rfl, _⟩ := hu
  exact ⟨_, _, _, rfl⟩
theorem sub_at {w : World} {B : Nat} {v : Value} {xs : List Value} {m : Nat} (h : SubRow w B v xs) (hl : xs.length = m) (h0 : 0 < m) : ∃ a cap, v = .slice (some a) m cap ∧ ∀ j u, xs[j]? = some u → w.cell? (a.add j) = some u := by
  rcases h with ⟨_, rfl⟩ | ⟨g, off, cap, rfl, _, _, _, _, _, h6⟩
  · simp at hl; omega
  · refine ⟨⟨g, off, none⟩, cap, by rw [hl], fun j u hu => ?_⟩
    have := h6 j u hu
    unfold Addr.add; split
    · rename_i h0; subst h0; simpa using this
    · simpa using this
theorem splice_all {α : Type} (L cs : List α) (h : L.length = cs.length) : splice L 0 cs = cs := by
  unfold splice
  simp only [List.take_zero, List.nil_append, Nat.zero_add]
  rw [List.drop_of_length_le (by omega), List.append_nil]
def Dev.put (d : Dev) (k : Int) (v : List UInt8) : Dev := { d with now := fun j => if j = k then v else d.now j, chg := fun j => if j = k then true else d.chg j }
def Dev.write (d : Dev) (k : Int) (v : List UInt8) : Int × Dev :=
  if k < 0 ∨ d.size ≤ k then (1, d) else if v.length ≠ 512 then (2, d) else if d.step.1 = 0 then (0, d.step.2.put k v) else d.step
theorem step_size (d : Dev) : d.step.2.size = d.size := by unfold Dev.step; split <;> rfl
theorem step_maps (d : Dev) : d.step.2.now = d.now ∧ d.step.2.synced = d.synced ∧ d.step.2.chg = d.chg := by unfold Dev.step; split <;> exact ⟨rfl, rfl, rfl⟩
theorem Dev.Ok.put {d : Dev} {n : Nat} (h : d.Ok n) {k : Int} {v : List UInt8} (h0 : 0 ≤ k) (h1 : k < d.size) (hv : v.length = 512) : (d.put k v).Ok n := by
  refine ⟨h.s0, h.s1, h.y0, h.y1, h.l0, h.l1, h.z1, h.z2, fun j => ⟨?_, (h.lens j).2⟩, fun j hj => ?_, fun j hj => ?_⟩
  · show (if j = k then v else d.now j).length = 512
    split
    · exact hv
    · exact (h.lens j).1
  · have hj' : (if j = k then true else d.chg j) = true := hj
    split at hj'
    · rename_i e; subst e; exact ⟨h0, h1⟩
    · exact h.rng j hj'
  · have hj' : (if j = k then true else d.chg j) = false := hj
    show (if j = k then v else d.now j) = d.synced j
    split at hj'
    · cases hj'
    · rw [if_neg ‹_›]; exact h.same j hj'
theorem Dev.Ok.write {d : Dev} {n : Nat} (h : d.Ok n) (k : Int) (v : List UInt8) : (d.write k v).2.Ok (n + 1) := by
  have hs := h.step
  have hm : d.Ok (n + 1) := { h with s1 := by have := h.s1; omega }
  unfold Dev.write
  split
  · exact hm
  · split
    · exact hm
    · split
      · exact hs.put (by omega) (by rw [step_size]; omega) (by omega)
      · exact hs
section
variable (w : World) (p mn ms mc : Nat) (d : Dev) (n : Nat) (h : DevAt w p mn ms mc d) (at_ : Int) (v : Value) (ps : List (List UInt8))
include h
theorem write_range (hr : at_ < 0 ∨ d.size ≤ at_) : Calls Try.prog 45 #[.pointer (some ⟨p, 0, none⟩), .int .i64 at_, v] w fun e w' => e = .returned (errV 1) ∧ w = w' := by
  have hm := makeErr 1
  have hs := size_any w p mn ms mc d h
  rw [errV_pos (by decide)]
  by_cases h0 : at_ < 0
  · go_enter Try.func45, Try.ntmps45
    go_wp2
    go_ret
    exact ⟨rfl, rfl⟩
  · have h1 : d.size ≤ at_ := by omega
    go_enter Try.func45, Try.ntmps45
    go_wp2_with (go_at_call 31; (with_reducible refine hs.mono ?_); rintro _ _ ⟨rfl, rfl⟩)
    go_ret
    exact ⟨rfl, rfl⟩
set_option maxRecDepth 100000 in
set_option maxHeartbeats 4000000 in
theorem write_form (hp : Parts w v ps) (hn : ps.length ≤ 1000000) (ht : ps.flatten.length ≤ 1000000000000) (h0 : 0 ≤ at_) (h1 : at_ < d.size) (hf : ps.flatten.length ≠ 512) :
    Calls Try.prog 45 #[.pointer (some ⟨p, 0, none⟩), .int .i64 at_, v] w fun e w' => e = .returned (errV 2) ∧ w = w' := by
  have hm := makeErr 2
  have hs := size_any w p mn ms mc d h
  rw [errV_pos (by decide)]
  have n0 : ¬ at_ < 0 := by omega
  obtain ⟨q, cap, rfl, hc1, hc2, h3⟩ := hp
  have H3 := Lib.hid h3
  clear h3 h
  go_enter Try.func45, Try.ntmps45
  go_wp2_with (go_at_call 31; (with_reducible refine hs.mono ?_); rintro _ _ ⟨rfl, rfl⟩)
  go_loop [7, 23] (fun s i => ∃ k : Nat, k ≤ ps.length ∧ i = .int .i64 k ∧ s = .int .i64 (tot ps k)) (fun _ i => ps.length - (intOf i).toNat)
  case atStart => exact ⟨0, by omega, rfl, rfl⟩
  case round =>
    obtain ⟨k, hk, rfl, rfl⟩ := hrel
    by_cases hlt : k < ps.length
    · obtain ⟨l, hl⟩ : ∃ l, ps[k]? = some l := ⟨_, List.getElem?_eq_getElem hlt⟩
      obtain ⟨a, u, rfl, hcell, hu⟩ := H3.out k l hl
      obtain ⟨q2, cap2, rfl, hq1, hq2, _⟩ := hu
      have hft := tot_succ hl
      have hle := tot_le ps (k + 1)
      rw [hft] at hle
      have hle2 : tot ps k + l.length ≤ 1000000000000 := by omega
      have Hft := Lib.hid hft
      clear hft hl hle
      go_wp2
      go_round
      case rel => exact ⟨k + 1, by omega, by go_num, by rw [Hft.out]; go_num⟩
      case measure => simp [intOf]; omega
    · obtain rfl : k = ps.length := by omega
      have hts : (((tot ps ps.length : Nat) : Int) != 512) = true := by
        have : tot ps ps.length = ps.flatten.length := by unfold tot; rw [List.take_length]
        rw [this, bne_iff_ne]; intro e; exact hf (by omega)
      go_wp2
      go_ret
      exact ⟨rfl, rfl⟩
set_option maxRecDepth 100000 in
set_option maxHeartbeats 8000000 in
theorem write_no (hd : d.Ok n) (hn' : n ≤ 1000000000) (hp : Parts w v ps) (hn : ps.length ≤ 1000000) (h0 : 0 ≤ at_) (h1 : at_ < d.size) (hf : ps.flatten.length = 512) (hz : d.step.1 ≠ 0) :
    Calls Try.prog 45 #[.pointer (some ⟨p, 0, none⟩), .int .i64 at_, v] w fun e w' => e = .returned (errV d.step.1) ∧ DevAt w' p mn ms mc d.step.2 ∧ Keeps (DFoot p mn ms mc) w w' := by
  have hs := size_any w p mn ms mc d h
  have hst := step_any w p mn ms mc d n h hd hn'
  have hlt := h.lt
  have Hp := Lib.hid hp
  have Hlt := Lib.hid hlt
  have Hf := Lib.hid hf
  have n0 : ¬ at_ < 0 := by omega
  have Hok := Lib.hid hd.step
  obtain ⟨q, cap, rfl, hc1, hc2, h3⟩ := hp
  have H3 := Lib.hid h3
  rw [errV_pos hz] at hst ⊢
  clear hz
  clear h3 h hd hf hlt
  go_enter Try.func45, Try.ntmps45
  go_wp2_with (go_at_call 31; (with_reducible refine hs.mono ?_); rintro _ _ ⟨rfl, rfl⟩)
  go_loop [7, 23] (fun s i => ∃ k : Nat, k ≤ ps.length ∧ i = .int .i64 k ∧ s = .int .i64 (tot ps k)) (fun _ i => ps.length - (intOf i).toNat)
  case atStart => exact ⟨0, by omega, rfl, rfl⟩
  case round =>
    obtain ⟨k, hk, rfl, rfl⟩ := hrel
    by_cases hlt : k < ps.length
    · obtain ⟨l, hl⟩ : ∃ l, ps[k]? = some l := ⟨_, List.getElem?_eq_getElem hlt⟩
      obtain ⟨a, u, rfl, hcell, hu⟩ := H3.out k l hl
      obtain ⟨q2, cap2, rfl, hq1, hq2, _⟩ := hu
      have hft := tot_succ hl
      have hle := tot_le ps (k + 1)
      rw [hft, Hf.out] at hle
      have Hft := Lib.hid hft
      clear hft hl
      go_wp2
      go_round
      case rel => exact ⟨k + 1, by omega, by go_num, by rw [Hft.out]; go_num⟩
      case measure => simp [intOf]; omega
    · obtain rfl : k = ps.length := by omega
      have Hts : Hid (tot ps ps.length = 512) := by unfold tot; rw [List.take_length]; exact Hf.out
      rw [Hts.out]
      go_wp2_with (go_at_call 74; (with_reducible refine hst.mono ?_); rintro _ w1 ⟨rfl, hA1, hK1⟩; clear hst)
      go_ret
      exact ⟨rfl, hA1, hK1.mono (fun _ _ e => .inl e)⟩
set_option maxRecDepth 100000 in
set_option maxHeartbeats 8000000 in
theorem write_go (hd : d.Ok n) (hn' : n ≤ 1000000000) (hp : Parts w v ps) (hn : ps.length ≤ 1000000) (h0 : 0 ≤ at_) (h1 : at_ < d.size) (hf : ps.flatten.length = 512) (hz : d.step.1 = 0) :
    Calls Try.prog 45 #[.pointer (some ⟨p, 0, none⟩), .int .i64 at_, v] w fun e w' => e = .returned .nilIface ∧ DevAt w' p mn ms mc (d.step.2.put at_ ps.flatten) ∧ Keeps (DFoot p mn ms mc) w w' := by
  have hs := size_any w p mn ms mc d h
  have hst := step_any w p mn ms mc d n h hd hn'
  have hlt := h.lt
  have Hp := Lib.hid hp
  have Hlt := Lib.hid hlt
  have Hf := Lib.hid hf
  have n0 : ¬ at_ < 0 := by omega
  have Hok := Lib.hid hd.step
  have Hap : Hid (∀ a u, w.cell? a = some u → ((∃ b, u = byteV b) ∨ ∃ q n c, u = .slice q n c) → ¬ DFoot p mn ms mc a.block) := fun a u => dev_apart h
  obtain ⟨q, cap, rfl, hc1, hc2, h3⟩ := hp
  have H3 := Lib.hid h3
  rw [hz, errV_zero] at hst
  generalize d.step.2 = d1 at hst Hok ⊢
  clear hz
  clear h3 h hd hf hlt
  go_enter Try.func45, Try.ntmps45
  go_wp2_with (go_at_call 31; (with_reducible refine hs.mono ?_); rintro _ _ ⟨rfl, rfl⟩)
  go_loop [7, 23] (fun s i => ∃ k : Nat, k ≤ ps.length ∧ i = .int .i64 k ∧ s = .int .i64 (tot ps k)) (fun _ i => ps.length - (intOf i).toNat)
  case atStart => exact ⟨0, by omega, rfl, rfl⟩
  case round =>
    obtain ⟨k, hk, rfl, rfl⟩ := hrel
    by_cases hlt : k < ps.length
    · obtain ⟨l, hl⟩ : ∃ l, ps[k]? = some l := ⟨_, List.getElem?_eq_getElem hlt⟩
      obtain ⟨a, u, rfl, hcell, hu⟩ := H3.out k l hl
      obtain ⟨q2, cap2, rfl, hq1, hq2, _⟩ := hu
      have hft := tot_succ hl
      have hle := tot_le ps (k + 1)
      rw [hft, Hf.out] at hle
      have Hft := Lib.hid hft
      clear hft hl
      go_wp2
      go_round
      case rel => exact ⟨k + 1, by omega, by go_num, by rw [Hft.out]; go_num⟩
      case measure => simp [intOf]; omega
    · obtain rfl : k = ps.length := by omega
      have Hts : Hid (tot ps ps.length = 512) := by unfold tot; rw [List.take_length]; exact Hf.out
      rw [Hts.out]
      go_wp2_with (first
        | (go_at_call 74; (with_reducible refine hst.mono ?_); rintro _ w1 ⟨rfl, hA1, hK1⟩; clear hst)
        | (with_reducible refine wpList_alloc_sec rfl rfl ?_))
      have hlt1 := hA1.lt
      have hP1 : Parts w1 (.slice q ps.length cap) ps := Hp.out.kept hK1 (fun a u hc hu e => Hap.out a u hc hu (.inl e))
      have hBa : Below w1.heap.size w1 (w1.alloc (.cells (bytesV blank).toArray 120)) := (Below.refl _ _).alloc (Nat.le_refl _) _
      have hP2 := hP1.below hBa
      have hbk : (w1.alloc (.cells (bytesV blank).toArray 120)).heap[w1.heap.size]? = some (.cells (bytesV blank).toArray 120 (0, 0)) := heap_alloc_new _ _
      have hA2 : DevAt (w1.alloc (.cells (bytesV blank).toArray 120)) p mn ms mc d1 := hA1.keeps (S := fun _ => False) (Keeps.of_below hBa) (fun _ _ hf => hf)
      have hg1 : w1.heap.size < (w1.alloc (.cells (bytesV blank).toArray 120)).heap.size := by simp
      generalize hw2 : w1.alloc (.cells (bytesV blank).toArray 120) = w2 at hBa hP2 hbk hA2 hg1 ⊢
      generalize hgg : w1.heap.size = g at hBa hbk hg1 hlt1 ⊢
      have Hgg := Lib.hid hgg
      clear hw2 hP1 hgg
      have hBa2 : Below g w1 w2.drew := hBa.drew
      have hP3 : Parts w2.drew (.slice q ps.length cap) ps := hP2.below ((Below.refl _ _).drew)
      have hbk2 : w2.drew.heap[g]? = some (.cells (bytesV blank).toArray 120 (0, 0)) := hbk
      have hcc := concat_any w2.drew _ ps hP3 Hf.out hn
      have hg2 : g < w2.drew.heap.size := hg1
      have Hg2 := Lib.hid hg2
      have Hbk2 := Lib.hid hbk2
      have HBa2 := Lib.hid hBa2
      have Hlb : Hid ((bytesV ps.flatten).length = 512) := (bytesV_len _).trans Hf.out
      clear hBa hP2 hbk hA2 hg1 hg2 hbk2 hBa2 hP3
      go_region_law (first
        | (go_simp; go_at_call 75; (with_reducible refine hcc.mono ?_); rintro _ w4 ⟨v4, rfl, hr4, hb4⟩; (obtain ⟨a4, cap4, rfl, h44⟩ := sub_at hr4 Hlb.out (by decide)))
        | (refine step_copy_splice rfl (.tmp 42) (.tmp 44) _ _ rfl 5 Try.underlying52 (by kernel_rfl) (some ⟨g, 0, none⟩) (some a4) 512 512 512 cap4 rfl rfl g 0 (bytesV blank) 120 ((hb4.block g Hg2.out).trans Hbk2.out) (bytesV ps.flatten) (by rw [Hlb.out]; rfl) (fun _ => ⟨rfl, a4, rfl, h44⟩) (by rw [Hlb.out, bytesV_len]; simp [blank]) (bytesV_one _) g w1 (HBa2.out.trans (hb4.mono (Nat.le_of_lt Hg2.out))) (Nat.le_refl _) ?_; intro w5 hg5 hb5))
      have hg5' := hg5.out
      rw [splice_all _ _ (by rw [bytesV_len, Hlb.out]; simp [blank])] at hg5'
      rw [← Hgg.out] at hb5
      have hA5 : DevAt w5 p mn ms mc d1 := hA1.keeps (S := fun _ => False) (Keeps.of_below hb5) (fun _ _ hf => hf)
      have hA5d : DevAt w5.drew p mn ms mc d1 := hA5.keeps (S := fun _ => False) ((Keeps.refl _ w5).drew) (fun _ _ hf => hf)
      obtain ⟨w6, hu1, hA6, hK6, hsz6⟩ := put_now hA5d at_ ps.flatten
      obtain ⟨w7, hu2, hA7, hK7, hsz7⟩ := put_chg hA6 at_
      have hgd : w5.drew.heap[g]? = some (.cells (bytesV ps.flatten).toArray 120 (0, 0)) := hg5'
      have c6 := hA5d.cells.c6
      have c8 := hA6.cells.c8
      have hfin : Hid (DevAt w7 p mn ms mc (d1.put at_ ps.flatten) ∧ Keeps (DFoot p mn ms mc) w w7) := by
        have k5 : Keeps (DFoot p mn ms mc) w w5.drew := ((hK1.mono (fun _ _ e => .inl e)).trans' (Keeps.of_below (S := fun _ => False) hb5) (fun _ _ hf => hf.elim)).drew
        exact ⟨hA7, (k5.trans (hK6.mono (fun _ _ e => .inr (.inl e)))).trans (hK7.mono (fun _ _ e => .inr (.inr (.inr e))))⟩
      clear hb5 hg5 hg5' hA5 hA5d hA6 hK6 hsz6 hA7 hK7 hsz7 hr4 hb4 hcc hA1 hK1 HBa2 Hbk2 Hg2
      go_wp2
      refine wp_region_still_tail 6 (by kernel_rfl) (by kernel_rfl) ?_
      simp only [List.take_succ_cons, List.take_zero, List.drop_succ_cons, List.drop_zero]
      change wpStill _ _ w5.drew (fun a' => wpList _ _ _ _ a' w5.drew) _ _
      generalize w5.drew = w8 at hu1 hgd c6 ⊢
      repeat (first | (with_reducible refine wpStill_load_sec rfl (.tmp 11) rfl rfl hgd Hf.out ?_) | still_step)
      refine wpStill_nil ?_
      go_wp2
      go_ret
      exact ⟨rfl, hfin.out⟩
theorem write_any (hd : d.Ok n) (hn' : n ≤ 1000000000) (hp : Parts w v ps) (hn : ps.length ≤ 1000000) (ht : ps.flatten.length ≤ 1000000000000) :
    Calls Try.prog 45 #[.pointer (some ⟨p, 0, none⟩), .int .i64 at_, v] w fun e w' => e = .returned (errV (d.write at_ ps.flatten).1) ∧ DevAt w' p mn ms mc (d.write at_ ps.flatten).2 ∧ Keeps (DFoot p mn ms mc) w w' := by
  by_cases hr : at_ < 0 ∨ d.size ≤ at_
  · have e : d.write at_ ps.flatten = (1, d) := by unfold Dev.write; rw [if_pos hr]
    rw [e]
    exact (write_range w p mn ms mc d h at_ v hr).mono fun _ _ ⟨h1, h2⟩ => ⟨h1, h2 ▸ h, h2 ▸ Keeps.refl _ _⟩
  · by_cases hf : ps.flatten.length = 512
    · by_cases hz : d.step.1 = 0
      · have e : d.write at_ ps.flatten = (0, d.step.2.put at_ ps.flatten) := by unfold Dev.write; rw [if_neg hr, if_neg (by simp only [hf]; decide), if_pos hz]
        rw [e]
        exact write_go w p mn ms mc d n h at_ v ps hd hn' hp hn (by omega) (by omega) hf hz
      · have e : d.write at_ ps.flatten = d.step := by unfold Dev.write; rw [if_neg hr, if_neg (by simp only [hf]; decide), if_neg hz]
        rw [e]
        exact write_no w p mn ms mc d n h at_ v ps hd hn' hp hn (by omega) (by omega) hf hz
    · have e : d.write at_ ps.flatten = (2, d) := by unfold Dev.write; rw [if_neg hr, if_pos hf]
      rw [e]
      exact (write_form w p mn ms mc d h at_ v ps hp hn ht (by omega) (by omega) hf).mono fun _ _ ⟨h1, h2⟩ => ⟨h1, h2 ▸ h, h2 ▸ Keeps.refl _ _⟩
end
end Go.Proofs.Ytnficiohnhodiaa


/-
  The device: Sync, Crash.
-/
namespace Go.Proofs.Ytnficiohnhodiaa
open Go.RowKit
open Go.ChangeMaps (setBlock)
def Dev.sync (d : Dev) : Int × Dev := if d.step.1 = 0 then (0, { d.step.2 with syncs := d.step.2.syncs + 1 }.settle) else d.step
theorem Dev.Ok.settle {d : Dev} {n : Nat} (h : d.Ok n) : d.settle.Ok n := by
  refine ⟨h.s0, h.s1, h.y0, h.y1, h.l0, h.l1, h.z1, h.z2, fun j => ⟨(h.lens j).1, ?_⟩, (fun j hj => by cases hj), fun j _ => ?_⟩
  · show (if d.chg j then d.now j else d.synced j).length = 512
    split
    · exact (h.lens j).1
    · exact (h.lens j).2
  · show d.now j = if d.chg j then d.now j else d.synced j
    split
    · rfl
    · rename_i hc; exact h.same j (by simpa using hc)
theorem step_steps (d : Dev) (h : d.step.1 = 0) : d.step.2.steps = d.steps + 1 ∧ d.step.2.syncs = d.syncs := by
  unfold Dev.step at h ⊢
  split
  · rename_i e; rw [if_pos e] at h; cases h
  · exact ⟨rfl, rfl⟩
theorem Dev.Ok.sync {d : Dev} {n : Nat} (h : d.Ok n) : d.sync.2.Ok (n + 1) := by
  have hs := h.step
  unfold Dev.sync
  split
  · rename_i hz
    have h1 := step_steps d hz
    refine Dev.Ok.settle ⟨hs.s0, hs.s1, ?_, ?_, hs.l0, hs.l1, hs.z1, hs.z2, hs.lens, hs.rng, hs.same⟩
    · show 0 ≤ d.step.2.syncs + 1
      have := h.y0; rw [h1.2]; omega
    · show d.step.2.syncs + 1 ≤ d.step.2.steps
      rw [h1.1, h1.2]; have := h.y1; omega
  · exact hs
section
variable (w : World) (p mn ms mc : Nat) (d : Dev) (n : Nat) (h : DevAt w p mn ms mc d)
include h
set_option maxRecDepth 100000 in
set_option maxHeartbeats 2000000 in
theorem sync_any (hd : d.Ok n) (hn : n ≤ 1000000000) : Calls Try.prog 47 #[.pointer (some ⟨p, 0, none⟩)] w fun e w' => e = .returned (errV d.sync.1) ∧ DevAt w' p mn ms mc d.sync.2 ∧ Keeps (DFoot p mn ms mc) w w' := by
  have hst := step_any w p mn ms mc d n h hd hn
  have hok := hd.step
  clear h
  by_cases hz : d.step.1 = 0
  · have e : d.sync = (0, { d.step.2 with syncs := d.step.2.syncs + 1 }.settle) := by unfold Dev.sync; rw [if_pos hz]
    rw [e]
    rw [hz, errV_zero] at hst
    simp only [errV_zero]
    have b0 := hok.y0
    have b1 := hok.y1
    have b2 := hok.s1
    clear e hz hok hd
    generalize d.step.2 = d1 at hst b0 b1 b2 ⊢
    have hf : ∀ w1, DevAt w1 p mn ms mc d1 → Calls Try.prog 76 #[.pointer (some ⟨p, 1, none⟩), .int .i64 1] w1 fun e w' => e = .returned (.int .i64 (d1.syncs + 1)) ∧ DevAt w' p mn ms mc { d1 with syncs := d1.syncs + 1 } ∧ Keeps (· = p) w1 w' := fun w1 hA1 =>
      (add_any w1 p 1 d1.syncs hA1.cells.c1 (hA1.free 1) b0 (by omega)).mono fun _ _ ⟨h1, h2⟩ => by
        subst h2
        refine ⟨h1, hA1.upd (Keeps.cellAt (S := (· = p)) rfl _) ?_ rfl rfl rfl, Keeps.cellAt (S := (· = p)) rfl _⟩
        rw [heap_setCell _ _ _ _ _ _ _ hA1.self]; rfl
    have Hf := Lib.hid hf
    clear hf b0 b1 b2
    go_enter Try.func47, Try.ntmps47
    go_wp2_with (first
      | (go_at_call 74; (with_reducible refine hst.mono ?_); rintro _ w1 ⟨rfl, hA1, hK1⟩; clear hst; have hadd := Hf.out w1 hA1)
      | (go_at_call 76; (with_reducible refine hadd.mono ?_); rintro _ w2 ⟨rfl, hA2, hK2⟩; clear hadd; have hse := settle_any w2 p mn ms mc _ hA2)
      | (go_at_call 77; (with_reducible refine hse.mono ?_); rintro _ w3 ⟨rfl, hA3, hK3⟩; clear hse))
    go_ret
    exact ⟨rfl, hA3, ((hK1.mono (fun _ _ e => .inl e)).trans (hK2.mono (fun _ _ e => .inl e))).trans (hK3.mono (fun _ _ e => e.elim (fun e => .inr (.inr (.inl e))) (fun e => .inr (.inr (.inr e)))))⟩
  · have e : d.sync = d.step := by unfold Dev.sync; rw [if_neg hz]
    rw [e, errV_pos hz]
    rw [errV_pos hz] at hst
    clear e hz hok hd
    go_enter Try.func47, Try.ntmps47
    go_wp2_with (go_at_call 74; (with_reducible refine hst.mono ?_); rintro _ w1 ⟨rfl, hA1, hK1⟩; clear hst)
    go_ret
    exact ⟨rfl, hA1, hK1.mono (fun _ _ e => .inl e)⟩
end
/-- a slice of ints of whatever memory -/
def Ints (w : World) (v : Value) (l : List Int) : Prop :=
  ∃ q cap, v = .slice q l.length cap ∧ l.length ≤ cap ∧ cap ≤ maxLen ∧ ∀ j x, l[j]? = some x → ∃ b off, q = some ⟨b, off, none⟩ ∧ w.cell? ⟨b, off + j, none⟩ = some (.int .i64 x)
theorem Ints.kept {S : Nat → Prop} {w w' : World} {v : Value} {l : List Int} (h : Ints w v l) (hk : Keeps S w w') (hs : ∀ (a : Addr) x, w.cell? a = some (.int .i64 x) → ¬ S a.block) : Ints w' v l := by
  obtain ⟨q, cap, rfl, h1, h2, h3⟩ := h
  refine ⟨q, cap, rfl, h1, h2, fun j x hx => ?_⟩
  obtain ⟨b, off, e, hc⟩ := h3 j x hx
  exact ⟨b, off, e, hk.cell hc (hs _ _ hc)⟩
theorem Ints.below {w w' : World} {v : Value} {l : List Int} (h : Ints w v l) (hb : Below w.heap.size w w') : Ints w' v l := h.kept (S := fun _ => False) (Keeps.of_below hb) (fun _ _ _ hf => hf)
theorem ints_nil {w : World} {cap : Nat} (h : cap ≤ maxLen) (q : Option Addr) : Ints w (.slice q 0 cap) [] := ⟨q, cap, rfl, Nat.zero_le _, h, fun j x hx => by simp at hx⟩
theorem Ints.of_owns {w : World} {B : Nat} {v : Value} {L : List Int} (h : w.ownsRow B 3 1 v L.length (L.map (Value.int .i64))) : Ints w v L := by
  rcases SubRow.of_owns h with ⟨rfl, h0⟩ | ⟨g, off, cap, rfl, _, _, h3, h4, _, h6⟩
  · have : L = [] := List.map_eq_nil_iff.1 h0
    subst this
    exact ints_nil (Nat.zero_le _) none
  · rw [List.length_map] at h3 ⊢
    exact ⟨_, cap, rfl, h3, h4, fun j x hx => ⟨g, off, rfl, h6 j _ (by rw [List.getElem?_map, hx]; rfl)⟩⟩
theorem contains_any (w : World) (v : Value) (l : List Int) (x : Int) (h : Ints w v l) : Calls Try.prog 78 #[v, .int .i64 x] w fun e w' => e = .returned (.bool (l.contains x)) ∧ w = w' := by
  obtain ⟨q, cap, rfl, h1, h2, h3⟩ := h
  cases hl : l with
  | nil => exact (Try.slices_Contains_int_empty q cap x w).mono fun _ _ ⟨a, b⟩ => ⟨a, b.symm⟩
  | cons y r =>
    obtain ⟨b, off, rfl, _⟩ := h3 0 y (by rw [hl]; rfl)
    rw [← hl]
    refine (Try.slices_Contains_int b off l.length cap l x w (Nat.le_refl _) (by unfold maxLen at h2; omega) (fun j hj => ?_)).mono fun _ _ ⟨a, b⟩ => ⟨?_, b.symm⟩
    · obtain ⟨b', off', e, hc⟩ := h3 j (l[j]'hj) (List.getElem?_eq_getElem hj)
      cases e
      rw [hc, List.getD_eq_getElem?_getD, List.getElem?_eq_getElem hj]; rfl
    · rw [a, List.take_length]
def Dev.undo (d : Dev) (keep T : List Int) : Dev := { d with now := fun j => if j ∈ T ∧ j ∉ keep then d.synced j else d.now j }
def Dev.crash (d : Dev) (keep : List Int) : Dev := { (d.undo keep d.unsynced).settle with armed := false, down := false }
theorem undo_nil (d : Dev) (keep : List Int) : d.undo keep [] = d := Dev.ext' rfl rfl rfl rfl rfl rfl (fun j => by simp [Dev.undo]) (fun _ => rfl) (fun _ => rfl)
theorem undo_keep {d : Dev} {keep T : List Int} {k : Int} (h : k ∈ keep) : d.undo keep (T ++ [k]) = d.undo keep T := by
  refine Dev.ext' rfl rfl rfl rfl rfl rfl (fun j => ?_) (fun _ => rfl) (fun _ => rfl)
  show (if j ∈ T ++ [k] ∧ j ∉ keep then d.synced j else d.now j) = if j ∈ T ∧ j ∉ keep then d.synced j else d.now j
  have : (j ∈ T ++ [k] ∧ j ∉ keep) ↔ (j ∈ T ∧ j ∉ keep) := by
    rw [List.mem_append, List.mem_singleton]
    exact ⟨fun ⟨a, b⟩ => ⟨a.resolve_right (fun e => b (e ▸ h)), b⟩, fun ⟨a, b⟩ => ⟨.inl a, b⟩⟩
  simp only [this]
theorem undo_back {d : Dev} {keep T : List Int} {k : Int} (h : k ∉ keep) : ({ d.undo keep T with now := fun j => if j = k then (d.undo keep T).synced k else (d.undo keep T).now j } : Dev) = d.undo keep (T ++ [k]) := by
  refine Dev.ext' rfl rfl rfl rfl rfl rfl (fun j => ?_) (fun _ => rfl) (fun _ => rfl)
  show (if j = k then d.synced k else if j ∈ T ∧ j ∉ keep then d.synced j else d.now j) = if j ∈ T ++ [k] ∧ j ∉ keep then d.synced j else d.now j
  by_cases hj : j = k
  · subst hj; rw [if_pos rfl, if_pos ⟨by simp, h⟩]
  · rw [if_neg hj]
    have : (j ∈ T ++ [k] ∧ j ∉ keep) ↔ (j ∈ T ∧ j ∉ keep) := by
      rw [List.mem_append, List.mem_singleton]
      exact ⟨fun ⟨a, b⟩ => ⟨a.resolve_right hj, b⟩, fun ⟨a, b⟩ => ⟨.inl a, b⟩⟩
    simp only [this]
theorem dev_map_apart {w : World} {p mn ms mc : Nat} {d : Dev} (h : DevAt w p mn ms mc d) {a : Addr} {u : Value} (hc : w.cell? a = some u) : a.block ≠ mn := by
  obtain ⟨l1, ⟨_, _, a1, _⟩, _⟩ := h.now
  intro e
  unfold World.cell? at hc; rw [e, a1] at hc; simp at hc
set_option maxRecDepth 100000 in
set_option maxHeartbeats 4000000 in
theorem crash_any (w : World) (p mn ms mc : Nat) (d : Dev) (n : Nat) (h : DevAt w p mn ms mc d) (hd : d.Ok n) (v : Value) (keep : List Int) (hk : Ints w v keep) :
    Calls Try.prog 48 #[.pointer (some ⟨p, 0, none⟩), v] w fun e w' => e = .returned (.tuple #[]) ∧ DevAt w' p mn ms mc (d.crash keep) ∧ Keeps (DFoot p mn ms mc) w w' := by
  have hu := unsynced_any w p mn ms mc d n h hd
  have hlt := h.lt
  have Hlt := Lib.hid hlt
  have Hh := Lib.hid h
  have Hk := Lib.hid hk
  have Hcr : Hid (d.crash keep = { (d.undo keep d.unsynced).settle with armed := false, down := false }) := rfl
  have hlen : d.unsynced.length ≤ 4096 := by
    have h2 : d.unsynced.length ≤ d.size.toNat := by
      unfold Dev.unsynced; rw [List.length_map]; exact Nat.le_trans (List.length_filter_le _ _) (by simp)
    have := hd.z2; omega
  clear h hk hlt hd
  rw [Hcr.out]
  generalize d.unsynced = L at hu hlen ⊢
  clear Hcr
  go_enter Try.func48, Try.ntmps48
  go_wp2_with (go_at_call 29; (with_reducible refine hu.mono ?_); rintro _ w1 ⟨v1, rfl, ho, hb1⟩; clear hu; (obtain ⟨q, cap, rfl, hq1, hq2, h3⟩ := Ints.of_owns ho); clear ho)
  have hI1 : Ints w1 (.slice q L.length cap) L := ⟨q, cap, rfl, hq1, hq2, h3⟩
  have hA1 : DevAt w1 p mn ms mc (d.undo keep (L.take 0)) := by rw [List.take_zero, undo_nil]; exact Hh.out.keeps (S := fun _ => False) (Keeps.of_below hb1) (fun _ _ hf => hf)
  have hk1 := Hk.out.below hb1
  have hK1 : Keeps (· = mn) w w1 := (Keeps.of_below (S := fun _ => False) hb1).mono (fun _ _ hf => hf.elim)
  clear h3 hb1
  go_loopw [11] (fun i wr => ∃ k : Nat, k ≤ L.length ∧ i = .int .i64 k ∧ DevAt wr p mn ms mc (d.undo keep (L.take k)) ∧ Ints wr (.slice q L.length cap) L ∧ Ints wr v keep ∧ Keeps (· = mn) w wr) (fun i _ => L.length - (intOf i).toNat)
  case atStart => exact ⟨0, by omega, rfl, hA1, hI1, hk1, hK1⟩
  case round =>
    clear hA1 hI1 hk1 hK1
    obtain ⟨k, hk, rfl, hA, hI, hKp, hK⟩ := hrel
    by_cases hlt : k < L.length
    · obtain ⟨x, hx⟩ : ∃ x, L[k]? = some x := ⟨_, List.getElem?_eq_getElem hlt⟩
      have HI := Lib.hid hI
      obtain ⟨q', cap', e, _, _, h3⟩ := hI
      obtain ⟨b, off, hq, hcell⟩ := h3 k x hx
      simp only [Value.slice.injEq, true_and] at e
      obtain rfl : q = some ⟨b, off, none⟩ := e.1.trans hq
      have hct := contains_any wr v keep x hKp
      have Hts : Hid (L.take (k + 1) = L.take k ++ [x]) := by show _ = _; rw [List.take_add_one, hx]; rfl
      clear e hq h3 hx
      by_cases hin : x ∈ keep
      · rw [show keep.contains x = true from by simpa using hin] at hct
        have hA' : DevAt wr p mn ms mc (d.undo keep (L.take (k + 1))) := by rw [Hts.out, undo_keep hin]; exact hA
        clear hin
        go_wp2_with (go_at_call 78; (with_reducible refine hct.mono ?_); rintro _ _ ⟨rfl, rfl⟩; clear hct)
        go_roundw
        case rel => exact ⟨k + 1, by omega, by go_num, hA', HI.out, hKp, hK⟩
        case measure => simp [intOf]; omega
      · rw [show keep.contains x = false from by simpa using hin] at hct
        have hAd : DevAt wr.drew p mn ms mc (d.undo keep (L.take k)) := hA.keeps (S := fun _ => False) ((Keeps.refl _ wr).drew) (fun _ _ hf => hf)
        obtain ⟨w6, hu, hA6, hK6, hsz6⟩ := put_now hAd x ((d.undo keep (L.take k)).synced x)
        have hgs := get_synced hAd x
        have c6 := hAd.cells.c6
        have c7 := hAd.cells.c7
        have hfin : Hid (DevAt w6 p mn ms mc (d.undo keep (L.take (k + 1))) ∧ Ints w6 (.slice (some ⟨b, off, none⟩) L.length cap) L ∧ Ints w6 v keep ∧ Keeps (· = mn) w w6) := by
          have k6 : Keeps (· = mn) wr w6 := ((Keeps.refl (· = mn) wr).drew).trans hK6
          refine ⟨?_, HI.out.kept k6 (fun a x hc => dev_map_apart hA hc), hKp.kept k6 (fun a x hc => dev_map_apart hA hc), hK.trans k6⟩
          rw [Hts.out, ← undo_back hin]; exact hA6
        clear hAd hA6 hK6 hsz6 hA hKp hK hin
        go_wp2_with (go_at_call 78; (with_reducible refine hct.mono ?_); rintro _ _ ⟨rfl, rfl⟩; clear hct)
        refine wp_region_still_tail 11 (by kernel_rfl) (by kernel_rfl) ?_
        simp only [List.take_succ_cons, List.take_zero, List.drop_succ_cons, List.drop_zero]
        change wpStill _ _ wr.drew (fun a' => wpList _ _ _ _ a' wr.drew) _ _
        generalize wr.drew = w5 at hu hgs c6 c7 ⊢
        repeat still_step
        refine wpStill_nil ?_
        go_wp2
        go_roundw
        case rel => exact ⟨k + 1, by omega, by go_num, hfin.out⟩
        case measure => simp [intOf]; omega
    · obtain rfl : k = L.length := by omega
      rw [List.take_length] at hA
      have hse := settle_any wr p mn ms mc _ hA
      have Hlt2 := Hlt
      clear hA hI hKp
      go_wp2_with fail
      refine hse.mono ?_
      rintro _ w9 ⟨rfl, hA9, hK9⟩
      have hK9' : Keeps (DFoot p mn ms mc) w w9 := (hK.mono (fun _ _ e => .inr (.inl e))).trans (hK9.mono (fun _ _ e => e.elim (fun e => .inr (.inr (.inl e))) (fun e => .inr (.inr (.inr e)))))
      obtain ⟨c0, c1, c2, c3, c4, c5, c6, c7, c8⟩ := hA9.cells
      have f3 := hA9.free 3
      have f4 := hA9.free 4
      have HA9 := Lib.hid hA9
      clear hA9 hse hK hK9
      go_wp2_with fail
      go_end0
      have hk2 : Keeps (· = p) w9 ((w9.setCell ⟨p, 3, none⟩ (.bool false)).setCell ⟨p, 4, none⟩ (.bool false)) := (Keeps.cellAt (S := (· = p)) rfl _).setCell (.inl rfl) _
      refine ⟨rfl, HA9.out.upd hk2 ?_ rfl rfl rfl, hK9'.trans (hk2.mono (fun _ _ e => .inl e))⟩
      rw [heap_setCell _ _ _ _ _ _ _ (heap_setCell _ _ _ _ _ _ _ HA9.out.self)]; rfl
theorem crash_nil (w : World) (v : Value) : Calls Try.prog 48 #[.pointer none, v] w fun e w' => e = .returned (.tuple #[]) ∧ w = w' := by
  go_enter Try.func48, Try.ntmps48
  go_wp2
  first | go_end0 | refine bodyPost_ret (results_none rfl _ _ _) rfl ?_
  exact ⟨rfl, rfl⟩
theorem Dev.Ok.crash {d : Dev} {n : Nat} (h : d.Ok n) (keep : List Int) : (d.crash keep).Ok n := by
  have hu : (d.undo keep d.unsynced).Ok n := by
    refine ⟨h.s0, h.s1, h.y0, h.y1, h.l0, h.l1, h.z1, h.z2, fun j => ⟨?_, (h.lens j).2⟩, h.rng, fun j hj => ?_⟩
    · show (if j ∈ d.unsynced ∧ j ∉ keep then d.synced j else d.now j).length = 512
      split
      · exact (h.lens j).2
      · exact (h.lens j).1
    · show (if j ∈ d.unsynced ∧ j ∉ keep then d.synced j else d.now j) = d.synced j
      split
      · rfl
      · exact h.same j hj
  have hs := hu.settle
  exact ⟨hs.s0, hs.s1, hs.y0, hs.y1, hs.l0, hs.l1, hs.z1, hs.z2, hs.lens, hs.rng, hs.same⟩
end Go.Proofs.Ytnficiohnhodiaa
