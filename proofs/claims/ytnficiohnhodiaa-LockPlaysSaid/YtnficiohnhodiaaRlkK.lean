import Derived.Test.YtnficiohnhodiaaRlkJ
import Derived.Test.YtnficiohnhodiaaLockT
import Derived.Test.YtnficiohnhodiaaOps
/-
  LockPlays: what the law's walk wants.
-/
namespace Go.Proofs.Ytnficiohnhodiaa
open Go.RowKit
theorem lt_of_cell {w : World} {p : Addr} {v : Value} (h : w.cell? p = some v) : p.block < w.heap.size := by
  unfold World.cell? at h
  cases hb : w.heap[p.block]? with
  | none => rw [hb] at h; cases h
  | some o => exact (Array.getElem?_eq_some_iff.1 hb).1
theorem ops_at {w w' : World} {x : Addr} {len cap : Nat} {zs : List OpL} (h : IsOps w (some x) len cap zs) (hb : Below w.heap.size w w') (k : Nat) (o : OpL) (ho : zs[k]? = some o) :
    w'.cell? (x.add (k * 4)) = some (.int .i64 o.kind) ∧ w'.cell? ⟨(x.add (k * 4)).block, (x.add (k * 4)).off + 1, none⟩ = some (.int .i64 o.txn) ∧ w'.cell? ⟨(x.add (k * 4)).block, (x.add (k * 4)).off + 2, none⟩ = some (.int .i64 o.page) ∧ w'.cell? ⟨(x.add (k * 4)).block, (x.add (k * 4)).off + 3, none⟩ = some (.int .i64 o.mode) := by
  rcases h with ⟨h, _⟩ | ⟨y, e, _, _, _, hc, _⟩
  · cases h
  · cases e
    have hh : ∀ j v, o.vals[j]? = some v → w'.cell? (x.add (k * 4 + j)) = some v := fun j v hv => by
      have hc := hc k o ho j v hv
      exact (hb.cell (p := x.add (k * 4 + j)) (lt_of_cell hc)).trans hc
    have e : ∀ j, 0 < j → x.add (k * 4 + j) = ⟨(x.add (k * 4)).block, (x.add (k * 4)).off + j, none⟩ := fun j hj => by
      have e2 : ∀ y : Addr, y.add j = ⟨y.block, y.off + j, none⟩ := fun y => by unfold Addr.add; rw [if_neg (by omega)]
      rw [← Go.Deep.add_add]; exact e2 _
    exact ⟨hh 0 _ rfl, e 1 (by omega) ▸ hh 1 _ rfl, e 2 (by omega) ▸ hh 2 _ rfl, e 3 (by omega) ▸ hh 3 _ rfl⟩
theorem ops_some {w : World} {a : Option Addr} {len cap : Nat} {zs : List OpL} (h : IsOps w a len cap zs) {k : Nat} {o : OpL} (ho : zs[k]? = some o) : ∃ x, a = some x := by
  rcases h with ⟨_, _, _, rfl⟩ | ⟨y, e, _⟩
  · simp at ho
  · exact ⟨y, e⟩
theorem ops_len {w : World} {a : Option Addr} {len cap : Nat} {zs : List OpL} (h : IsOps w a len cap zs) : zs.length = len := by
  rcases h with ⟨_, rfl, _, rfl⟩ | ⟨y, _, h, _⟩
  · rfl
  · exact h
theorem wf_ops {w : World} {x : Addr} {len cap : Nat} {zs : List OpL} (h : IsOps w (some x) len cap zs) {k : Nat} {o : OpL} (ho : zs[k]? = some o) : o.wf := by
  rcases h with ⟨h, _⟩ | ⟨y, e, _, _, _, _, hw⟩
  · cases h
  · exact hw o (List.mem_of_getElem? ho)
theorem ta_errno (v : Value) (w : World) : (Instr.typeAssert (.iface 74 v) 35 74 true).run Try.prog w = .ok (.tuple #[v, .bool true]) w := by kernel_rfl
set_option maxRecDepth 100000 in
theorem num_any (x : Int) (w : World) (h : 0 ≤ x) : Calls Try.prog 10 #[errV x] w fun e w' => e = .returned (.int .i64 x) ∧ w = w' := by
  by_cases h0 : x = 0
  · subst h0
    rw [errV_zero]
    go_enter Try.func10, Try.ntmps10
    go_wp2
    go_ret
    exact ⟨rfl, rfl⟩
  · rw [errV_pos h0]
    have e0 : decide (x = 0) = false := by simp; omega
    have e1 : (x == 0) = false := by simp; omega
    have hta := ta_errno (.int .i64 x)
    go_enter Try.func10, Try.ntmps10
    go_wp2
    go_ret
    exact ⟨rfl, rfl⟩
set_option maxRecDepth 100000 in
set_option maxHeartbeats 1000000 in
theorem ints_same (w : World) (B C : Nat) (va vb : Value) (l : List Int) (ha : SubRow w B va (intsV l)) (hb : SubRow w C vb (intsV l)) (hl : l.length ≤ 1000000000) : Calls Try.prog 16 #[va, vb] w fun e w' => e = .returned (.bool true) ∧ ∃ n, w' = w.drewN n := by
  have H3 := Lib.hid ha
  have K3 := Lib.hid hb
  obtain ⟨q, cap, rfl, h1, h2⟩ := ha.intForm
  obtain ⟨q2, cap2, rfl, k1, k2⟩ := hb.intForm
  clear ha hb
  go_enter Try.func16, Try.ntmps16
  go_wp2
  go_loopw [13] (fun i wr => ∃ k n : Nat, k ≤ l.length ∧ i = .int .i64 k ∧ wr = w.drewN n) (fun i _ => l.length - (intOf i).toNat)
  case atStart => exact ⟨0, 0, by omega, rfl, rfl⟩
  case round =>
    obtain ⟨k, n, hk, rfl, rfl⟩ := hrel
    by_cases hlt : k < l.length
    · obtain ⟨x, hx⟩ : ∃ x, l[k]? = some x := ⟨_, List.getElem?_eq_getElem hlt⟩
      obtain ⟨b, off, cx, ex, _, hc⟩ := H3.out.int hx
      obtain ⟨b2, off2, cx2, ex2, _, hc2⟩ := K3.out.int hx
      injection ex with ex1 _ ex3
      injection ex2 with ey1 _ ey3
      subst ex1 ex3 ey1 ey3
      clear hx
      have hki : (k : Int) < (l.length : Int) := by omega
      go_wp2_with fail
      go_quiet (fail)
      go_wp2
      go_roundw
      case rel => exact ⟨k + 1, _, by omega, by go_num, rfl⟩
      case measure => simp [intOf]; omega
    · obtain rfl : k = l.length := by omega
      go_wp2
      go_ret
      exact ⟨rfl, n, rfl⟩
/-- both tables, apart -/
structure BothL (w0 w : World) (p mp mw : Nat) (t : LT) (b : Nat) (vl vw : Value) (ls ws : List Lk) : Prop where
  tb : TB w0 w p mp mw t
  tab : TabAt w w0.heap.size b vl vw ls ws
  off : ∀ k, LTFoot p mp mw t k → ¬ TFoot b vl vw k
theorem take_code (t : LT) (txn page mode : Int) (m m' : Nat) : (t.take txn page mode m).1 = (t.take txn page mode m').1 := by
  unfold LT.take
  split
  · rfl
  · simp only
    split
    · rfl
    · split
      · rfl
      · split <;> rfl
section
variable {w0 w w' : World} {p mp mw b : Nat} {t t' : LT} {vl vw vl' vw' : Value} {ls ws ls' ws' : List Lk}
theorem BothL.below (h : BothL w0 w p mp mw t b vl vw ls ws) (hb : Below w.heap.size w w') : BothL w0 w' p mp mw t b vl vw ls ws := ⟨h.tb.below hb, h.tab.below hb, h.off⟩
/-- the program's table has made its step -/
theorem BothL.ahead (h : BothL w0 w p mp mw t b vl vw ls ws) (hl : LTAt w' p mp mw t') (hk : Keeps (LTFoot p mp mw t) w w') (hf : ∀ k, LTFoot p mp mw t' k → LTFoot p mp mw t k ∨ w.heap.size ≤ k) : BothL w0 w' p mp mw t' b vl vw ls ws :=
  ⟨h.tb.step hl hk hf, h.tab.keeps hk (fun k e e' => h.off k e' e), fun k e e' => (hf k e).elim (fun e2 => h.off k e2 e') (fun e2 => by have := (h.tab.lt k e').2; omega)⟩
theorem BothL.behind (h : BothL w0 w p mp mw t b vl vw ls ws) (ht : TabAt w' w0.heap.size b vl' vw' ls' ws') (hk : Keeps (TFoot b vl vw) w w') (hf : ∀ k, TFoot b vl' vw' k → TFoot b vl vw k ∨ w.heap.size ≤ k) : BothL w0 w' p mp mw t b vl' vw' ls' ws' :=
  ⟨⟨h.tb.lay.keeps hk h.off, h.tb.low, h.tb.bel.trans (hk.below h.tb.bel.size (fun k hk' e => by have := (h.tab.lt k e).1; omega))⟩, ht, fun k e e' => (hf k e').elim (fun e2 => h.off k e e2) (fun e2 => by have := h.tb.lay.lt k e; omega)⟩
theorem takeR_len (ls ws : List Lk) (txn page mode : Int) (cb : Bool) : (takeR ls ws txn page mode cb).2.2.length ≤ ws.length + 1 := by
  have hf : (forgetR ws txn).length ≤ ws.length := List.length_filter_le _ _
  unfold takeR
  simp only
  repeat' split
  all_goals first
    | (show ws.length ≤ _; omega)
    | (show (forgetR ws txn).length ≤ _; omega)
    | (show (forgetR ws txn ++ [_]).length ≤ _; rw [List.length_append]; simp only [List.length_cons, List.length_nil]; omega)
end
end Go.Proofs.Ytnficiohnhodiaa
