import Derived.Test.YtbaphjnglkocpaaDiskG
import Derived.Deep.RegionLaw
/-
  The device: Write.
-/
namespace Go.Proofs.Ytbaphjnglkocpaa
open Go.RowKit
open Go.ChangeMaps (setBlock)
theorem wpStill_load_sec {w : World} {ops : Array Oper} {rest : List Oper} {o : Oper} {a : Act} {Q : Act → Prop} (hgd : o.guard = none) (x : Operand) (ho : o.op = .load 109 x) {g : Nat} (hx : a.eval x = .pointer (some ⟨g, 0, none⟩)) {l : List UInt8} {T : TypeId} {fr : Nat × Nat}
    (hg : w.heap[g]? = some (.cells (bytesV l).toArray T fr)) (hl : l.length = 512) (h : wpStill Try.prog ops w Q rest (a.put o.dst (secV l))) : wpStill Try.prog ops w Q (o :: rest) a := by
  refine wpStill_step fun K hK => ?_
  have hr := run_loadVar_row (P := Try.prog) w g T 109 (bytesV l).toArray fr _ hg Try.underlying109 rfl (by rw [List.size_toArray, bytesV_len, hl]; exact (zero_of_info infoS).2)
  have hw : Region.wanted o (yielded ops a.tmps) = true := by simp [Region.wanted, hgd]
  rw [if_pos hw]
  unfold Oper.still execOp
  simp only [ho, hx, Instr.loadAt, Instr.sureAddr, Sem.run_bind, Sem.run_pure, Result.andThen_ok, hr]
  exact ⟨rfl, hK _ h⟩
theorem dev_apart {w : World} {p mn ms mc : Nat} {d : Dev} (h : DevAt w p mn ms mc d) {a : Addr} {u : Value} (hc : w.cell? a = some u) (hu : (∃ b, u = byteV b) ∨ ∃ q n c, u = .slice q n c) : ¬ DFoot p mn ms mc a.block := by
  obtain ⟨l1, ⟨_, _, a1, _⟩, _⟩ := h.now
  obtain ⟨l2, ⟨_, _, a2, _⟩, _⟩ := h.synced
  obtain ⟨l3, ⟨_, _, a3, _⟩, _⟩ := h.chg
  rintro (e | e | e | e)
  · unfold World.cell? at hc
    rw [e, h.self] at hc
    have hm : u ∈ [Value.int .i64 d.steps, .int .i64 d.syncs, .int .i64 d.left, .bool d.armed, .bool d.down, .int .i64 d.size, .map (some mn), .map (some ms), .map (some mc)] := by
      simp only at hc
      split at hc <;> first | exact List.mem_of_getElem? (by simpa using hc) | cases hc
    rcases hu with ⟨b, rfl⟩ | ⟨q, n, c, rfl⟩ <;> simp [byteV] at hm
  · unfold World.cell? at hc; rw [e, a1] at hc; simp at hc
  · unfold World.cell? at hc; rw [e, a2] at hc; simp at hc
  · unfold World.cell? at hc; rw [e, a3] at hc; simp at hc
theorem Bytes.kept {S : Nat → Prop} {w w' : World} {v : Value} {l : List UInt8} (h : Bytes w v l) (hk : Keeps S w w') (hs : ∀ a b, w.cell? a = some (byteV b) → ¬ S a.block) : Bytes w' v l := by
  obtain ⟨q, cap, rfl, h1, h2, h3⟩ := h
  refine ⟨q, cap, rfl, h1, h2, fun j b hb => ?_⟩
  obtain ⟨a, rfl, hc⟩ := h3 j b hb
  exact ⟨a, rfl, hk.cell hc (hs _ _ hc)⟩
theorem Parts.kept {S : Nat → Prop} {w w' : World} {v : Value} {ps : List (List UInt8)} (h : Parts w v ps) (hk : Keeps S w w') (hs : ∀ a u, w.cell? a = some u → ((∃ b, u = byteV b) ∨ ∃ q n c, u = .slice q n c) → ¬ S a.block) : Parts w' v ps := by
  obtain ⟨q, cap, rfl, h1, h2, h3⟩ := h
  refine ⟨q, cap, rfl, h1, h2, fun j l hl => ?_⟩
  obtain ⟨a, u, e, hc, hu⟩ := h3 j l hl
  refine ⟨a, u, e, hk.cell hc (hs _ _ hc (.inr ?_)), hu.kept hk (fun a b hb => hs _ _ hb (.inl ⟨b, rfl⟩))⟩
  obtain ⟨q2, c2, rfl, _⟩ := hu
  exact ⟨_, _, _, rfl⟩
theorem sub_at {w : World} {B : Nat} {v : Value} {xs : List Value} {m : Nat} (h : SubRow w B v xs) (hl : xs.length = m) (h0 : 0 < m) : ∃ a cap, v = .slice (some a) m cap ∧ ∀ j u, xs[j]? = some u → w.cell? (a.add j) = some u := by
  rcases h with ⟨_, rfl⟩ | ⟨g, off, cap, rfl, _, _, _, _, _, h6⟩
  · simp at hl; omega
  · refine ⟨⟨g, off, none⟩, cap, by rw [hl], fun j u hu => ?_⟩
    have := h6 j u hu
    unfold Addr.add; split
    · rename_i h0; subst h0; simpa using this
    · simpa using this
theorem splice_all {α : Type} (L cs : List α) (h : L.length = cs.length) : splice L 0 cs = cs := by
  unfold splice
  simp only [List.take_zero, List.nil_append, Nat.zero_add]
  rw [List.drop_of_length_le (by omega), List.append_nil]
def Dev.put (d : Dev) (k : Int) (v : List UInt8) : Dev := { d with now := fun j => if j = k then v else d.now j, chg := fun j => if j = k then true else d.chg j }
def Dev.write (d : Dev) (k : Int) (v : List UInt8) : Int × Dev :=
  if k < 0 ∨ d.size ≤ k then (1, d) else if v.length ≠ 512 then (2, d) else if d.step.1 = 0 then (0, d.step.2.put k v) else d.step
theorem step_size (d : Dev) : d.step.2.size = d.size := by unfold Dev.step; split <;> rfl
theorem step_maps (d : Dev) : d.step.2.now = d.now ∧ d.step.2.synced = d.synced ∧ d.step.2.chg = d.chg := by unfold Dev.step; split <;> exact ⟨rfl, rfl, rfl⟩
theorem Dev.Ok.put {d : Dev} {n : Nat} (h : d.Ok n) {k : Int} {v : List UInt8} (h0 : 0 ≤ k) (h1 : k < d.size) (hv : v.length = 512) : (d.put k v).Ok n := by
  refine ⟨h.s0, h.s1, h.y0, h.y1, h.l0, h.l1, h.z1, h.z2, fun j => ⟨?_, (h.lens j).2⟩, fun j hj => ?_, fun j hj => ?_⟩
  · show (if j = k then v else d.now j).length = 512
    split
    · exact hv
    · exact (h.lens j).1
  · have hj' : (if j = k then true else d.chg j) = true := hj
    split at hj'
    · rename_i e; subst e; exact ⟨h0, h1⟩
    · exact h.rng j hj'
  · have hj' : (if j = k then true else d.chg j) = false := hj
    show (if j = k then v else d.now j) = d.synced j
    split at hj'
    · cases hj'
    · rw [if_neg ‹_›]; exact h.same j hj'
theorem Dev.Ok.write {d : Dev} {n : Nat} (h : d.Ok n) (k : Int) (v : List UInt8) : (d.write k v).2.Ok (n + 1) := by
  have hs := h.step
  have hm : d.Ok (n + 1) := { h with s1 := by have := h.s1; omega }
  unfold Dev.write
  split
  · exact hm
  · split
    · exact hm
    · split
      · exact hs.put (by omega) (by rw [step_size]; omega) (by omega)
      · exact hs
section
variable (w : World) (p mn ms mc : Nat) (d : Dev) (n : Nat) (h : DevAt w p mn ms mc d) (at_ : Int) (v : Value) (ps : List (List UInt8))
include h
theorem write_range (hr : at_ < 0 ∨ d.size ≤ at_) : Calls Try.prog 22 #[.pointer (some ⟨p, 0, none⟩), .int .i64 at_, v] w fun e w' => e = .returned (errV 1) ∧ w = w' := by
  have hm := makeErr 1
  have hs := size_any w p mn ms mc d h
  rw [errV_pos (by decide)]
  by_cases h0 : at_ < 0
  · go_enter Try.func22, Try.ntmps22
    go_wp2
    go_ret
    exact ⟨rfl, rfl⟩
  · have h1 : d.size ≤ at_ := by omega
    go_enter Try.func22, Try.ntmps22
    go_wp2_with (go_at_call 36; (with_reducible refine hs.mono ?_); rintro _ _ ⟨rfl, rfl⟩)
    go_ret
    exact ⟨rfl, rfl⟩
set_option maxRecDepth 100000 in
set_option maxHeartbeats 4000000 in
theorem write_form (hp : Parts w v ps) (hn : ps.length ≤ 1000000) (ht : ps.flatten.length ≤ 1000000000000) (h0 : 0 ≤ at_) (h1 : at_ < d.size) (hf : ps.flatten.length ≠ 512) :
    Calls Try.prog 22 #[.pointer (some ⟨p, 0, none⟩), .int .i64 at_, v] w fun e w' => e = .returned (errV 2) ∧ w = w' := by
  have hm := makeErr 2
  have hs := size_any w p mn ms mc d h
  rw [errV_pos (by decide)]
  have n0 : ¬ at_ < 0 := by omega
  obtain ⟨q, cap, rfl, hc1, hc2, h3⟩ := hp
  have H3 := Lib.hid h3
  clear h3 h
  go_enter Try.func22, Try.ntmps22
  go_wp2_with (go_at_call 36; (with_reducible refine hs.mono ?_); rintro _ _ ⟨rfl, rfl⟩)
  go_loop [7, 23] (fun s i => ∃ k : Nat, k ≤ ps.length ∧ i = .int .i64 k ∧ s = .int .i64 (tot ps k)) (fun _ i => ps.length - (intOf i).toNat)
  case atStart => exact ⟨0, by omega, rfl, rfl⟩
  case round =>
    obtain ⟨k, hk, rfl, rfl⟩ := hrel
    by_cases hlt : k < ps.length
    · obtain ⟨l, hl⟩ : ∃ l, ps[k]? = some l := ⟨_, List.getElem?_eq_getElem hlt⟩
      obtain ⟨a, u, rfl, hcell, hu⟩ := H3.out k l hl
      obtain ⟨q2, cap2, rfl, hq1, hq2, _⟩ := hu
      have hft := tot_succ hl
      have hle := tot_le ps (k + 1)
      rw [hft] at hle
      have hle2 : tot ps k + l.length ≤ 1000000000000 := by omega
      have Hft := Lib.hid hft
      clear hft hl hle
      go_wp2
      go_round
      case rel => exact ⟨k + 1, by omega, by go_num, by rw [Hft.out]; go_num⟩
      case measure => simp [intOf]; omega
    · obtain rfl : k = ps.length := by omega
      have hts : (((tot ps ps.length : Nat) : Int) != 512) = true := by
        have : tot ps ps.length = ps.flatten.length := by unfold tot; rw [List.take_length]
        rw [this, bne_iff_ne]; intro e; exact hf (by omega)
      go_wp2
      go_ret
      exact ⟨rfl, rfl⟩
set_option maxRecDepth 100000 in
set_option maxHeartbeats 8000000 in
theorem write_no (hd : d.Ok n) (hn' : n ≤ 1000000000) (hp : Parts w v ps) (hn : ps.length ≤ 1000000) (h0 : 0 ≤ at_) (h1 : at_ < d.size) (hf : ps.flatten.length = 512) (hz : d.step.1 ≠ 0) :
    Calls Try.prog 22 #[.pointer (some ⟨p, 0, none⟩), .int .i64 at_, v] w fun e w' => e = .returned (errV d.step.1) ∧ DevAt w' p mn ms mc d.step.2 ∧ Keeps (DFoot p mn ms mc) w w' := by
  have hs := size_any w p mn ms mc d h
  have hst := step_any w p mn ms mc d n h hd hn'
  have hlt := h.lt
  have Hp := Lib.hid hp
  have Hlt := Lib.hid hlt
  have Hf := Lib.hid hf
  have n0 : ¬ at_ < 0 := by omega
  have Hok := Lib.hid hd.step
  obtain ⟨q, cap, rfl, hc1, hc2, h3⟩ := hp
  have H3 := Lib.hid h3
  rw [errV_pos hz] at hst ⊢
  clear hz
  clear h3 h hd hf hlt
  go_enter Try.func22, Try.ntmps22
  go_wp2_with (go_at_call 36; (with_reducible refine hs.mono ?_); rintro _ _ ⟨rfl, rfl⟩)
  go_loop [7, 23] (fun s i => ∃ k : Nat, k ≤ ps.length ∧ i = .int .i64 k ∧ s = .int .i64 (tot ps k)) (fun _ i => ps.length - (intOf i).toNat)
  case atStart => exact ⟨0, by omega, rfl, rfl⟩
  case round =>
    obtain ⟨k, hk, rfl, rfl⟩ := hrel
    by_cases hlt : k < ps.length
    · obtain ⟨l, hl⟩ : ∃ l, ps[k]? = some l := ⟨_, List.getElem?_eq_getElem hlt⟩
      obtain ⟨a, u, rfl, hcell, hu⟩ := H3.out k l hl
      obtain ⟨q2, cap2, rfl, hq1, hq2, _⟩ := hu
      have hft := tot_succ hl
      have hle := tot_le ps (k + 1)
      rw [hft, Hf.out] at hle
      have Hft := Lib.hid hft
      clear hft hl
      go_wp2
      go_round
      case rel => exact ⟨k + 1, by omega, by go_num, by rw [Hft.out]; go_num⟩
      case measure => simp [intOf]; omega
    · obtain rfl : k = ps.length := by omega
      have Hts : Hid (tot ps ps.length = 512) := by unfold tot; rw [List.take_length]; exact Hf.out
      rw [Hts.out]
      go_wp2_with (go_at_call 58; (with_reducible refine hst.mono ?_); rintro _ w1 ⟨rfl, hA1, hK1⟩; clear hst)
      go_ret
      exact ⟨rfl, hA1, hK1.mono (fun _ _ e => .inl e)⟩
set_option maxRecDepth 100000 in
set_option maxHeartbeats 8000000 in
theorem write_go (hd : d.Ok n) (hn' : n ≤ 1000000000) (hp : Parts w v ps) (hn : ps.length ≤ 1000000) (h0 : 0 ≤ at_) (h1 : at_ < d.size) (hf : ps.flatten.length = 512) (hz : d.step.1 = 0) :
    Calls Try.prog 22 #[.pointer (some ⟨p, 0, none⟩), .int .i64 at_, v] w fun e w' => e = .returned .nilIface ∧ DevAt w' p mn ms mc (d.step.2.put at_ ps.flatten) ∧ Keeps (DFoot p mn ms mc) w w' := by
  have hs := size_any w p mn ms mc d h
  have hst := step_any w p mn ms mc d n h hd hn'
  have hlt := h.lt
  have Hp := Lib.hid hp
  have Hlt := Lib.hid hlt
  have Hf := Lib.hid hf
  have n0 : ¬ at_ < 0 := by omega
  have Hok := Lib.hid hd.step
  have Hap : Hid (∀ a u, w.cell? a = some u → ((∃ b, u = byteV b) ∨ ∃ q n c, u = .slice q n c) → ¬ DFoot p mn ms mc a.block) := fun a u => dev_apart h
  obtain ⟨q, cap, rfl, hc1, hc2, h3⟩ := hp
  have H3 := Lib.hid h3
  rw [hz, errV_zero] at hst
  generalize d.step.2 = d1 at hst Hok ⊢
  clear hz
  clear h3 h hd hf hlt
  go_enter Try.func22, Try.ntmps22
  go_wp2_with (go_at_call 36; (with_reducible refine hs.mono ?_); rintro _ _ ⟨rfl, rfl⟩)
  go_loop [7, 23] (fun s i => ∃ k : Nat, k ≤ ps.length ∧ i = .int .i64 k ∧ s = .int .i64 (tot ps k)) (fun _ i => ps.length - (intOf i).toNat)
  case atStart => exact ⟨0, by omega, rfl, rfl⟩
  case round =>
    obtain ⟨k, hk, rfl, rfl⟩ := hrel
    by_cases hlt : k < ps.length
    · obtain ⟨l, hl⟩ : ∃ l, ps[k]? = some l := ⟨_, List.getElem?_eq_getElem hlt⟩
      obtain ⟨a, u, rfl, hcell, hu⟩ := H3.out k l hl
      obtain ⟨q2, cap2, rfl, hq1, hq2, _⟩ := hu
      have hft := tot_succ hl
      have hle := tot_le ps (k + 1)
      rw [hft, Hf.out] at hle
      have Hft := Lib.hid hft
      clear hft hl
      go_wp2
      go_round
      case rel => exact ⟨k + 1, by omega, by go_num, by rw [Hft.out]; go_num⟩
      case measure => simp [intOf]; omega
    · obtain rfl : k = ps.length := by omega
      have Hts : Hid (tot ps ps.length = 512) := by unfold tot; rw [List.take_length]; exact Hf.out
      rw [Hts.out]
      go_wp2_with (first
        | (go_at_call 58; (with_reducible refine hst.mono ?_); rintro _ w1 ⟨rfl, hA1, hK1⟩; clear hst)
        | (with_reducible refine wpList_alloc_sec rfl rfl ?_))
      have hlt1 := hA1.lt
      have hP1 : Parts w1 (.slice q ps.length cap) ps := Hp.out.kept hK1 (fun a u hc hu e => Hap.out a u hc hu (.inl e))
      have hBa : Below w1.heap.size w1 (w1.alloc (.cells (bytesV blank).toArray 109)) := (Below.refl _ _).alloc (Nat.le_refl _) _
      have hP2 := hP1.below hBa
      have hbk : (w1.alloc (.cells (bytesV blank).toArray 109)).heap[w1.heap.size]? = some (.cells (bytesV blank).toArray 109 (0, 0)) := heap_alloc_new _ _
      have hA2 : DevAt (w1.alloc (.cells (bytesV blank).toArray 109)) p mn ms mc d1 := hA1.keeps (S := fun _ => False) (Keeps.of_below hBa) (fun _ _ hf => hf)
      have hg1 : w1.heap.size < (w1.alloc (.cells (bytesV blank).toArray 109)).heap.size := by simp
      generalize hw2 : w1.alloc (.cells (bytesV blank).toArray 109) = w2 at hBa hP2 hbk hA2 hg1 ⊢
      generalize hgg : w1.heap.size = g at hBa hbk hg1 hlt1 ⊢
      have Hgg := Lib.hid hgg
      clear hw2 hP1 hgg
      have hBa2 : Below g w1 w2.drew := hBa.drew
      have hP3 : Parts w2.drew (.slice q ps.length cap) ps := hP2.below ((Below.refl _ _).drew)
      have hbk2 : w2.drew.heap[g]? = some (.cells (bytesV blank).toArray 109 (0, 0)) := hbk
      have hcc := concat_any w2.drew _ ps hP3 Hf.out hn
      have hg2 : g < w2.drew.heap.size := hg1
      have Hg2 := Lib.hid hg2
      have Hbk2 := Lib.hid hbk2
      have HBa2 := Lib.hid hBa2
      have Hlb : Hid ((bytesV ps.flatten).length = 512) := (bytesV_len _).trans Hf.out
      clear hBa hP2 hbk hA2 hg1 hg2 hbk2 hBa2 hP3
      go_region_law (first
        | (go_simp; go_at_call 59; (with_reducible refine hcc.mono ?_); rintro _ w4 ⟨v4, rfl, hr4, hb4⟩; (obtain ⟨a4, cap4, rfl, h44⟩ := sub_at hr4 Hlb.out (by decide)))
        | (refine step_copy_splice rfl (.tmp 42) (.tmp 44) _ _ rfl 5 Try.underlying39 (by kernel_rfl) (some ⟨g, 0, none⟩) (some a4) 512 512 512 cap4 rfl rfl g 0 (bytesV blank) 109 ((hb4.block g Hg2.out).trans Hbk2.out) (bytesV ps.flatten) (by rw [Hlb.out]; rfl) (fun _ => ⟨rfl, a4, rfl, h44⟩) (by rw [Hlb.out, bytesV_len]; simp [blank]) (bytesV_one _) g w1 (HBa2.out.trans (hb4.mono (Nat.le_of_lt Hg2.out))) (Nat.le_refl _) ?_; intro w5 hg5 hb5))
      have hg5' := hg5.out
      rw [splice_all _ _ (by rw [bytesV_len, Hlb.out]; simp [blank])] at hg5'
      rw [← Hgg.out] at hb5
      have hA5 : DevAt w5 p mn ms mc d1 := hA1.keeps (S := fun _ => False) (Keeps.of_below hb5) (fun _ _ hf => hf)
      have hA5d : DevAt w5.drew p mn ms mc d1 := hA5.keeps (S := fun _ => False) ((Keeps.refl _ w5).drew) (fun _ _ hf => hf)
      obtain ⟨w6, hu1, hA6, hK6, hsz6⟩ := put_now hA5d at_ ps.flatten
      obtain ⟨w7, hu2, hA7, hK7, hsz7⟩ := put_chg hA6 at_
      have hgd : w5.drew.heap[g]? = some (.cells (bytesV ps.flatten).toArray 109 (0, 0)) := hg5'
      have c6 := hA5d.cells.c6
      have c8 := hA6.cells.c8
      have hfin : Hid (DevAt w7 p mn ms mc (d1.put at_ ps.flatten) ∧ Keeps (DFoot p mn ms mc) w w7) := by
        have k5 : Keeps (DFoot p mn ms mc) w w5.drew := ((hK1.mono (fun _ _ e => .inl e)).trans' (Keeps.of_below (S := fun _ => False) hb5) (fun _ _ hf => hf.elim)).drew
        exact ⟨hA7, (k5.trans (hK6.mono (fun _ _ e => .inr (.inl e)))).trans (hK7.mono (fun _ _ e => .inr (.inr (.inr e))))⟩
      clear hb5 hg5 hg5' hA5 hA5d hA6 hK6 hsz6 hA7 hK7 hsz7 hr4 hb4 hcc hA1 hK1 HBa2 Hbk2 Hg2
      go_wp2
      refine wp_region_still_tail 6 (by kernel_rfl) (by kernel_rfl) ?_
      simp only [List.take_succ_cons, List.take_zero, List.drop_succ_cons, List.drop_zero]
      change wpStill _ _ w5.drew (fun a' => wpList _ _ _ _ a' w5.drew) _ _
      generalize w5.drew = w8 at hu1 hgd c6 ⊢
      repeat (first | (with_reducible refine wpStill_load_sec rfl (.tmp 11) rfl rfl hgd Hf.out ?_) | still_step)
      refine wpStill_nil ?_
      go_wp2
      go_ret
      exact ⟨rfl, hfin.out⟩
theorem write_any (hd : d.Ok n) (hn' : n ≤ 1000000000) (hp : Parts w v ps) (hn : ps.length ≤ 1000000) (ht : ps.flatten.length ≤ 1000000000000) :
    Calls Try.prog 22 #[.pointer (some ⟨p, 0, none⟩), .int .i64 at_, v] w fun e w' => e = .returned (errV (d.write at_ ps.flatten).1) ∧ DevAt w' p mn ms mc (d.write at_ ps.flatten).2 ∧ Keeps (DFoot p mn ms mc) w w' := by
  by_cases hr : at_ < 0 ∨ d.size ≤ at_
  · have e : d.write at_ ps.flatten = (1, d) := by unfold Dev.write; rw [if_pos hr]
    rw [e]
    exact (write_range w p mn ms mc d h at_ v hr).mono fun _ _ ⟨h1, h2⟩ => ⟨h1, h2 ▸ h, h2 ▸ Keeps.refl _ _⟩
  · by_cases hf : ps.flatten.length = 512
    · by_cases hz : d.step.1 = 0
      · have e : d.write at_ ps.flatten = (0, d.step.2.put at_ ps.flatten) := by unfold Dev.write; rw [if_neg hr, if_neg (by simp only [hf]; decide), if_pos hz]
        rw [e]
        exact write_go w p mn ms mc d n h at_ v ps hd hn' hp hn (by omega) (by omega) hf hz
      · have e : d.write at_ ps.flatten = d.step := by unfold Dev.write; rw [if_neg hr, if_neg (by simp only [hf]; decide), if_neg hz]
        rw [e]
        exact write_no w p mn ms mc d n h at_ v ps hd hn' hp hn (by omega) (by omega) hf hz
    · have e : d.write at_ ps.flatten = (2, d) := by unfold Dev.write; rw [if_neg hr, if_pos hf]
      rw [e]
      exact (write_form w p mn ms mc d h at_ v ps hp hn ht (by omega) (by omega) hf).mono fun _ _ ⟨h1, h2⟩ => ⟨h1, h2 ▸ h, h2 ▸ Keeps.refl _ _⟩
end
end Go.Proofs.Ytbaphjnglkocpaa
