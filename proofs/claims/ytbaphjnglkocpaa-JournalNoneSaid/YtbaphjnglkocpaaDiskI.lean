import Derived.Test.YtbaphjnglkocpaaDiskH
import Derived.Test.YtbaphjnglkocpaaShelf
/-
  The device: Sync, Crash.
-/
namespace Go.Proofs.Ytbaphjnglkocpaa
open Go.RowKit
open Go.ChangeMaps (setBlock)
def Dev.sync (d : Dev) : Int × Dev := if d.step.1 = 0 then (0, { d.step.2 with syncs := d.step.2.syncs + 1 }.settle) else d.step
theorem Dev.Ok.settle {d : Dev} {n : Nat} (h : d.Ok n) : d.settle.Ok n := by
  refine ⟨h.s0, h.s1, h.y0, h.y1, h.l0, h.l1, h.z1, h.z2, fun j => ⟨(h.lens j).1, ?_⟩, (fun j hj => by cases hj), fun j _ => ?_⟩
  · show (if d.chg j then d.now j else d.synced j).length = 512
    split
    · exact (h.lens j).1
    · exact (h.lens j).2
  · show d.now j = if d.chg j then d.now j else d.synced j
    split
    · rfl
    · rename_i hc; exact h.same j (by simpa using hc)
theorem step_steps (d : Dev) (h : d.step.1 = 0) : d.step.2.steps = d.steps + 1 ∧ d.step.2.syncs = d.syncs := by
  unfold Dev.step at h ⊢
  split
  · rename_i e; rw [if_pos e] at h; cases h
  · exact ⟨rfl, rfl⟩
theorem Dev.Ok.sync {d : Dev} {n : Nat} (h : d.Ok n) : d.sync.2.Ok (n + 1) := by
  have hs := h.step
  unfold Dev.sync
  split
  · rename_i hz
    have h1 := step_steps d hz
    refine Dev.Ok.settle ⟨hs.s0, hs.s1, ?_, ?_, hs.l0, hs.l1, hs.z1, hs.z2, hs.lens, hs.rng, hs.same⟩
    · show 0 ≤ d.step.2.syncs + 1
      have := h.y0; rw [h1.2]; omega
    · show d.step.2.syncs + 1 ≤ d.step.2.steps
      rw [h1.1, h1.2]; have := h.y1; omega
  · exact hs
section
variable (w : World) (p mn ms mc : Nat) (d : Dev) (n : Nat) (h : DevAt w p mn ms mc d)
include h
set_option maxRecDepth 100000 in
set_option maxHeartbeats 2000000 in
theorem sync_any (hd : d.Ok n) (hn : n ≤ 1000000000) : Calls Try.prog 57 #[.pointer (some ⟨p, 0, none⟩)] w fun e w' => e = .returned (errV d.sync.1) ∧ DevAt w' p mn ms mc d.sync.2 ∧ Keeps (DFoot p mn ms mc) w w' := by
  have hst := step_any w p mn ms mc d n h hd hn
  have hok := hd.step
  clear h
  by_cases hz : d.step.1 = 0
  · have e : d.sync = (0, { d.step.2 with syncs := d.step.2.syncs + 1 }.settle) := by unfold Dev.sync; rw [if_pos hz]
    rw [e]
    rw [hz, errV_zero] at hst
    simp only [errV_zero]
    have b0 := hok.y0
    have b1 := hok.y1
    have b2 := hok.s1
    clear e hz hok hd
    generalize d.step.2 = d1 at hst b0 b1 b2 ⊢
    have hf : ∀ w1, DevAt w1 p mn ms mc d1 → Calls Try.prog 90 #[.pointer (some ⟨p, 1, none⟩), .int .i64 1] w1 fun e w' => e = .returned (.int .i64 (d1.syncs + 1)) ∧ DevAt w' p mn ms mc { d1 with syncs := d1.syncs + 1 } ∧ Keeps (· = p) w1 w' := fun w1 hA1 =>
      (add_any w1 p 1 d1.syncs hA1.cells.c1 (hA1.free 1) b0 (by omega)).mono fun _ _ ⟨h1, h2⟩ => by
        subst h2
        refine ⟨h1, hA1.upd (Keeps.cellAt (S := (· = p)) rfl _) ?_ rfl rfl rfl, Keeps.cellAt (S := (· = p)) rfl _⟩
        rw [heap_setCell _ _ _ _ _ _ _ hA1.self]; rfl
    have Hf := Lib.hid hf
    clear hf b0 b1 b2
    go_enter Try.func57, Try.ntmps57
    go_wp2_with (first
      | (go_at_call 58; (with_reducible refine hst.mono ?_); rintro _ w1 ⟨rfl, hA1, hK1⟩; clear hst; have hadd := Hf.out w1 hA1)
      | (go_at_call 90; (with_reducible refine hadd.mono ?_); rintro _ w2 ⟨rfl, hA2, hK2⟩; clear hadd; have hse := settle_any w2 p mn ms mc _ hA2)
      | (go_at_call 86; (with_reducible refine hse.mono ?_); rintro _ w3 ⟨rfl, hA3, hK3⟩; clear hse))
    go_ret
    exact ⟨rfl, hA3, ((hK1.mono (fun _ _ e => .inl e)).trans (hK2.mono (fun _ _ e => .inl e))).trans (hK3.mono (fun _ _ e => e.elim (fun e => .inr (.inr (.inl e))) (fun e => .inr (.inr (.inr e)))))⟩
  · have e : d.sync = d.step := by unfold Dev.sync; rw [if_neg hz]
    rw [e, errV_pos hz]
    rw [errV_pos hz] at hst
    clear e hz hok hd
    go_enter Try.func57, Try.ntmps57
    go_wp2_with (go_at_call 58; (with_reducible refine hst.mono ?_); rintro _ w1 ⟨rfl, hA1, hK1⟩; clear hst)
    go_ret
    exact ⟨rfl, hA1, hK1.mono (fun _ _ e => .inl e)⟩
end
/-- a slice of ints of whatever memory -/
def Ints (w : World) (v : Value) (l : List Int) : Prop :=
  ∃ q cap, v = .slice q l.length cap ∧ l.length ≤ cap ∧ cap ≤ maxLen ∧ ∀ j x, l[j]? = some x → ∃ b off, q = some ⟨b, off, none⟩ ∧ w.cell? ⟨b, off + j, none⟩ = some (.int .i64 x)
theorem Ints.kept {S : Nat → Prop} {w w' : World} {v : Value} {l : List Int} (h : Ints w v l) (hk : Keeps S w w') (hs : ∀ (a : Addr) x, w.cell? a = some (.int .i64 x) → ¬ S a.block) : Ints w' v l := by
  obtain ⟨q, cap, rfl, h1, h2, h3⟩ := h
  refine ⟨q, cap, rfl, h1, h2, fun j x hx => ?_⟩
  obtain ⟨b, off, e, hc⟩ := h3 j x hx
  exact ⟨b, off, e, hk.cell hc (hs _ _ hc)⟩
theorem Ints.below {w w' : World} {v : Value} {l : List Int} (h : Ints w v l) (hb : Below w.heap.size w w') : Ints w' v l := h.kept (S := fun _ => False) (Keeps.of_below hb) (fun _ _ _ hf => hf)
theorem ints_nil {w : World} {cap : Nat} (h : cap ≤ maxLen) (q : Option Addr) : Ints w (.slice q 0 cap) [] := ⟨q, cap, rfl, Nat.zero_le _, h, fun j x hx => by simp at hx⟩
theorem Ints.of_owns {w : World} {B : Nat} {v : Value} {L : List Int} (h : w.ownsRow B 3 1 v L.length (L.map (Value.int .i64))) : Ints w v L := by
  rcases SubRow.of_owns h with ⟨rfl, h0⟩ | ⟨g, off, cap, rfl, _, _, h3, h4, _, h6⟩
  · have : L = [] := List.map_eq_nil_iff.1 h0
    subst this
    exact ints_nil (Nat.zero_le _) none
  · rw [List.length_map] at h3 ⊢
    exact ⟨_, cap, rfl, h3, h4, fun j x hx => ⟨g, off, rfl, h6 j _ (by rw [List.getElem?_map, hx]; rfl)⟩⟩
theorem contains_any (w : World) (v : Value) (l : List Int) (x : Int) (h : Ints w v l) : Calls Try.prog 85 #[v, .int .i64 x] w fun e w' => e = .returned (.bool (l.contains x)) ∧ w = w' := by
  obtain ⟨q, cap, rfl, h1, h2, h3⟩ := h
  cases hl : l with
  | nil => exact (Try.slices_Contains_int_empty q cap x w).mono fun _ _ ⟨a, b⟩ => ⟨a, b.symm⟩
  | cons y r =>
    obtain ⟨b, off, rfl, _⟩ := h3 0 y (by rw [hl]; rfl)
    rw [← hl]
    refine (Try.slices_Contains_int b off l.length cap l x w (Nat.le_refl _) (by unfold maxLen at h2; omega) (fun j hj => ?_)).mono fun _ _ ⟨a, b⟩ => ⟨?_, b.symm⟩
    · obtain ⟨b', off', e, hc⟩ := h3 j (l[j]'hj) (List.getElem?_eq_getElem hj)
      cases e
      rw [hc, List.getD_eq_getElem?_getD, List.getElem?_eq_getElem hj]; rfl
    · rw [a, List.take_length]
def Dev.undo (d : Dev) (keep T : List Int) : Dev := { d with now := fun j => if j ∈ T ∧ j ∉ keep then d.synced j else d.now j }
def Dev.crash (d : Dev) (keep : List Int) : Dev := { (d.undo keep d.unsynced).settle with armed := false, down := false }
theorem undo_nil (d : Dev) (keep : List Int) : d.undo keep [] = d := Dev.ext' rfl rfl rfl rfl rfl rfl (fun j => by simp [Dev.undo]) (fun _ => rfl) (fun _ => rfl)
theorem undo_keep {d : Dev} {keep T : List Int} {k : Int} (h : k ∈ keep) : d.undo keep (T ++ [k]) = d.undo keep T := by
  refine Dev.ext' rfl rfl rfl rfl rfl rfl (fun j => ?_) (fun _ => rfl) (fun _ => rfl)
  show (if j ∈ T ++ [k] ∧ j ∉ keep then d.synced j else d.now j) = if j ∈ T ∧ j ∉ keep then d.synced j else d.now j
  have : (j ∈ T ++ [k] ∧ j ∉ keep) ↔ (j ∈ T ∧ j ∉ keep) := by
    rw [List.mem_append, List.mem_singleton]
    exact ⟨fun ⟨a, b⟩ => ⟨a.resolve_right (fun e => b (e ▸ h)), b⟩, fun ⟨a, b⟩ => ⟨.inl a, b⟩⟩
  simp only [this]
theorem undo_back {d : Dev} {keep T : List Int} {k : Int} (h : k ∉ keep) : ({ d.undo keep T with now := fun j => if j = k then (d.undo keep T).synced k else (d.undo keep T).now j } : Dev) = d.undo keep (T ++ [k]) := by
  refine Dev.ext' rfl rfl rfl rfl rfl rfl (fun j => ?_) (fun _ => rfl) (fun _ => rfl)
  show (if j = k then d.synced k else if j ∈ T ∧ j ∉ keep then d.synced j else d.now j) = if j ∈ T ++ [k] ∧ j ∉ keep then d.synced j else d.now j
  by_cases hj : j = k
  · subst hj; rw [if_pos rfl, if_pos ⟨by simp, h⟩]
  · rw [if_neg hj]
    have : (j ∈ T ++ [k] ∧ j ∉ keep) ↔ (j ∈ T ∧ j ∉ keep) := by
      rw [List.mem_append, List.mem_singleton]
      exact ⟨fun ⟨a, b⟩ => ⟨a.resolve_right hj, b⟩, fun ⟨a, b⟩ => ⟨.inl a, b⟩⟩
    simp only [this]
theorem dev_map_apart {w : World} {p mn ms mc : Nat} {d : Dev} (h : DevAt w p mn ms mc d) {a : Addr} {u : Value} (hc : w.cell? a = some u) : a.block ≠ mn := by
  obtain ⟨l1, ⟨_, _, a1, _⟩, _⟩ := h.now
  intro e
  unfold World.cell? at hc; rw [e, a1] at hc; simp at hc
set_option maxRecDepth 100000 in
set_option maxHeartbeats 4000000 in
theorem crash_any (w : World) (p mn ms mc : Nat) (d : Dev) (n : Nat) (h : DevAt w p mn ms mc d) (hd : d.Ok n) (v : Value) (keep : List Int) (hk : Ints w v keep) :
    Calls Try.prog 49 #[.pointer (some ⟨p, 0, none⟩), v] w fun e w' => e = .returned (.tuple #[]) ∧ DevAt w' p mn ms mc (d.crash keep) ∧ Keeps (DFoot p mn ms mc) w w' := by
  have hu := unsynced_any w p mn ms mc d n h hd
  have hlt := h.lt
  have Hlt := Lib.hid hlt
  have Hh := Lib.hid h
  have Hk := Lib.hid hk
  have Hcr : Hid (d.crash keep = { (d.undo keep d.unsynced).settle with armed := false, down := false }) := rfl
  have hlen : d.unsynced.length ≤ 4096 := by
    have h2 : d.unsynced.length ≤ d.size.toNat := by
      unfold Dev.unsynced; rw [List.length_map]; exact Nat.le_trans (List.length_filter_le _ _) (by simp)
    have := hd.z2; omega
  clear h hk hlt hd
  rw [Hcr.out]
  generalize d.unsynced = L at hu hlen ⊢
  clear Hcr
  go_enter Try.func49, Try.ntmps49
  go_wp2_with (go_at_call 34; (with_reducible refine hu.mono ?_); rintro _ w1 ⟨v1, rfl, ho, hb1⟩; clear hu; (obtain ⟨q, cap, rfl, hq1, hq2, h3⟩ := Ints.of_owns ho); clear ho)
  have hI1 : Ints w1 (.slice q L.length cap) L := ⟨q, cap, rfl, hq1, hq2, h3⟩
  have hA1 : DevAt w1 p mn ms mc (d.undo keep (L.take 0)) := by rw [List.take_zero, undo_nil]; exact Hh.out.keeps (S := fun _ => False) (Keeps.of_below hb1) (fun _ _ hf => hf)
  have hk1 := Hk.out.below hb1
  have hK1 : Keeps (· = mn) w w1 := (Keeps.of_below (S := fun _ => False) hb1).mono (fun _ _ hf => hf.elim)
  clear h3 hb1
  go_loopw [11] (fun i wr => ∃ k : Nat, k ≤ L.length ∧ i = .int .i64 k ∧ DevAt wr p mn ms mc (d.undo keep (L.take k)) ∧ Ints wr (.slice q L.length cap) L ∧ Ints wr v keep ∧ Keeps (· = mn) w wr) (fun i _ => L.length - (intOf i).toNat)
  case atStart => exact ⟨0, by omega, rfl, hA1, hI1, hk1, hK1⟩
  case round =>
    clear hA1 hI1 hk1 hK1
    obtain ⟨k, hk, rfl, hA, hI, hKp, hK⟩ := hrel
    by_cases hlt : k < L.length
    · obtain ⟨x, hx⟩ : ∃ x, L[k]? = some x := ⟨_, List.getElem?_eq_getElem hlt⟩
      have HI := Lib.hid hI
      obtain ⟨q', cap', e, _, _, h3⟩ := hI
      obtain ⟨b, off, hq, hcell⟩ := h3 k x hx
      simp only [Value.slice.injEq, true_and] at e
      obtain rfl : q = some ⟨b, off, none⟩ := e.1.trans hq
      have hct := contains_any wr v keep x hKp
      have Hts : Hid (L.take (k + 1) = L.take k ++ [x]) := by show _ = _; rw [List.take_add_one, hx]; rfl
      clear e hq h3 hx
      by_cases hin : x ∈ keep
      · rw [show keep.contains x = true from by simpa using hin] at hct
        have hA' : DevAt wr p mn ms mc (d.undo keep (L.take (k + 1))) := by rw [Hts.out, undo_keep hin]; exact hA
        clear hin
        go_wp2_with (go_at_call 85; (with_reducible refine hct.mono ?_); rintro _ _ ⟨rfl, rfl⟩; clear hct)
        go_roundw
        case rel => exact ⟨k + 1, by omega, by go_num, hA', HI.out, hKp, hK⟩
        case measure => simp [intOf]; omega
      · rw [show keep.contains x = false from by simpa using hin] at hct
        have hAd : DevAt wr.drew p mn ms mc (d.undo keep (L.take k)) := hA.keeps (S := fun _ => False) ((Keeps.refl _ wr).drew) (fun _ _ hf => hf)
        obtain ⟨w6, hu, hA6, hK6, hsz6⟩ := put_now hAd x ((d.undo keep (L.take k)).synced x)
        have hgs := get_synced hAd x
        have c6 := hAd.cells.c6
        have c7 := hAd.cells.c7
        have hfin : Hid (DevAt w6 p mn ms mc (d.undo keep (L.take (k + 1))) ∧ Ints w6 (.slice (some ⟨b, off, none⟩) L.length cap) L ∧ Ints w6 v keep ∧ Keeps (· = mn) w w6) := by
          have k6 : Keeps (· = mn) wr w6 := ((Keeps.refl (· = mn) wr).drew).trans hK6
          refine ⟨?_, HI.out.kept k6 (fun a x hc => dev_map_apart hA hc), hKp.kept k6 (fun a x hc => dev_map_apart hA hc), hK.trans k6⟩
          rw [Hts.out, ← undo_back hin]; exact hA6
        clear hAd hA6 hK6 hsz6 hA hKp hK hin
        go_wp2_with (go_at_call 85; (with_reducible refine hct.mono ?_); rintro _ _ ⟨rfl, rfl⟩; clear hct)
        refine wp_region_still_tail 11 (by kernel_rfl) (by kernel_rfl) ?_
        simp only [List.take_succ_cons, List.take_zero, List.drop_succ_cons, List.drop_zero]
        change wpStill _ _ wr.drew (fun a' => wpList _ _ _ _ a' wr.drew) _ _
        generalize wr.drew = w5 at hu hgs c6 c7 ⊢
        repeat still_step
        refine wpStill_nil ?_
        go_wp2
        go_roundw
        case rel => exact ⟨k + 1, by omega, by go_num, hfin.out⟩
        case measure => simp [intOf]; omega
    · obtain rfl : k = L.length := by omega
      rw [List.take_length] at hA
      have hse := settle_any wr p mn ms mc _ hA
      have Hlt2 := Hlt
      clear hA hI hKp
      go_wp2_with fail
      refine hse.mono ?_
      rintro _ w9 ⟨rfl, hA9, hK9⟩
      have hK9' : Keeps (DFoot p mn ms mc) w w9 := (hK.mono (fun _ _ e => .inr (.inl e))).trans (hK9.mono (fun _ _ e => e.elim (fun e => .inr (.inr (.inl e))) (fun e => .inr (.inr (.inr e)))))
      obtain ⟨c0, c1, c2, c3, c4, c5, c6, c7, c8⟩ := hA9.cells
      have f3 := hA9.free 3
      have f4 := hA9.free 4
      have HA9 := Lib.hid hA9
      clear hA9 hse hK hK9
      go_wp2_with fail
      go_end0
      have hk2 : Keeps (· = p) w9 ((w9.setCell ⟨p, 3, none⟩ (.bool false)).setCell ⟨p, 4, none⟩ (.bool false)) := (Keeps.cellAt (S := (· = p)) rfl _).setCell (.inl rfl) _
      refine ⟨rfl, HA9.out.upd hk2 ?_ rfl rfl rfl, hK9'.trans (hk2.mono (fun _ _ e => .inl e))⟩
      rw [heap_setCell _ _ _ _ _ _ _ (heap_setCell _ _ _ _ _ _ _ HA9.out.self)]; rfl
theorem crash_nil (w : World) (v : Value) : Calls Try.prog 49 #[.pointer none, v] w fun e w' => e = .returned (.tuple #[]) ∧ w = w' := by
  go_enter Try.func49, Try.ntmps49
  go_wp2
  first | go_end0 | refine bodyPost_ret (results_none rfl _ _ _) rfl ?_
  exact ⟨rfl, rfl⟩
theorem Dev.Ok.crash {d : Dev} {n : Nat} (h : d.Ok n) (keep : List Int) : (d.crash keep).Ok n := by
  have hu : (d.undo keep d.unsynced).Ok n := by
    refine ⟨h.s0, h.s1, h.y0, h.y1, h.l0, h.l1, h.z1, h.z2, fun j => ⟨?_, (h.lens j).2⟩, h.rng, fun j hj => ?_⟩
    · show (if j ∈ d.unsynced ∧ j ∉ keep then d.synced j else d.now j).length = 512
      split
      · exact (h.lens j).2
      · exact (h.lens j).1
    · show (if j ∈ d.unsynced ∧ j ∉ keep then d.synced j else d.now j) = d.synced j
      split
      · rfl
      · exact h.same j hj
  have hs := hu.settle
  exact ⟨hs.s0, hs.s1, hs.y0, hs.y1, hs.l0, hs.l1, hs.z1, hs.z2, hs.lens, hs.rng, hs.same⟩
end Go.Proofs.Ytbaphjnglkocpaa
