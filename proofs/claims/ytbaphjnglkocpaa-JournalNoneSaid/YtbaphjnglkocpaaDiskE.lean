import Derived.Test.YtbaphjnglkocpaaDiskD
/-
  The device: settle.
-/
namespace Go.Proofs.Ytbaphjnglkocpaa
open Go.RowKit
open Go.ChangeMaps (setBlock)
def encC (l : List (Int × Int)) : IM := enc (fun n => .int .i64 n) l
structure SettleAt (w : World) (p mn ms mc : Nat) (d : Dev) (l : List (Int × Int)) (it : Nat) (k : Nat) (wr : World) (T : List (Int × Int)) : Prop where
  lay : DevAt wr p mn ms mc (d.part T)
  rng : Rng wr it mc (encC l) (encC T)
  kp : Keeps (· = ms) w wr
  nd : (T.map (·.1)).Nodup
  sub : ∀ x ∈ T, d.chg x.1 = true
  len : k = T.length
theorem adel_keys {α : Type} {l : List (Int × α)} {k y : Int} : y ∈ (adel l k).map (·.1) ↔ y ∈ l.map (·.1) ∧ y ≠ k := by
  unfold adel
  simp only [List.mem_map, List.mem_filter]
  constructor
  · rintro ⟨p, ⟨h1, h2⟩, rfl⟩; exact ⟨⟨p, h1, rfl⟩, by simpa using h2⟩
  · rintro ⟨⟨p, h1, rfl⟩, h2⟩; exact ⟨p, ⟨h1, by simpa using h2⟩, rfl⟩
theorem perm_adel {α : Type} (L : List (Int × α)) (p : Int × α) (hn : (L.map (·.1)).Nodup) (hp : p ∈ L) : L.Perm (p :: adel L p.1) := by
  induction L with
  | nil => cases hp
  | cons q L ih =>
    rw [List.map_cons, List.nodup_cons] at hn
    unfold adel at ih ⊢
    rcases List.mem_cons.1 hp with rfl | hp
    · rw [List.filter_cons_of_neg (by simp), List.filter_eq_self.2]
      intro q hq
      have : q.1 ≠ p.1 := fun e => hn.1 (e ▸ List.mem_map.2 ⟨q, hq, rfl⟩)
      simpa using this
    · have : q.1 ≠ p.1 := fun e => hn.1 (e ▸ List.mem_map.2 ⟨p, hp, rfl⟩)
      rw [List.filter_cons_of_pos (by simpa using this)]
      exact ((ih hn.2 hp).cons q).trans (List.Perm.swap ..)
theorem adel_nodup {α : Type} (L : List (Int × α)) (k : Int) (hn : (L.map (·.1)).Nodup) : ((adel L k).map (·.1)).Nodup := hn.sublist (List.filter_sublist.map _)
theorem part_step {d : Dev} {T : List (Int × Int)} {k n : Int} (hk : (k, n) ∈ T) (hc : d.chg k = true) :
    ({ d.part T with synced := fun j => if j = k then (d.part T).now k else (d.part T).synced j } : Dev) = d.part (adel T k) := by
  refine Dev.ext' rfl rfl rfl rfl rfl rfl (fun _ => rfl) (fun j => ?_) (fun _ => rfl)
  show (if j = k then d.now k else if d.chg j = true ∧ j ∉ T.map (·.1) then d.now j else d.synced j) = if d.chg j = true ∧ j ∉ (adel T k).map (·.1) then d.now j else d.synced j
  by_cases hj : j = k
  · subst hj
    rw [if_pos rfl, if_pos ⟨hc, fun h => (adel_keys.1 h).2 rfl⟩]
  · rw [if_neg hj]
    have : j ∈ (adel T k).map (·.1) ↔ j ∈ T.map (·.1) := by rw [adel_keys]; exact ⟨fun h => h.1, fun h => ⟨h, hj⟩⟩
    simp only [this]
theorem part_end {d : Dev} : ({ d.part [] with chg := fun _ => false } : Dev) = d.settle := by
  refine Dev.ext' rfl rfl rfl rfl rfl rfl (fun _ => rfl) (fun j => ?_) (fun _ => rfl)
  show (if d.chg j = true ∧ j ∉ ([] : List (Int × Int)).map (·.1) then d.now j else d.synced j) = if d.chg j then d.now j else d.synced j
  simp
theorem part_all {d : Dev} {l : List (Int × Int)} (h : ∀ k, (aget l k).isSome = d.chg k) : d.part l = d := by
  refine Dev.ext' rfl rfl rfl rfl rfl rfl (fun _ => rfl) (fun j => ?_) (fun _ => rfl)
  show (if d.chg j = true ∧ j ∉ l.map (·.1) then d.now j else d.synced j) = d.synced j
  rw [if_neg]
  rintro ⟨h1, h2⟩
  rw [← h, aget_some_iff] at h1
  exact h2 h1
theorem clear_chg {w : World} {p mn ms mc : Nat} {d : Dev} (h : DevAt w p mn ms mc d) (ty : TypeId) : ∃ w', (Builtin.clear_ #[91] ty #[.map (some mc)]).run Try.prog w = .ok (.tuple #[]) w' ∧ DevAt w' p mn ms mc { d with chg := fun _ => false } ∧ Keeps (· = mc) w w' := by
  have ha := h.apart
  simp only [List.nodup_cons, List.mem_cons, List.not_mem_nil, or_false, not_or] at ha
  obtain ⟨⟨n1, n2, n3⟩, ⟨n4, n5⟩, n6, _⟩ := ha
  obtain ⟨l1, a1, b1⟩ := h.now
  obtain ⟨l2, a2, b2⟩ := h.synced
  obtain ⟨l3, a3, b3⟩ := h.chg
  obtain ⟨w', r1, r2, r3, r4⟩ := run_clear_im (P := Try.prog) Try.underlying91 a3 ty
  exact ⟨w', r1, ⟨r3.at h.self n3, ⟨l1, a1.keeps r3 n5, b1⟩, ⟨l2, a2.keeps r3 n6, b2⟩, ⟨[], r2, fun _ => rfl⟩, h.apart⟩, r3⟩
set_option maxRecDepth 100000 in
set_option maxHeartbeats 4000000 in
theorem settle_any (w : World) (p mn ms mc : Nat) (d : Dev) (h : DevAt w p mn ms mc d) :
    Calls Try.prog 86 #[.pointer (some ⟨p, 0, none⟩)] w fun e w' => e = .returned (.tuple #[]) ∧ DevAt w' p mn ms mc d.settle ∧ Keeps (fun k => k = ms ∨ k = mc) w w' := by
  have ha := h.apart
  simp only [List.nodup_cons, List.mem_cons, List.not_mem_nil, or_false, not_or] at ha
  obtain ⟨l, hl, hc⟩ := h.chg
  obtain ⟨W3, r1, r2, r3, r4⟩ := run_range_im (P := Try.prog) Try.underlying91 hl
  have c8 := h.cells.c8
  have hnd := imap_nodup hl
  have hlt := h.lt
  have hA : DevAt W3 p mn ms mc d := h.keeps (S := fun _ => False) (Keeps.of_below r3) (fun _ _ hf => hf)
  have Hst : Hid (SettleAt w p mn ms mc d l w.heap.size l.length W3 l) := ⟨by rw [part_all hc]; exact hA, r2, (Keeps.of_below (S := fun _ => False) r3).mono (fun _ _ hf => hf.elim), hnd, fun x hx => by rw [← hc, aget_some_iff]; exact List.mem_map.2 ⟨x, hx, rfl⟩, rfl⟩
  have Hlt := Lib.hid hlt
  have Ha := Lib.hid ha
  clear hlt ha hA h hl hc hnd r2 r3 r4
  go_enter Try.func86, Try.ntmps86
  go_wp2
  clear r1 c8
  go_loopg [] l.length (fun k wr => ∃ T, SettleAt w p mn ms mc d l w.heap.size k wr T)
  case atStart => exact ⟨l, Hst.out⟩
  case round =>
    obtain ⟨T, hR⟩ := hrel
    have hlay := hR.lay
    rcases run_next_im (P := Try.prog) hR.rng 0 with ⟨h0, hr⟩ | ⟨q, hq, w4, hr, hR', hK, hsz4, hent⟩
    · have hT : T = [] := by unfold encC enc at h0; simpa using h0
      subst hT
      obtain ⟨w5, hcl, hA5, hK5⟩ := clear_chg hlay 0
      rw [part_end] at hA5
      have c8 := hlay.cells.c8
      have hkk : Keeps (fun k => k = ms ∨ k = mc) w w5 := (hR.kp.mono (fun _ _ e => .inl e)).trans (hK5.mono (fun _ _ e => .inr e))
      clear hR hlay h0
      go_wp2
      go_end0
      exact ⟨rfl, hA5, hkk⟩
    · obtain ⟨pp, hp, rfl⟩ := List.mem_map.1 hq
      obtain ⟨k, n⟩ := pp
      have he := hent w4 rfl rfl
      have hit : w.heap.size < wr.heap.size := hR.rng.lt.1
      have hf4 : ∀ j, DFoot p mn ms mc j → ¬ j = w.heap.size := fun j hj e => by have := Hlt.out j hj; omega
      have hA4 : DevAt w4 p mn ms mc (d.part T) := hlay.keeps hK hf4
      have hA4d : DevAt w4.drew p mn ms mc (d.part T) := hA4.keeps (S := fun _ => False) ((Keeps.refl _ w4).drew) (fun _ _ hf => hf)
      rw [show (encC T).del k = encC (adel T k) from enc_del _ _ _] at hR'
      have hkp4 : Keeps (· = ms) w w4 := hR.kp.trans' hK (fun j hj e => by omega)
      have hck := hR.sub _ hp
      have hnd := hR.nd
      have hsub := hR.sub
      have htl : gk = T.length := hR.len
      clear hlay hent hq hR
      have Hit := Lib.hid hit
      have Hrest : Hid (DevAt w4 p mn ms mc (d.part T) ∧ Rng w4 w.heap.size mc (encC l) (encC (adel T k)) ∧ Keeps (· = ms) w w4 ∧ d.chg k = true ∧ (T.map (·.1)).Nodup ∧ (∀ x ∈ T, d.chg x.1 = true) ∧ gk = T.length ∧ (k, n) ∈ T) := ⟨hA4, hR', hkp4, hck, hnd, hsub, htl, hp⟩
      obtain ⟨w6, hu, hA6, hK6, hsz6⟩ := put_synced hA4d k ((d.part T).now k)
      have hgn := get_now hA4d k
      have c6 := hA4d.cells.c6
      have c7 := hA4d.cells.c7
      have HA6 := Lib.hid hA6
      have HK6 : Hid (Keeps (· = ms) w4 w6) := ((Keeps.refl (· = ms) w4).drew).trans hK6
      clear hA4 hA4d hR' hkp4 hck hnd hsub htl hp hK hsz4 hf4 hA6 hK6 hsz6 hit
      go_wp2
      refine wp_region_still_tail 11 (by kernel_rfl) (by kernel_rfl) ?_
      simp only [List.take_succ_cons, List.take_zero, List.drop_succ_cons, List.drop_zero]
      change wpStill _ _ w4.drew (fun a' => wpList _ _ _ _ a' w4.drew) _ _
      generalize w4.drew = w5 at hu hgn c6 c7 ⊢
      repeat still_step
      refine wpStill_nil ?_
      go_wp2
      obtain ⟨_, hR', hkp4, hck, hnd, hsub, htl, hp⟩ := Hrest.out
      have hln : T.length = (adel T k).length + 1 := (perm_adel T (k, n) hnd hp).length_eq
      go_roundg (adel T k).length
      case measure => omega
      case rel =>
        have hlt1 := Hlt.out ms (.inr (.inr (.inl rfl)))
        have hlt2 := Ha.out
        have hA6 := HA6.out
        rw [part_step hp hck] at hA6
        exact ⟨adel T k, hA6, hR'.keeps HK6.out (fun e => by omega) (fun e => hlt2.2.2.1 e.symm), hkp4.trans HK6.out, adel_nodup _ _ hnd, fun x hx => hsub x (List.mem_filter.1 hx).1, rfl⟩
end Go.Proofs.Ytbaphjnglkocpaa
