import Derived.Test.YtmcooaoblpcoeaaDiskS
import Derived.Test.YtmcooaoblpcoeaaDiskK
import Derived.Deep.RegionHeld
import Derived.Deep.RegionHeld3
import Derived.Deep.MidRow
import Derived.Test.YtmcooaoblpcoeaaBase
import Derived.Laws.Bits128
/-
  DiskSynced, the walk.
-/
namespace Go.Proofs.Ytmcooaoblpcoeaa
open Go.RowKit
theorem mod16_of (a : Int) : ∃ m : Nat, m < 16 ∧ wrap64 ((IntKind.u64.wrap a).tmod 16) = (m : Int) := by
  have h0 : 0 ≤ IntKind.u64.wrap a := by
    show 0 ≤ a % (2 ^ IntKind.u64.bits : Int)
    exact Int.emod_nonneg _ (by decide)
  rw [Int.tmod_eq_emod_of_nonneg h0]
  generalize IntKind.u64.wrap a = x at *
  refine ⟨(x % 16).toNat, by omega, ?_⟩
  unfold wrap64; omega
def OpD.sec (o : OpD) : Int := wrap64 ((IntKind.u64.wrap o.at_).tmod 16)
set_option maxRecDepth 100000 in
set_option maxHeartbeats 4000000 in
theorem at_fn (o : OpD) (w : World) : Calls Try.prog 12 #[.agg #[.int .i64 o.kind, .int .i64 o.at_, .int .i64 o.n, .slice o.bq o.bl o.bc, .slice o.kq o.kl o.kc]] w fun e w' => e = .returned (.int .i64 o.sec) ∧ Below w.heap.size w w' := by
  go_enter Try.func12, Try.ntmps12
  go_wp2
  go_ret
  exact ⟨rfl, (Below.refl _ _).alloc (Nat.le_refl _) _⟩
theorem ops_below {w w' : World} {a : Option Addr} {len cap : Nat} {zs : List OpD} (hz : IsOps w a len cap zs) (hb : Below w.heap.size w w') : IsOps w' a len cap zs := by
  rcases hz with h | ⟨x, h1, h2, h3, h4, h5, h6⟩
  · exact .inl h
  · exact .inr ⟨x, h1, h2, h3, h4, fun i o ho j v hv => (hb.cell (p := x.add (i * 5 + j)) (World.block_lt_of_cell? w _ (h5 i o ho j v hv))).trans (h5 i o ho j v hv), h6⟩
theorem write_full {w0 w : World} {p mn ms mc : Nat} {d : Dev} {k : Nat} {f g : Nat → Int} (h : DB w0 w p mn ms mc d k) (hk : k ≤ 1000000000) (hs : Syn d f g) (m : Nat) (hm : m < 16) {n : Int} {v : Value} (hv : Parts w v [fullB n]) :
    Calls Try.prog 13 #[.pointer (some ⟨p, 0, none⟩), .int .i64 (m : Int), v] w fun e w' => e = .returned .nilIface ∧ ∃ d', DB w0 w' p mn ms mc d' (k + 1) ∧ Keeps (DFoot p mn ms mc) w w' ∧ ∀ x, x % 256 = n % 256 → Syn d' (upd f m x) g := by
  refine (write_db h hk (m : Int) v [fullB n] (fullB n) (by simp) hv (by simp) (by rw [fullB_len]; decide)).mono fun _ _ ⟨h1, h2, h3⟩ => ⟨?_, _, h2, h3, fun x hx => (hs.write m hm n x hx).2⟩
  rw [h1, (hs.write m hm n n rfl).1, errV_zero]
abbrev BoxH (bx : Nat) (o : OpD) (w' : World) : Prop := w'.cell? ⟨bx, 0, none⟩ = some (.int .i64 o.kind) ∧ w'.cell? ⟨bx, 1, none⟩ = some (.int .i64 o.at_) ∧ w'.cell? ⟨bx, 2, none⟩ = some (.int .i64 o.n) ∧ w'.cell? ⟨bx, 3, none⟩ = some (.slice o.bq o.bl o.bc) ∧ w'.cell? ⟨bx, 4, none⟩ = some (.slice o.kq o.kl o.kc)
theorem BoxH.keeps {S : Nat → Prop} {bx : Nat} {o : OpD} {w w' : World} (h : BoxH bx o w) (hk : Keeps S w w') (hs : ¬ S bx) : BoxH bx o w' :=
  ⟨hk.cell h.1 hs, hk.cell h.2.1 hs, hk.cell h.2.2.1 hs, hk.cell h.2.2.2.1 hs, hk.cell h.2.2.2.2 hs⟩
theorem BoxH.below {bx : Nat} {o : OpD} {w w' : World} (h : BoxH bx o w) (hb : Below w.heap.size w w') : BoxH bx o w' := h.keeps (S := fun _ => False) (Keeps.of_below hb) (fun e => e)
theorem BoxH.alloc {bx : Nat} {o : OpD} {w : World} (h : BoxH bx o w) (ob : Obj) : BoxH bx o (w.alloc ob) := h.below ((Below.refl _ _).alloc (Nat.le_refl _) _)
theorem box_new (w : World) (o : OpD) (T : TypeId) : BoxH w.heap.size o (w.alloc (.cells #[.int .i64 o.kind, .int .i64 o.at_, .int .i64 o.n, .slice o.bq o.bl o.bc, .slice o.kq o.kl o.kc] T)) :=
  have h : (w.alloc (.cells #[.int .i64 o.kind, .int .i64 o.at_, .int .i64 o.n, .slice o.bq o.bl o.bc, .slice o.kq o.kl o.kc] T)).heap[w.heap.size]? = some (.cells #[.int .i64 o.kind, .int .i64 o.at_, .int .i64 o.n, .slice o.bq o.bl o.bc, .slice o.kq o.kl o.kc] T (0, 0)) := heap_alloc_new _ _
  ⟨cell_in h rfl, cell_in h rfl, cell_in h rfl, cell_in h rfl, cell_in h rfl⟩
/-- a variable that is an array of sixteen -/
def Arr (w : World) (u : Nat) (f : Nat → Int) : Prop := w.rangeAt u 0 (arr16 f) ∧ w.there u 0 16
theorem Arr.cell {u : Nat} {f : Nat → Int} {w : World} (h : Arr w u f) (m : Nat) (hm : m < 16) : w.cell? ⟨u, m, none⟩ = some (.int .i64 (f m)) := by
  have := h.1 m _ (arr16_at f m hm); rwa [Nat.zero_add] at this
theorem Arr.free {u : Nat} {f : Nat → Int} {w : World} (h : Arr w u f) (m : Nat) (hm : m < 16) : w.frozen? ⟨u, m, none⟩ = false := by
  have := (h.2 m hm).2; rwa [Nat.zero_add] at this
theorem Arr.lt {u : Nat} {f : Nat → Int} {w : World} (h : Arr w u f) : u < w.heap.size := World.block_lt_of_cell? w ⟨u, 0, none⟩ (h.cell 0 (by omega))
theorem Arr.keeps {S : Nat → Prop} {u : Nat} {f : Nat → Int} {w w' : World} (h : Arr w u f) (hk : Keeps S w w') (hs : ¬ S u) : Arr w' u f := by
  have hb := hk.block u h.lt hs
  refine ⟨fun j v hv => ?_, fun j hj => ?_⟩
  · rw [World.cell?_of_block (a := ⟨u, 0 + j, none⟩) hb]; exact h.1 j v hv
  · rw [World.cell?_of_block (a := ⟨u, 0 + j, none⟩) hb, World.frozen?_of_block (a := ⟨u, 0 + j, none⟩) hb]; exact h.2 j hj
theorem Arr.below {u : Nat} {f : Nat → Int} {w w' : World} (h : Arr w u f) (hb : Below w.heap.size w w') : Arr w' u f := h.keeps (S := fun _ => False) (Keeps.of_below hb) (fun e => e)
theorem Arr.put {u : Nat} {f : Nat → Int} {w : World} (h : Arr w u f) (m : Nat) (hm : m < 16) (x : Int) : Arr (w.setCell ⟨u, m, none⟩ (.int .i64 x)) u (upd f m x) := by
  refine ⟨fun j v hv => ?_, fun j hj => ?_⟩
  · rw [← arr16_set, List.getElem?_set] at hv
    rw [Nat.zero_add]
    by_cases e : m = j
    · subst e
      rw [if_pos rfl, if_pos (by rw [arr16_len]; exact hm)] at hv; cases hv
      exact World.cell?_setCell_same _ _ _ (h.cell m hm)
    · rw [if_neg e] at hv
      rw [World.cell?_setCell_other _ _ _ _ (by simp)]
      have := h.1 j v hv; rwa [Nat.zero_add] at this
  · rw [World.frozen?_setCell]
    by_cases e : m = j
    · subst e; rw [Nat.zero_add, World.cell?_setCell_same _ _ _ (h.cell m hm)]; exact ⟨rfl, h.free m hm⟩
    · rw [Nat.zero_add, World.cell?_setCell_other _ _ _ _ (by simp), h.cell j hj]; exact ⟨rfl, h.free j hj⟩
theorem Arr.all {u : Nat} {f : Nat → Int} {w : World} (h : Arr w u f) (g : Nat → Int) : Arr (w.setCells u 0 (arr16 g)) u g :=
  ⟨World.rangeAt_setCells_same w u 0 (arr16 g) (by rw [arr16_len]; exact h.2), World.there_setCells h.2 u 0 _⟩
theorem Arr.of_block {u : Nat} {f : Nat → Int} {w : World} {T : TypeId} (h : w.heap[u]? = some (.cells (arr16 f).toArray T (0, 0))) : Arr w u f :=
  ⟨fun j v hv => cell_in h (by simp [hv]), fun j hj => ⟨by rw [cell_in (u := .int .i64 (f j)) h (by rw [Nat.zero_add]; simpa using arr16_at f j hj)]; rfl, free_in h⟩⟩
theorem DB.other {S : Nat → Prop} {w0 w w' : World} {p mn ms mc n : Nat} {d : Dev} (h : DB w0 w p mn ms mc d n) (hk : Keeps S w w') (hs : ∀ k, DFoot p mn ms mc k → ¬ S k) (hl : ∀ k, S k → w0.heap.size ≤ k) : DB w0 w' p mn ms mc d n :=
  ⟨h.lay.keeps hk hs, h.ok, h.low, h.bel.trans (hk.below h.bel.size (fun k hk' hf' => by have := hl k hf'; omega))⟩
theorem Arr.other {u : Nat} {f : Nat → Int} {w : World} (h : Arr w u f) {p : Addr} (hp : u ≠ p.block) (v : Value) : Arr (w.setCell p v) u f := h.keeps (S := (· = p.block)) (Keeps.cellAt (S := (· = p.block)) rfl v) hp
theorem DB.setCell {w0 w : World} {p mn ms mc n : Nat} {d : Dev} (h : DB w0 w p mn ms mc d n) {a : Addr} (ha : ¬ DFoot p mn ms mc a.block) (hl : w0.heap.size ≤ a.block) (v : Value) : DB w0 (w.setCell a v) p mn ms mc d n :=
  h.other (S := (· = a.block)) (Keeps.cellAt (S := (· = a.block)) rfl v) (fun k hk e => ha (e ▸ hk)) (fun k e => by subst e; exact hl)
theorem sync_full {w0 w : World} {p mn ms mc : Nat} {d : Dev} {k : Nat} {f g : Nat → Int} (h : DB w0 w p mn ms mc d k) (hk : k ≤ 1000000000) (hs : Syn d f g) :
    Calls Try.prog 15 #[.pointer (some ⟨p, 0, none⟩)] w fun e w' => e = .returned .nilIface ∧ ∃ d', DB w0 w' p mn ms mc d' (k + 1) ∧ Keeps (DFoot p mn ms mc) w w' ∧ Syn d' f f :=
  (sync_db h hk).mono fun _ _ ⟨h1, h2, h3⟩ => ⟨by rw [h1, (hs.sync h.ok).1, errV_zero], _, h2, h3, (hs.sync h.ok).2⟩
/-- behind the crash -/
structure End (d : Dev) (f g : Nat → Int) (keep : List Int) : Prop where
  down : d.down = false
  size : d.size = 16
  now : ∀ j : Nat, j < 16 → d.now j = fullB (ends f g keep j)
  uns : d.unsynced = []
theorem crash_full {w0 w : World} {p mn ms mc : Nat} {d : Dev} {k : Nat} {f g : Nat → Int} (h : DB w0 w p mn ms mc d k) (hs : Syn d f g) {v : Value} {keep : List Int} (hk : Ints w v keep) :
    Calls Try.prog 16 #[.pointer (some ⟨p, 0, none⟩), v] w fun e w' => e = .returned (.tuple #[]) ∧ ∃ d', DB w0 w' p mn ms mc d' k ∧ Keeps (DFoot p mn ms mc) w w' ∧ End d' f g keep :=
  (crash_db h v keep hk).mono fun _ _ ⟨h1, h2, h3⟩ => ⟨h1, _, h2, h3, (hs.crash h.ok keep).1, (hs.crash h.ok keep).2.1, (hs.crash h.ok keep).2.2.1, (hs.crash h.ok keep).2.2.2⟩
theorem read_full {w0 w : World} {p mn ms mc : Nat} {d : Dev} {k : Nat} {f g : Nat → Int} {keep : List Int} (h : DB w0 w p mn ms mc d k) (hs : End d f g keep) (m : Nat) (hm : m < 16) :
    Calls Try.prog 17 #[.pointer (some ⟨p, 0, none⟩), .int .i64 (m : Int)] w fun e w' => ∃ v, e = .returned (.tuple #[v, .nilIface]) ∧ Bytes w' v (fullB (ends f g keep m)) ∧ Below w.heap.size w w' :=
  (read_db h m (by omega) (by rw [hs.size]; omega) hs.down).mono fun _ _ ⟨v, h1, h2, h3⟩ => ⟨v, h1, Bytes.of_sub (by rw [hs.now m hm] at h2; exact h2), h3⟩
theorem unsynced_full {w0 w : World} {p mn ms mc : Nat} {d : Dev} {k : Nat} {f g : Nat → Int} {keep : List Int} (h : DB w0 w p mn ms mc d k) (hs : End d f g keep) :
    Calls Try.prog 18 #[.pointer (some ⟨p, 0, none⟩)] w fun e w' => ∃ q c, e = .returned (.slice q 0 c) ∧ Below w.heap.size w w' :=
  (unsynced_any w p mn ms mc d k h.lay h.ok).mono fun _ _ ⟨v, h1, h2, h3⟩ => by
    rw [hs.uns] at h2
    obtain ⟨q, c, rfl, _⟩ := (SubRow.of_owns h2).form
    exact ⟨q, c, h1, h3⟩
theorem infoA : (Try.prog.info? 31).map (·.size) = some 16 := by kernel_rfl
theorem arr16_one (f : Nat → Int) : (arr16 f).toArray.all (·.oneCell') = true := all_oneCell_toArray (fun v hv => by
  obtain ⟨j, _, rfl⟩ := List.mem_map.1 hv; rfl)
theorem two_arr (w : World) : Below w.heap.size w ((w.alloc (.cells (arr16 fun _ => 0).toArray 31)).alloc (.cells (arr16 fun _ => 0).toArray 31)) ∧
    Arr ((w.alloc (.cells (arr16 fun _ => 0).toArray 31)).alloc (.cells (arr16 fun _ => 0).toArray 31)) w.heap.size (fun _ => 0) ∧ Arr ((w.alloc (.cells (arr16 fun _ => 0).toArray 31)).alloc (.cells (arr16 fun _ => 0).toArray 31)) (w.heap.size + 1) (fun _ => 0) ∧ w.heap.size + 1 < ((w.alloc (.cells (arr16 fun _ => 0).toArray 31)).alloc (.cells (arr16 fun _ => 0).toArray 31)).heap.size := by
  have h1 : Below w.heap.size w (w.alloc (.cells (arr16 fun _ => 0).toArray 31)) := (Below.refl _ _).alloc (Nat.le_refl _) _
  have e : (w.alloc (.cells (arr16 fun _ => 0).toArray 31)).heap.size = w.heap.size + 1 := by simp
  exact ⟨h1.alloc h1.size _, Arr.of_block (at_alloc (heap_alloc_new _ _) _), Arr.of_block (e ▸ heap_alloc_new _ _), by simp⟩
theorem and255 (n : Int) : bits .and .i64 n 255 = n % 256 := by
  have h255 : (BitVec.ofInt 64 255).toNat = 2 ^ 8 - 1 := by decide
  have key : (BitVec.ofInt 64 n &&& BitVec.ofInt 64 255).toNat = (n % ((2 ^ 64 : Nat) : Int)).toNat % 2 ^ 8 := by
    rw [BitVec.toNat_and, BitVec.toNat_ofInt, h255, Nat.and_two_pow_sub_one_eq_mod]
  show IntKind.i64.wrap ((BitVec.ofInt 64 n &&& BitVec.ofInt 64 255).toNat : Nat) = n % 256
  rw [key, IntKind.wrap_i64]
  omega
theorem low_below {w w' : World} (hb : Below w.heap.size w w') : w.heap.size ≤ w'.heap.size := hb.size
set_option maxRecDepth 100000 in
set_option maxHeartbeats 8000000 in
theorem synced_ok (a b : Option Addr) (len cap len2 cap2 : Nat) (zs zt : List OpD) (q : Option Addr) (kl kc : Nat) (keep : List Int) (w : World) (hz : IsOps w a len cap zs) (ht : IsOps w b len2 cap2 zt) (hk : Ints w (.slice q kl kc) keep) (hkl : keep.length = kl) :
    Calls Try.prog 3 #[.slice a len cap, .slice b len2 cap2, .slice q kl kc] w fun e w' => e = .returned (.bool true) ∧ Below w.heap.size w w' := by
  have hal := alive_any w
  have Hz := Lib.hid hz
  have Ht := Lib.hid ht
  have Hk := Lib.hid hk
  clear hz ht hk
  go_enter Try.func3, Try.ntmps3
  go_upto_if 34 with (first
    | (go_at_call 9; (with_reducible refine hal.mono ?_); rintro _ w1 ⟨rfl, hb1⟩; clear hal; have hlg := long_any a len cap zs w1 (ops_below Hz.out hb1))
    | (go_at_call 10; (with_reducible refine hlg.mono ?_); rintro _ w2 ⟨b1, rfl, hlen, hb2⟩; clear hlg; have hb12 := hb1.trans (hb2.mono hb1.size); have hlg2 := long_any b len2 cap2 zt w2 (ops_below Ht.out hb12); cases b1)
    | (go_at_call 10; (with_reducible refine hlg2.mono ?_); rintro _ w3 ⟨b2, rfl, hlen2, hb3⟩; clear hlg2; cases b2))
  · have hl4 : Hid (len ≤ 400 ∧ len2 ≤ 400) := ⟨hlen trivial, hlen2 trivial⟩
    have hb := hb12.trans (hb3.mono hb12.size)
    clear hlen hlen2 hb1 hb2 hb3 hb12
    by_cases hk1 : (1000 : Int) < (kl : Int)
    · go_wp2
      go_ret
      exact ⟨rfl, hb⟩
    · have hnd := new_db w w3 16 (by decide) (by decide) hb
      clear hb
      go_upto_region 8 with (go_at_call 11; (with_reducible refine hnd.mono ?_); rintro _ w4 ⟨p, mn, ms, mc, rfl, h4, _, _⟩; clear hnd)
      have Hlow : ∀ j, ¬ DFoot p mn ms mc (w4.heap.size + j) := fun j e => by have := h4.lay.lt _ e; omega
      have hsz : w.heap.size ≤ w4.heap.size := h4.bel.size
      obtain ⟨hb2, hA1, hA2, hsw⟩ := two_arr w4
      have hD := h4.below hb2
      clear h4 hb2
      go_wp2
      go_loopw [49] (fun i wr => ∃ (k : Nat) (d : Dev) (f : Nat → Int), k ≤ len ∧ i = .int .i64 k ∧ DB w wr p mn ms mc d k ∧ Syn d f (fun _ => 0) ∧ Arr wr w4.heap.size f ∧ Arr wr (w4.heap.size + 1) (fun _ => 0) ∧ w4.heap.size + 1 < wr.heap.size) (fun i _ => len - (intOf i).toNat)
      case atStart => exact ⟨0, _, _, by omega, rfl, hD, Syn.new, hA1, hA2, hsw⟩
      case round =>
        clear hD hA1 hA2 hsw
        obtain ⟨k, d, f, hk, rfl, hD, hs, hA1, hA2, hsw⟩ := hrel
        by_cases hlt : k < len
        · obtain ⟨o, ho⟩ : ∃ o, zs[k]? = some o := ⟨_, List.getElem?_eq_getElem (by rw [(ops_len Hz.out).1]; exact hlt)⟩
          obtain ⟨x, rfl⟩ := ops_some Hz.out ho
          obtain ⟨c0, c1, c2, c3, c4⟩ := ops_at Hz.out hD.bel k o ho
          clear ho
          have hbb : Below wr.heap.size wr ((wr.alloc (.cells #[.int .i64 o.kind, .int .i64 o.at_, .int .i64 o.n, .slice o.bq o.bl o.bc, .slice o.kq o.kl o.kc] 34)).drewN 1) := ((Below.refl _ _).alloc (Nat.le_refl _) _).trans ⟨rfl, rfl, rfl, Nat.le_refl _, fun _ _ => rfl⟩
          have HD := Lib.hid (hD.below hbb)
          have HA1 := Lib.hid (hA1.below hbb)
          have HA2 := Lib.hid (hA2.below hbb)
          obtain ⟨g0, g1, g2, g3, g4⟩ := box_new wr o 34
          have Hbx : Hid (¬ DFoot p mn ms mc wr.heap.size) := fun e => by have := hD.lay.lt _ e; omega
          have Hs := Lib.hid hs
          obtain ⟨m16, hm16, hme⟩ := mod16_of o.at_
          have hat : ∀ w, Calls Try.prog 12 #[.agg #[.int .i64 o.kind, .int .i64 o.at_, .int .i64 o.n, .slice o.bq o.bl o.bc, .slice o.kq o.kl o.kc]] w fun e w' => e = .returned (.int .i64 m16) ∧ Below w.heap.size w w' := fun w => (at_fn o w).mono fun _ _ ⟨h1, h2⟩ => ⟨by rw [h1]; unfold OpD.sec; rw [hme], h2⟩
          have hkk : k ≤ 1000000000 := by have := hl4.out; omega
          clear hD hs hA1 hA2 hbb hme
          go_wp2_with fail
          generalize wr.alloc (.cells #[.int .i64 o.kind, .int .i64 o.at_, .int .i64 o.n, .slice o.bq o.bl o.bc, .slice o.kq o.kl o.kc] 34) = W at HD HA1 HA2 g0 g1 g2 g3 g4 ⊢
          go_region_held (fun w' => w'.cell? ⟨wr.heap.size, 0, none⟩ = some (.int .i64 o.kind) ∧ w'.cell? ⟨wr.heap.size, 1, none⟩ = some (.int .i64 o.at_) ∧ w'.cell? ⟨wr.heap.size, 2, none⟩ = some (.int .i64 o.n) ∧ w'.cell? ⟨wr.heap.size, 3, none⟩ = some (.slice o.bq o.bl o.bc) ∧ w'.cell? ⟨wr.heap.size, 4, none⟩ = some (.slice o.kq o.kl o.kc))
            (first | exact ⟨g0, g1, g2, g3, g4⟩ | exact HB8.out | exact HB.out | exact BoxH.alloc HB.out _)
            (first
              | (go_at_call 12; (with_reducible refine (hat _).mono ?_); rintro _ w6 ⟨rfl, b6⟩; have HB := Lib.hid (BoxH.below (show BoxH wr.heap.size o W.drew from ⟨g0, g1, g2, g3, g4⟩) b6); replace HD := Lib.hid (HD.out.below b6); replace HA1 := Lib.hid (HA1.out.below b6); replace HA2 := Lib.hid (HA2.out.below b6); clear b6)
              | (go_at_call 14; (with_reducible refine (full_any _ _).mono ?_); rintro _ w7 ⟨gg, mm, rfl, s7, b7⟩; replace HB := Lib.hid (HB.out.below b7); replace HD := Lib.hid (HD.out.below b7); replace HA1 := Lib.hid (HA1.out.below b7); replace HA2 := Lib.hid (HA2.out.below b7); have S7 := Lib.hid (Bytes.of_sub s7); clear b7 s7)
              | (go_at_call 13; go_loud (have bal : Below w7.heap.size w7 (w7.alloc (.cells #[.slice (some ⟨gg, 0, none⟩) mm mm] 32)) := (Below.refl _ _).alloc (Nat.le_refl _) _; have hwa := write_full (HD.out.below bal) hkk Hs.out m16 hm16 (one_part S7.out 32); (with_reducible refine hwa.mono ?_); rintro _ w8 ⟨rfl, d8, h8, k8, hs8⟩; have HB8 := Lib.hid (BoxH.keeps (BoxH.alloc HB.out _) k8 Hbx.out); replace HD := Lib.hid h8; replace HA1 := Lib.hid ((HA1.out.below bal).keeps k8 (Hlow 0)); replace HA2 := Lib.hid ((HA2.out.below bal).keeps k8 (Hlow 1)); replace Hs := Lib.hid hs8; clear bal hwa h8 k8 hs8)))
          clear g0 g1 g2 g3 g4 HB S7
          have hdw : Below w8.heap.size w8 (w8.drewN 1) := (Below.refl _ _).trans ⟨rfl, rfl, rfl, Nat.le_refl _, fun _ _ => rfl⟩
          obtain ⟨g0, g1, g2, g3, g4⟩ := HB8.out
          clear HB8
          replace HD := Lib.hid (HD.out.below hdw)
          replace HA1 := Lib.hid (HA1.out.below hdw)
          replace HA2 := Lib.hid (HA2.out.below hdw)
          have hne : ¬ wr.heap.size = w4.heap.size := by omega
          clear hdw
          have h255 := and255 o.n
          go_upto_region 15 with fail
          have i16a : (0 : Int) ≤ (m16 : Int) := by omega
          have i16b : (m16 : Int) < 16 := by omega
          go_region_held3 (fun w' => w'.cell? ⟨wr.heap.size, 0, none⟩ = some (.int .i64 o.kind) ∧ w'.cell? ⟨wr.heap.size, 1, none⟩ = some (.int .i64 o.at_) ∧ w'.cell? ⟨wr.heap.size, 2, none⟩ = some (.int .i64 o.n) ∧ w'.cell? ⟨wr.heap.size, 3, none⟩ = some (.slice o.bq o.bl o.bc) ∧ w'.cell? ⟨wr.heap.size, 4, none⟩ = some (.slice o.kq o.kl o.kc))
            (first | (with_reducible exact HB10 _) | (with_reducible exact HB.out) | exact ⟨g0, g1, g2, g3, g4⟩)
            (first | (go_at_call 12; (with_reducible refine (hat _).mono ?_); rintro _ w9 ⟨rfl, b9⟩; have HB := Lib.hid (BoxH.below (show BoxH wr.heap.size o w8.drew from ⟨g0, g1, g2, g3, g4⟩) b9); replace HD := Lib.hid (HD.out.below b9); replace HA1 := Lib.hid (HA1.out.below b9); replace HA2 := Lib.hid (HA2.out.below b9); clear b9; have cu := HA1.out.cell m16 hm16; have fu : w9.frozen? ⟨w4.heap.size, m16, none⟩ = false := HA1.out.free m16 hm16; have HB10 : ∀ v, BoxH wr.heap.size o (w9.setCell ⟨w4.heap.size, m16, none⟩ v) := fun v => BoxH.keeps HB.out (Keeps.cellAt (S := (· = w4.heap.size)) rfl _) hne))
          clear g0 g1 g2 g3 g4 hne fu cu
          go_wp2
          go_roundw
          case rel => exact ⟨k + 1, _, _, by omega, by go_num, HD.out.setCell (Hlow 0) hsz _, Hs.out (o.n % 256) (by omega), HA1.out.put _ hm16 _, HA2.out.other (by simp) _, (HA2.out.other (p := ⟨w4.heap.size, m16, none⟩) (by simp) (.int .i64 (o.n % 256))).lt⟩
          case measure => simp [intOf]; omega
        · obtain rfl : len = k := by omega
          have hsy := sync_full hD (by have := hl4.out; omega) hs
          go_upto_region 19 with (go_at_call 15; (with_reducible refine hsy.mono ?_); rintro _ w5 ⟨rfl, d5, h5, k5, hs5⟩; clear hsy)
          have hA1' := hA1.keeps k5 (Hlow 0)
          have hA2' := hA2.keeps k5 (Hlow 1)
          clear hD hs hA1 hA2 k5
          have T2 : Hid (w5.there (w4.heap.size + 1) 0 (arr16 f).toArray.size) := Lib.hid (show w5.there (w4.heap.size + 1) 0 (arr16 f).toArray.size from (by have := arr16_len f; simpa [this] using hA2'.2))
          have I1 : Hid ((Try.prog.info? 31).map (·.size) = some (arr16 f).length) := Lib.hid (by rw [arr16_len]; exact infoA)
          have I2 : Hid ((Try.prog.info? 31).map (·.size) = some (arr16 f).toArray.size) := Lib.hid (by rw [List.size_toArray, arr16_len]; exact infoA)
          go_upto_region 20 with (first
            | (refine wpList_load_mid (by rfl) 31 (.tmp 9) (by rfl) w4.heap.size 0 (by rfl) (arr16 f) (.array 16 3) hA1'.1 Try.underlying31 rfl I1.out ?_)
            | (refine wpList_store_mid (by rfl) 31 (.tmp 10) (.tmp 74) (by rfl) (w4.heap.size + 1) 0 (arr16 f).toArray (by rfl) (by rfl) T2.out I2.out (arr16_one f) ?_))
          have hk6 := Keeps.setCells (w := w5) (w4.heap.size + 1) 0 (arr16 f)
          have HD6 : Hid (DB w (w5.setCells (w4.heap.size + 1) 0 (arr16 f)) p mn ms mc d5 (len + 1)) := Lib.hid (h5.other (S := (· = w4.heap.size + 1)) hk6 (fun k' hk' e => Hlow 1 (by subst e; exact hk')) (fun k' e => by subst e; omega))
          have HA16 : Hid (Arr (w5.setCells (w4.heap.size + 1) 0 (arr16 f)) w4.heap.size f) := Lib.hid (hA1'.keeps (S := (· = w4.heap.size + 1)) hk6 (by omega))
          have HA26 : Hid (Arr (w5.setCells (w4.heap.size + 1) 0 (arr16 f)) (w4.heap.size + 1) f) := Lib.hid (hA2'.all f)
          have Hs6 := Lib.hid hs5
          clear hk6 h5 hA1' hA2' T2 I1 I2 hs5
          generalize w5.setCells (w4.heap.size + 1) 0 (arr16 f) = w6a at HD6 HA16 HA26 ⊢
          go_wp2
          clear hsw hk hlt
          go_loopw [77] (fun i wr => ∃ (k : Nat) (d : Dev) (f' : Nat → Int), k ≤ len2 ∧ i = .int .i64 k ∧ DB w wr p mn ms mc d (len + 1 + k) ∧ Syn d f' f ∧ Arr wr w4.heap.size f ∧ Arr wr (w4.heap.size + 1) f' ∧ w4.heap.size + 1 < wr.heap.size) (fun i _ => len2 - (intOf i).toNat)
          case atStart => exact ⟨0, _, _, by omega, rfl, HD6.out, Hs6.out, HA16.out, HA26.out, HA26.out.lt⟩
          case round =>
            clear HD6 Hs6 HA16 HA26
            obtain ⟨k, d, f', hk, rfl, hD, hs, hA1, hA2, hsw⟩ := hrel
            by_cases hlt : k < len2
            · obtain ⟨o, ho⟩ : ∃ o, zt[k]? = some o := ⟨_, List.getElem?_eq_getElem (by rw [(ops_len Ht.out).1]; exact hlt)⟩
              obtain ⟨x, rfl⟩ := ops_some Ht.out ho
              obtain ⟨c0, c1, c2, c3, c4⟩ := ops_at Ht.out hD.bel k o ho
              clear ho
              have hbb : Below wr.heap.size wr ((wr.alloc (.cells #[.int .i64 o.kind, .int .i64 o.at_, .int .i64 o.n, .slice o.bq o.bl o.bc, .slice o.kq o.kl o.kc] 34)).drewN 1) := ((Below.refl _ _).alloc (Nat.le_refl _) _).trans ⟨rfl, rfl, rfl, Nat.le_refl _, fun _ _ => rfl⟩
              have HD := Lib.hid (hD.below hbb)
              have HA1 := Lib.hid (hA1.below hbb)
              have HA2 := Lib.hid (hA2.below hbb)
              obtain ⟨g0, g1, g2, g3, g4⟩ := box_new wr o 34
              have Hbx : Hid (¬ DFoot p mn ms mc wr.heap.size) := fun e => by have := hD.lay.lt _ e; omega
              have Hs := Lib.hid hs
              obtain ⟨m16, hm16, hme⟩ := mod16_of o.at_
              have hat : ∀ w, Calls Try.prog 12 #[.agg #[.int .i64 o.kind, .int .i64 o.at_, .int .i64 o.n, .slice o.bq o.bl o.bc, .slice o.kq o.kl o.kc]] w fun e w' => e = .returned (.int .i64 m16) ∧ Below w.heap.size w w' := fun w => (at_fn o w).mono fun _ _ ⟨h1, h2⟩ => ⟨by rw [h1]; unfold OpD.sec; rw [hme], h2⟩
              have hkk : len + 1 + k ≤ 1000000000 := by have := hl4.out; omega
              clear hD hs hA1 hA2 hbb hme
              go_wp2_with fail
              generalize wr.alloc (.cells #[.int .i64 o.kind, .int .i64 o.at_, .int .i64 o.n, .slice o.bq o.bl o.bc, .slice o.kq o.kl o.kc] 34) = W at HD HA1 HA2 g0 g1 g2 g3 g4 ⊢
              go_region_held (fun w' => w'.cell? ⟨wr.heap.size, 0, none⟩ = some (.int .i64 o.kind) ∧ w'.cell? ⟨wr.heap.size, 1, none⟩ = some (.int .i64 o.at_) ∧ w'.cell? ⟨wr.heap.size, 2, none⟩ = some (.int .i64 o.n) ∧ w'.cell? ⟨wr.heap.size, 3, none⟩ = some (.slice o.bq o.bl o.bc) ∧ w'.cell? ⟨wr.heap.size, 4, none⟩ = some (.slice o.kq o.kl o.kc))
                (first | exact ⟨g0, g1, g2, g3, g4⟩ | exact HB8.out | exact HB.out | exact BoxH.alloc HB.out _)
                (first
                  | (go_at_call 12; (with_reducible refine (hat _).mono ?_); rintro _ w16 ⟨rfl, b6⟩; have HB := Lib.hid (BoxH.below (show BoxH wr.heap.size o W.drew from ⟨g0, g1, g2, g3, g4⟩) b6); replace HD := Lib.hid (HD.out.below b6); replace HA1 := Lib.hid (HA1.out.below b6); replace HA2 := Lib.hid (HA2.out.below b6); clear b6)
                  | (go_at_call 14; (with_reducible refine (full_any _ _).mono ?_); rintro _ w17 ⟨gg, mm, rfl, s7, b7⟩; replace HB := Lib.hid (HB.out.below b7); replace HD := Lib.hid (HD.out.below b7); replace HA1 := Lib.hid (HA1.out.below b7); replace HA2 := Lib.hid (HA2.out.below b7); have S7 := Lib.hid (Bytes.of_sub s7); clear b7 s7)
                  | (go_at_call 13; go_loud (have bal : Below w17.heap.size w17 (w17.alloc (.cells #[.slice (some ⟨gg, 0, none⟩) mm mm] 32)) := (Below.refl _ _).alloc (Nat.le_refl _) _; have hwa := write_full (HD.out.below bal) hkk Hs.out m16 hm16 (one_part S7.out 32); (with_reducible refine hwa.mono ?_); rintro _ w18 ⟨rfl, d8, h8, k8, hs8⟩; have HB8 := Lib.hid (BoxH.keeps (BoxH.alloc HB.out _) k8 Hbx.out); replace HD := Lib.hid h8; replace HA1 := Lib.hid ((HA1.out.below bal).keeps k8 (Hlow 0)); replace HA2 := Lib.hid ((HA2.out.below bal).keeps k8 (Hlow 1)); replace Hs := Lib.hid hs8; clear bal hwa h8 k8 hs8)))
              clear g0 g1 g2 g3 g4 HB S7
              have hdw : Below w18.heap.size w18 (w18.drewN 1) := (Below.refl _ _).trans ⟨rfl, rfl, rfl, Nat.le_refl _, fun _ _ => rfl⟩
              obtain ⟨g0, g1, g2, g3, g4⟩ := HB8.out
              clear HB8
              replace HD := Lib.hid (HD.out.below hdw)
              replace HA1 := Lib.hid (HA1.out.below hdw)
              replace HA2 := Lib.hid (HA2.out.below hdw)
              have hne : ¬ wr.heap.size = w4.heap.size + 1 := by omega
              clear hdw
              have h255 := and255 o.n
              go_upto_region 25 with fail
              have i16a : (0 : Int) ≤ (m16 : Int) := by omega
              have i16b : (m16 : Int) < 16 := by omega
              go_region_held3 (fun w' => w'.cell? ⟨wr.heap.size, 0, none⟩ = some (.int .i64 o.kind) ∧ w'.cell? ⟨wr.heap.size, 1, none⟩ = some (.int .i64 o.at_) ∧ w'.cell? ⟨wr.heap.size, 2, none⟩ = some (.int .i64 o.n) ∧ w'.cell? ⟨wr.heap.size, 3, none⟩ = some (.slice o.bq o.bl o.bc) ∧ w'.cell? ⟨wr.heap.size, 4, none⟩ = some (.slice o.kq o.kl o.kc))
                (first | (with_reducible exact HB10 _) | (with_reducible exact HB.out) | exact ⟨g0, g1, g2, g3, g4⟩)
                (first | (go_at_call 12; (with_reducible refine (hat _).mono ?_); rintro _ w19 ⟨rfl, b9⟩; have HB := Lib.hid (BoxH.below (show BoxH wr.heap.size o w18.drew from ⟨g0, g1, g2, g3, g4⟩) b9); replace HD := Lib.hid (HD.out.below b9); replace HA1 := Lib.hid (HA1.out.below b9); replace HA2 := Lib.hid (HA2.out.below b9); clear b9; have cu := HA2.out.cell m16 hm16; have fu : w19.frozen? ⟨w4.heap.size + 1, m16, none⟩ = false := HA2.out.free m16 hm16; have HB10 : ∀ v, BoxH wr.heap.size o (w19.setCell ⟨w4.heap.size + 1, m16, none⟩ v) := fun v => BoxH.keeps HB.out (Keeps.cellAt (S := (· = w4.heap.size + 1)) rfl _) hne))
              clear g0 g1 g2 g3 g4 hne fu cu
              go_wp2
              go_roundw
              case rel => exact ⟨k + 1, _, _, by omega, by go_num, HD.out.setCell (Hlow 1) (Nat.le_succ_of_le hsz) _, Hs.out (o.n % 256) (by omega), HA1.out.other (by simp) _, HA2.out.put _ hm16 _, (HA2.out.put m16 hm16 (o.n % 256)).lt⟩
              case measure => simp [intOf]; omega
            · obtain rfl : len2 = k := by omega
              have hcr := crash_full hD hs (Hk.out.below hD.bel)
              have hA1' := Lib.hid hA1
              have hA2' := Lib.hid hA2
              have HD7 := Lib.hid hD
              clear hD hs hA1 hA2
              go_upto_region 28 with (go_at_call 16; (with_reducible refine hcr.mono ?_); rintro _ w7 ⟨rfl, d7, h7, k7, hs7⟩; clear hcr)
              have HA17 := Lib.hid (hA1'.out.keeps k7 (Hlow 0))
              have HA27 := Lib.hid (hA2'.out.keeps k7 (Hlow 1))
              have H7 := Lib.hid h7
              have Hs7 := Lib.hid hs7
              clear hA1' hA2' HD7 h7 hs7 k7
              go_wp2
              clear hsw hk hlt
              go_loopw [102] (fun i wr => ∃ (k : Nat) (d : Dev), k ≤ 16 ∧ i = .int .i64 k ∧ DB w wr p mn ms mc d (len + 1 + len2) ∧ End d f' f keep ∧ Arr wr w4.heap.size f ∧ Arr wr (w4.heap.size + 1) f') (fun i _ => 16 - (intOf i).toNat)
              case atStart => exact ⟨0, _, by omega, rfl, H7.out, Hs7.out, HA17.out, HA27.out⟩
              case round =>
                clear H7 Hs7 HA17 HA27
                obtain ⟨k, d, hk, rfl, hD, hs, hA1, hA2⟩ := hrel
                by_cases hlt : k < 16
                · have c1 := hA1.cell k hlt
                  have c2 := hA2.cell k hlt
                  have HD := Lib.hid hD
                  have Hs := Lib.hid hs
                  have HA1 := Lib.hid hA1
                  have HA2 := Lib.hid hA2
                  have Hr := Lib.hid (read_full hD hs k hlt)
                  clear hD hs hA1 hA2
                  have HK := Lib.hid (Hk.out.below HD.out.bel)
                  have Hkl := Lib.hid hkl
                  clear hkl
                  go_wp2
                  clear c1 c2
                  go_loop [17, 110] (fun t i => ∃ j : Nat, j ≤ kl ∧ i = .int .i64 j ∧ t = .int .i64 (ends f' f (keep.take j) k)) (fun _ i => kl - (intOf i).toNat)
                  case atStart => exact ⟨0, Nat.zero_le _, rfl, rfl⟩
                  case round =>
                    obtain ⟨j, hj, rfl, rfl⟩ := hrel
                    by_cases hjl : j < kl
                    · obtain ⟨x, hx⟩ : ∃ x, keep[j]? = some x := ⟨_, List.getElem?_eq_getElem (by rw [Hkl.out]; exact hjl)⟩
                      obtain ⟨q', cap', e, _, _, h3⟩ := HK.out
                      obtain ⟨kb, ko, hq', hcx⟩ := h3 j x hx
                      simp only [Value.slice.injEq] at e
                      obtain rfl : q = some ⟨kb, ko, none⟩ := e.1.trans hq'
                      have Ht := Lib.hid (ends_take f' f keep k j x hx)
                      have c2 := HA2.out.cell k hlt
                      clear e h3 hx hq'
                      by_cases hxk : x = (k : Int)
                      · subst hxk
                        go_wp2
                        go_round
                        case rel => exact ⟨j + 1, by omega, by go_num, by rw [Ht.out, if_pos rfl]⟩
                        case measure => simp [intOf]; omega
                      · have hb : (x == (k : Int)) = false := by simpa using hxk
                        go_wp2
                        go_round
                        case rel => exact ⟨j + 1, by omega, by go_num, by rw [Ht.out, if_neg hxk]⟩
                        case measure => simp [intOf]; omega
                    · obtain rfl : kl = j := by omega
                      have Htk : Hid (keep.take kl = keep) := Lib.hid (List.take_of_length_le (by rw [Hkl.out]; exact Nat.le_refl _))
                      rw [Htk.out]
                      go_upto_region 39 with (go_at_call 17; (with_reducible refine Hr.out.mono ?_); rintro _ w8 ⟨v8, rfl, s8, b8⟩)
                      have hD8 := Lib.hid (HD.out.below b8)
                      have hA18 := Lib.hid (HA1.out.below b8)
                      have hA28 := Lib.hid (HA2.out.below b8)
                      clear HD HA1 HA2 Hr b8 HK
                      obtain ⟨q8, cap8, rfl, hq8, hm8, _⟩ := id s8
                      generalize (fullB (ends f' f keep k)).length = n8 at s8 hq8 ⊢
                      have k8 := conv_bytes (s8.below ((Below.refl _ w8).drew))
                      have S8 := Lib.hid (s8.below ((Below.refl _ w8).drew))
                      replace hD8 := Lib.hid (hD8.out.below ((Below.refl _ w8).drew))
                      replace hA18 := Lib.hid (hA18.out.below ((Below.refl _ w8).drew))
                      replace hA28 := Lib.hid (hA28.out.below ((Below.refl _ w8).drew))
                      generalize hst : strB (fullB (ends f' f keep k)) = st at k8
                      have Hst := Lib.hid hst
                      clear hst s8 hq8 hm8
                      go_region_held (fun w' => (convert 32 9 (.slice q8 n8 cap8)).run Try.prog w' = .ok (.string st) w')
                        (first | exact k8 | exact k8b)
                        (first | (go_at_call 14; (with_reducible refine (full_any _ _).mono ?_); rintro _ w9 ⟨g9, m9, rfl, s9, b9⟩; have k8b := conv_bytes (S8.out.below b9); have k9 := conv_bytes (Bytes.of_sub s9); rw [Hst.out] at k8b k9; replace hD8 := Lib.hid (hD8.out.below b9); replace hA18 := Lib.hid (hA18.out.below b9); replace hA28 := Lib.hid (hA28.out.below b9); clear s9 b9))
                      go_wp2
                      go_roundw
                      case rel => exact ⟨k + 1, _, by omega, by go_num, hD8.out, Hs.out, hA18.out, hA28.out⟩
                      case measure => simp [intOf]; omega
                · obtain rfl : k = 16 := by omega
                  have hu := unsynced_full hD hs
                  have HD := Lib.hid hD
                  clear hD hs hA1 hA2
                  go_wp2_with (go_at_call 18; (with_reducible refine hu.mono ?_); rintro _ w8 ⟨qu, cu, rfl, b8⟩; clear hu)
                  go_ret
                  exact ⟨rfl, HD.out.bel.trans (b8.mono HD.out.bel.size)⟩
  · go_wp2
    go_ret
    exact ⟨rfl, hb12.trans (hb3.mono hb12.size)⟩
  · go_wp2
    go_ret
    exact ⟨rfl, hb12⟩
theorem ints_of_row {w : World} {a : Option Addr} {len cap : Nat} {zs : List Int} (h : IsRow .i64 w a len cap zs) : Ints w (.slice a len cap) (zs.take len) ∧ (zs.take len).length = len := by
  rcases h with ⟨rfl, rfl, rfl, rfl⟩ | ⟨x, rfl, h1, h2, h3, h4, _⟩
  · exact ⟨ints_nil (Nat.zero_le _) none, rfl⟩
  · have hl : (zs.take len).length = len := by rw [List.length_take]; omega
    refine ⟨⟨some x, cap, by rw [hl], by rw [hl]; exact h1, h2, fun j y hy => ?_⟩, hl⟩
    have hj := (List.getElem?_eq_some_iff.1 hy).1
    rw [hl] at hj
    have hc := h4 j (by omega)
    have hg : zs.getD j 0 = y := by
      rw [List.getElem?_take, if_pos hj] at hy
      rw [List.getD_eq_getElem?_getD, hy]; rfl
    rw [hg] at hc
    have hsp : x.spot = none := by
      have hc0 := h4 0 (by omega)
      have h00 : x.add 0 = x := by simp [Addr.add]
      rw [h00] at hc0
      unfold World.cell? at hc0
      split at hc0
      · split at hc0
        · cases hc0
        · rename_i hs; simpa using hs
      · cases hc0
    obtain ⟨b, off, sp⟩ := x
    cases hsp
    exact ⟨b, off, rfl, by rw [Addr.add_mid] at hc; exact hc⟩
theorem diskSynced_walk (a : Option Addr) (len cap : Nat) (zs : List OpD) (b : Option Addr) (len2 cap2 : Nat) (zt : List OpD) (q : Option Addr) (kl kc : Nat) (keep : List Int) (w : World)
    (hz : IsOps w a len cap zs) (ht : IsOps w b len2 cap2 zt) (hk : IsRow .i64 w q kl kc keep) (_ : kl * 8 ≤ 140737488351232) :
    Calls Try.prog 3 #[.slice a len cap, .slice b len2 cap2, .slice q kl kc] w fun e w' => e = .returned (.bool true) ∧ Below w.heap.size w w' :=
  synced_ok a b len cap len2 cap2 zs zt q kl kc (keep.take kl) w hz ht (ints_of_row hk).1 (ints_of_row hk).2
end Go.Proofs.Ytmcooaoblpcoeaa
