import Derived.Test.YtnficiohnhodiaaRefS
import Derived.Test.YtnficiohnhodiaaDiskP
/-
  The operations with what their slices hold; long, told more of; play as a whole.
-/
namespace Go.Proofs.Ytnficiohnhodiaa
open Go.RowKit Go.ChangeShapes Go.WideShapes Go.Deep
structure OpD.Holds (o : OpD) (w : World) (l : List UInt8) (ks : List Int) : Prop where
  len : l.length = o.bl
  bytes : Bytes w (.slice o.bq o.bl o.bc) l
  klen : ks.length = o.kl
  ints : Ints w (.slice o.kq o.kl o.kc) ks
  nmax : o.n ≤ 9223372036854775807
theorem intD_wf {a : Int} (h : (Lit.int .i64 a).wf = true) : -9223372036854775808 ≤ a ∧ a ≤ 9223372036854775807 := by
  simp [Lit.wf, IntKind.min, IntKind.max, IntKind.signed, IntKind.bits] at h
  omega
section
variable {H : Type} {enc : TypeId × Value → H} {w : World} {base : Nat} {spare : Nat → Bool} {held : Bool} {fuel : Nat}
theorem intD_of_trod {v : Value} {y : DataW H × List MemPlace} (h : DataW.trod enc Try.prog w base spare held fuel 3 [v] = some y) : ∃ z : Int, v = .int .i64 z ∧ -9223372036854775808 ≤ z ∧ z ≤ 9223372036854775807 := by
  obtain ⟨a, e, _, wa⟩ := DataW.trod_int Try.underlying3 h
  exact ⟨a, by simpa using e, intD_wf wa⟩
theorem bytesD_of_trod {v : Value} {y : DataW H × List MemPlace} (h : DataW.trod enc Try.prog w base spare held fuel 52 [v] = some y) : ∃ q c bs, v = .slice q bs.length c ∧ Bytes w (.slice q bs.length c) bs := by
  rcases open_ints Try.underlying52 Try.underlying5 (by kernel_rfl) h with ⟨hcs, _⟩ | ⟨x, l, c, zs, hcs, _, hl, hm, hz, _, hcell, hwz⟩
  · cases hcs; exact ⟨none, 0, [], rfl, Bytes.nil⟩
  · cases hcs
    have hlz : l ≤ zs.length := by rw [hz]; split <;> omega
    have hlen : ((zs.take l).map fun z => UInt8.ofNat z.toNat).length = l := by simp; omega
    refine ⟨some x, c, (zs.take l).map fun z => UInt8.ofNat z.toNat, by rw [hlen], ?_⟩
    refine ⟨some x, c, rfl, by rw [hlen]; exact hl, hm, fun j b hb => ⟨x, rfl, ?_⟩⟩
    rw [List.getElem?_map] at hb
    obtain ⟨z, hzz, rfl⟩ := Option.map_eq_some_iff.1 hb
    rw [List.getElem?_take] at hzz
    split at hzz
    · have hj := (List.getElem?_eq_some_iff.1 hzz).1
      have hw := hwz z (List.mem_of_getElem? hzz)
      rw [hcell j hj, List.getD_eq_getElem?_getD, hzz]
      simp [Lit.wf, IntKind.min, IntKind.max, IntKind.signed, IntKind.bits] at hw
      show some (Value.int .u8 z) = some (byteV (UInt8.ofNat z.toNat))
      unfold byteV
      rw [UInt8.toNat_ofNat']
      congr 2; omega
    · cases hzz
theorem intsD_of_trod {v : Value} {y : DataW H × List MemPlace} (h : DataW.trod enc Try.prog w base spare held fuel 41 [v] = some y) : ∃ q c xs, v = .slice q xs.length c ∧ Ints w (.slice q xs.length c) xs ∧ ∀ x ∈ xs, -9223372036854775808 ≤ x ∧ x ≤ 9223372036854775807 := by
  rcases open_ints Try.underlying41 Try.underlying3 (by kernel_rfl) h with ⟨hcs, _⟩ | ⟨x, l, c, zs, hcs, _, hl, hm, hz, _, hcell, hwz⟩
  · cases hcs; exact ⟨none, 0, [], rfl, ints_nil (Nat.zero_le _) none, fun x hx => by simp at hx⟩
  · cases hcs
    have hlz : l ≤ zs.length := by rw [hz]; split <;> omega
    have hlen : (zs.take l).length = l := by simp; omega
    refine ⟨some x, c, zs.take l, by rw [hlen], ⟨some x, c, rfl, by rw [hlen]; exact hl, hm, fun j b hb => ?_⟩, fun y hy => intD_wf (hwz y (List.mem_of_mem_take hy))⟩
    rw [List.getElem?_take] at hb
    split at hb
    · have hj := (List.getElem?_eq_some_iff.1 hb).1
      have hc := hcell j hj
      rw [List.getD_eq_getElem?_getD, hb] at hc
      have hc0 := hcell 0 (by omega)
      rw [show x.add 0 = x from by simp [Addr.add]] at hc0
      have hsp := spot_none hc0
      obtain ⟨bb, off, sp⟩ := x
      cases hsp
      exact ⟨bb, off, rfl, by rw [Addr.add_mid] at hc; exact hc⟩
    · cases hb
theorem opsX_of_trod {a : Option Addr} {len cap : Nat} {x : DataW H × List MemPlace} (h : DataW.trod enc Try.prog w base spare held fuel 44 [.slice a len cap] = some x) :
    ∃ zs, IsOps w a len cap zs ∧ ∀ (i : Nat) (o : OpD), zs[i]? = some o → ∃ l ks, o.Holds w l ks := by
  rcases open_slice_fields Try.underlying44 Try.underlying54 (by kernel_rfl) (by kernel_rfl) h with ⟨hcs, _⟩ | ⟨x, l, c, m, D, Pl, hcs, _, hl, hc, hm, _, hi⟩
  · simp at hcs; obtain ⟨rfl, rfl, rfl⟩ := hcs
    exact ⟨[], .inl ⟨rfl, rfl, rfl, rfl⟩, fun i o ho => by simp at ho⟩
  · simp at hcs; obtain ⟨rfl, rfl, rfl⟩ := hcs
    have hlm : len ≤ m := by rw [hm]; split <;> omega
    obtain ⟨zs, hz, hr⟩ := choose_list len (fun i (o : OpD) => (o.wf ∧ ∀ j v, o.vals[j]? = some v → w.cell? (x.add (i * 5 + j)) = some v) ∧ ∃ l ks, o.Holds w l ks) (fun i hi' => by
      obtain ⟨ys, n, _, _, _, hp⟩ := hi i (by omega)
      obtain ⟨v0, _, a0, _, t0⟩ := hp 0 _ rfl
      obtain ⟨v1, _, a1, _, t1⟩ := hp 1 _ rfl
      obtain ⟨v2, _, a2, _, t2⟩ := hp 2 _ rfl
      obtain ⟨v3, _, a3, _, t3⟩ := hp 3 _ rfl
      obtain ⟨v4, _, a4, _, t4⟩ := hp 4 _ rfl
      obtain ⟨z0, rfl, _⟩ := intD_of_trod t0
      obtain ⟨z1, rfl, _⟩ := intD_of_trod t1
      obtain ⟨z2, rfl, _, hz2⟩ := intD_of_trod t2
      obtain ⟨q3, c3, bs, rfl, hb⟩ := bytesD_of_trod t3
      obtain ⟨q4, c4, ks, rfl, hk, _⟩ := intsD_of_trod t4
      have hb' := hb
      have hk' := hk
      obtain ⟨_, _, e3, b1, b2, _⟩ := hb'
      obtain ⟨_, _, e4, k1, k2, _⟩ := hk'
      injection e3 with _ _ e3
      injection e4 with _ _ e4
      subst e3 e4
      refine ⟨⟨z0, z1, z2, q3, bs.length, c3, q4, ks.length, c4⟩, ⟨⟨b1, b2, k1, k2⟩, fun j v hv => ?_⟩, bs, ks, rfl, hb, rfl, hk, hz2⟩
      match j, hv with
      | 0, hv => cases hv; exact a0
      | 1, hv => cases hv; exact a1
      | 2, hv => cases hv; exact a2
      | 3, hv => cases hv; exact a3
      | 4, hv => cases hv; exact a4
      | j + 5, hv => simp [OpD.vals] at hv)
    refine ⟨zs, .inr ⟨x, rfl, hz, hl, hc, fun i o ho => (hr i o ho).1.2, fun o ho => ?_⟩, fun i o ho => (hr i o ho).2⟩
    obtain ⟨i, hi2, e⟩ := List.getElem_of_mem ho
    exact (hr i o (by rw [List.getElem?_eq_getElem hi2, e])).1.1
end
def LongX (zs : List OpD) (len : Nat) (w : World) (e : Ending) (w' : World) : Prop := ∃ b : Bool, e = .returned (.bool b) ∧ (b = false → len ≤ 400 ∧ ∀ (i : Nat) (o : OpD), zs[i]? = some o → o.bl ≤ 65536 ∧ o.kl ≤ 10000) ∧ Below w.heap.size w w'
set_option maxRecDepth 100000 in
set_option maxHeartbeats 4000000 in
theorem longX_any (a : Option Addr) (len cap : Nat) (zs : List OpD) (w : World) (hz : IsOps w a len cap zs) : Calls Try.prog 24 #[.slice a len cap] w (LongX zs len w) := by
  obtain ⟨hl, hm⟩ := ops_len hz
  have Hz := Lib.hid hz
  have Hl := Lib.hid hl
  unfold maxLen at hm
  clear hz hl
  go_enter Try.func24, Try.ntmps24
  go_wp2
  go_loopw [3, 8] (fun s i wr => ∃ k m : Nat, k ≤ len ∧ i = .int .i64 k ∧ s = .int .i64 m ∧ k ≤ m ∧ m ≤ 400 ∧ Hid (∀ (i : Nat) (o : OpD), i < k → zs[i]? = some o → o.bl ≤ 65536 ∧ o.kl ≤ 10000) ∧ Below w.heap.size w wr) (fun _ i _ => len - (intOf i).toNat)
  case atStart => exact ⟨0, 0, by omega, rfl, rfl, by omega, by omega, Lib.hid (fun i o h => absurd h (Nat.not_lt_zero _)), Below.refl _ _⟩
  case round =>
    obtain ⟨k, m, hk, rfl, rfl, hkm, hm4, Hall, hb⟩ := hrel
    by_cases hlt : k < len
    · obtain ⟨o, ho⟩ : ∃ o, zs[k]? = some o := ⟨_, List.getElem?_eq_getElem (by rw [Hl.out]; exact hlt)⟩
      obtain ⟨x, rfl⟩ := ops_some Hz.out ho
      obtain ⟨c0, c1, c2, c3, c4⟩ := ops_at Hz.out hb k o ho
      obtain ⟨f1, f2, f3, f4⟩ := wf_ops Hz.out ho
      unfold maxLen at f2 f4
      have hbl : (o.bl : Int) / 512 ≤ 20000000000000000 := by omega
      have hkl : (o.kl : Int) / 16 ≤ 600000000000000000 := by omega
      have hbl0 : 0 ≤ (o.bl : Int) / 512 := by omega
      have hkl0 : 0 ≤ (o.kl : Int) / 16 := by omega
      have hB2 : Below w.heap.size w (wr.alloc (.cells #[.int .i64 o.kind, .int .i64 o.at_, .int .i64 o.n, .slice o.bq o.bl o.bc, .slice o.kq o.kl o.kc] 54)) := hb.alloc hb.size _
      have HB2 := Lib.hid hB2
      have Hho := Lib.hid ho
      clear ho f1 f2 f3 f4 hB2
      by_cases h4 : (400 : Int) < (m : Int) + (1 + (o.bl : Int) / 512 + (o.kl : Int) / 16)
      · go_wp2
        go_ret
        exact ⟨true, rfl, (fun e => by cases e), HB2.out⟩
      · by_cases h5 : (65536 : Int) < (o.bl : Int)
        · go_wp2
          go_ret
          exact ⟨true, rfl, (fun e => by cases e), HB2.out⟩
        · obtain ⟨m2, hm2, Hm2⟩ : ∃ m2 : Nat, (m : Int) + (1 + (o.bl : Int) / 512 + (o.kl : Int) / 16) = (m2 : Int) ∧ Hid (k + 1 ≤ m2 ∧ m2 ≤ 400) := ⟨m + (1 + o.bl / 512 + o.kl / 16), by omega, by constructor <;> omega⟩
          have Hm := Lib.hid hm2
          have Hall2 : Hid (∀ (i : Nat) (o : OpD), i < k + 1 → zs[i]? = some o → o.bl ≤ 65536 ∧ o.kl ≤ 10000) := Lib.hid (fun i o' hi hz => by
            by_cases e : i = k
            · subst e
              have e2 := Hho.out.symm.trans hz
              injection e2 with e2
              subst e2
              omega
            · exact Hall.out i o' (by omega) hz)
          clear hm2
          go_wp2
          go_roundw
          case rel => exact ⟨k + 1, m2, by omega, by go_num, by rw [Hm.out], Hm2.out.1, Hm2.out.2, Hall2, HB2.out⟩
          case measure => simp [intOf]; omega
    · obtain rfl : k = len := by omega
      have hfin : Hid (k ≤ 400) := by show k ≤ 400; omega
      go_wp2
      go_ret
      exact ⟨false, rfl, fun _ => ⟨hfin.out, fun i o hz => Hall.out i o (by rw [← Hl.out]; exact (List.getElem?_eq_some_iff.1 hz).1) hz⟩, hb⟩

/-- what one call does to the device, and to the document's Left -/
def playD (d : Dev) (L : Int) (o : OpD) (l : List UInt8) (ks : List Int) : Dev × Int :=
  if o.kind = 0 then ((d.write o.at_ l).2, writeL d o.at_ l L)
  else if o.kind = 1 then ((d.write o.at_ (fullB o.n)).2, writeL d o.at_ (fullB o.n) L)
  else if o.kind = 2 then (d, L)
  else if o.kind = 3 then (d.sync.2, stepL d L)
  else if o.kind = 4 then (if o.n < 0 then (d, L) else ({ d with armed := true, left := o.n }, o.n))
  else (d.crash ks, L)
theorem Dev.Ok.more {d : Dev} {n : Nat} (h : d.Ok n) : d.Ok (n + 1) := { h with s1 := by have := h.s1; omega }
section
variable {w0 w : World} {A : RAd} {d : Dev} {L : Int} {p mn ms mc n : Nat}
theorem Both.more (h : Both w0 w p mn ms mc A d L n) : Both w0 w p mn ms mc A d L (n + 1) := ⟨⟨h.dev.lay, h.dev.ok.more, h.dev.low, h.dev.bel⟩, h.ref, h.off, h.low⟩
theorem play_all (h : Both w0 w p mn ms mc A d L n) (hn : n ≤ 1000000) (hL : L ≤ 9223372036854775807) (hL0 : -100000000 ≤ L) {o : OpD} {l : List UInt8} {ks : List Int} (ho : o.Holds w0 l ks) (hb : o.bl ≤ 65536) (hk : o.kl ≤ 10000) :
    Calls Try.prog 25 #[.pointer (some ⟨p, 0, none⟩), .pointer (some ⟨A.b, 0, none⟩), .agg #[.int .i64 o.kind, .int .i64 o.at_, .int .i64 o.n, .slice o.bq o.bl o.bc, .slice o.kq o.kl o.kc]] w fun e w' => e = .returned (.bool true) ∧ Both w0 w' p mn ms mc A (playD d L o l ks).1 (playD d L o l ks).2 (n + 1) ∧ Keeps (fun k => DFoot p mn ms mc k ∨ A.S k) w w' := by
  obtain ⟨kind, at_, x, bq, bl, bc, kq, kl, kc⟩ := o
  obtain ⟨h1, h2, h3, h4, h5⟩ := ho
  simp only at h1 h2 h3 h4 h5 hb hk ⊢
  unfold playD
  simp only
  by_cases k0 : kind = 0
  · subst k0
    rw [if_pos rfl]
    exact Pre.play_two h hn hL hL0 at_ x h1 h2 (by omega) _
  rw [if_neg k0]
  by_cases k1 : kind = 1
  · subst k1
    rw [if_pos rfl]
    exact (Pre.play_full h.dev hn h.ref hL hL0 h.off h.low at_ x _ _).mono fun _ _ ⟨a, b, c, k⟩ => ⟨a, ⟨b, c, h.off, h.low⟩, k⟩
  rw [if_neg k1]
  by_cases k2 : kind = 2
  · subst k2
    rw [if_pos rfl]
    by_cases hr : at_ < 0 ∨ d.size ≤ at_
    · exact (play_readbad h at_ x 1 (by omega) (fun w1 hd => read_range w1 p mn ms mc d hd at_ hr) (by unfold rdR; rw [if_pos hr]) _ _).mono fun _ _ ⟨a, b, k⟩ => ⟨a, b.more, k⟩
    · cases hdn : d.down
      · exact (play_readok h at_ x (by omega) (by omega) hdn _ _).mono fun _ _ ⟨a, b, k⟩ => ⟨a, b.more, k⟩
      · exact (play_readbad h at_ x 3 (by omega) (fun w1 hd => read_down w1 p mn ms mc d hd at_ (by omega) (by omega) hdn) (by unfold rdR; rw [if_neg hr, hdn]; rfl) _ _).mono fun _ _ ⟨a, b, k⟩ => ⟨a, b.more, k⟩
  rw [if_neg k2]
  by_cases k3 : kind = 3
  · subst k3
    rw [if_pos rfl]
    exact (play_sync h hn hL hL0 at_ x _ _).mono fun _ _ ⟨a, b, k⟩ => ⟨a, b, k⟩
  rw [if_neg k3]
  by_cases k4 : kind = 4
  · subst k4
    rw [if_pos rfl]
    by_cases hx : x < 0
    · rw [if_pos hx]
      exact (play_armbad h at_ x hx _ _).mono fun _ _ ⟨a, b, k⟩ => ⟨a, b.more, k⟩
    · rw [if_neg hx]
      exact (Pre.play_arm h at_ x (by omega) (by omega) _ _).mono fun _ _ ⟨a, b, k⟩ => ⟨a, b.more, k⟩
  rw [if_neg k4]
  exact (play_crash h kind at_ x (by omega) _ h3 h4 (by omega)).mono fun _ _ ⟨a, b, k⟩ => ⟨a, b.more, k⟩
end
end Go.Proofs.Ytnficiohnhodiaa
