import Derived.Test.YtnficiohnhodiaaRefD
/-
  The document's device: Write.
-/
namespace Go.Proofs.Ytnficiohnhodiaa
open Go.RowKit
def writeL (d : Dev) (at_ : Int) (l : List UInt8) (L : Int) : Int := if (d.write at_ l).1 = 0 then L - 1 else L
theorem rowForm {w : World} {B : Nat} {v : Value} {l : List UInt8} (h : SubRow w B v (bytesV l)) (hl : 1 ≤ l.length) : ∃ g o c, v = .slice (some ⟨g, o, none⟩) l.length c ∧ B ≤ g ∧ g < w.heap.size := by
  rcases h with ⟨_, e⟩ | ⟨g, o, c, e, h1, h2, _⟩
  · have := congrArg List.length e; rw [bytesV_len] at this; simp only [List.length_nil] at this; omega
  · rw [bytesV_len] at e; exact ⟨g, o, c, e, h1, h2⟩
/-- 'append([]T{}, row...)': a new block -/
theorem run_append_fresh {P : Program} (w : World) (t ty e : TypeId) (i : TypeInfo) (z : Value) (bytes : Nat) (ht : P.underlying t = some (.slice e)) (hi : P.info? e = some i) (hz : i.zero = some z)
    (hsize : i.size = 1) (hby : i.bytes = bytes) (hzs : z.cells.size = 1) (B b : Nat) (x : Value) (news : List Value) (hs : Src P 1 t x news.length news w) (h0 : 1 ≤ news.length)
    (hmx : news.length ≤ maxLen) (hb : news.length * bytes ≤ 140737488355328) (hB : B ≤ w.heap.size) :
    ∃ v' w', (Builtin.append_ #[t, t] ty #[.slice (some ⟨b, 0, none⟩) 0 0, x]).run P w = .ok v' w' ∧ SubRow w' B v' news ∧ Keeps (fun _ => False) w w' := by
  have hm := hmx
  unfold maxLen at hm
  have hr := run_append_grow_src (P := P) w t t ty e i z ht hi hz (some ⟨b, 0, none⟩) 0 0 [] (by rw [hsize]; exact run_firstCells_some w.drew 1 0 ⟨b, 0, none⟩ 0 0 [] (by simp) (fun j u hu => by simp at hu)) x news.length news (by rw [hsize]; exact hs) (by simp; omega) (by simp; omega) (by rw [hby]; exact growslice_fits (by simp; omega) (by simpa using hb))
  simp only [List.nil_append, Nat.zero_add] at hr
  refine ⟨_, _, hr, .inr ⟨w.heap.size, 0, _, rfl, hB, by simp, ?_, ?_, ?_, ?_⟩, ((Keeps.refl _ w).drew).alloc _⟩
  · exact grownCap_ge w _ _ _
  · exact grownCap_le_maxLen w _ _ _ hmx
  · intro j hj
    have hge := grownCap_ge w news.length 0 e
    have hh := heap_alloc_new w.drew (.cells (news.toArray ++ Builtin.zeroCells z.cells (grownCap w news.length 0 e - news.length)) e)
    have hsz : (news.toArray ++ Builtin.zeroCells z.cells (grownCap w news.length 0 e - news.length)).size = grownCap w news.length 0 e := by
      rw [Array.size_append, size_zeroCells, hzs]; simp; omega
    have hc2 := cell_in (o := j) (u := (news.toArray ++ Builtin.zeroCells z.cells (grownCap w news.length 0 e - news.length))[j]'(by rw [hsz]; exact hj)) hh (Array.getElem?_eq_getElem _)
    rw [Nat.zero_add]
    refine ⟨by rw [show w.drew.heap.size = w.heap.size from rfl] at hc2; rw [hc2]; rfl, free_in (o := j) hh⟩
  · intro j u hu
    have hh := heap_alloc_new w.drew (.cells (news.toArray ++ Builtin.zeroCells z.cells (grownCap w news.length 0 e - news.length)) e)
    rw [Nat.zero_add]
    refine cell_in (o := j) (u := u) hh ?_
    rw [Array.getElem?_append_left (by have := (List.getElem?_eq_some_iff.1 hu).1; simpa using this)]
    simpa using hu
theorem gives_append {P : Program} {call : Bool} {a : Act} {w w' : World} {o : Oper} {s x : Operand} {t : TypeId} {v y r : Value} {post : Value → World → Prop} (ho : o.op = .call { callee := .builtin .append, args := #[s, x], argTypes := #[t, t] })
    (hs : a.eval s = v) (hx : a.eval x = y) (hr : (Builtin.append_ #[t, t] o.type #[v, y]).run P w = .ok r w') (h : post r w') : gives P call o a w post := by
  unfold gives execOp
  simp only [ho, resolve, invoke, builtin, Sem.run_bind, Sem.run_pure, Result.andThen_ok, List.map_toArray, List.map_cons, List.map_nil, hs, hx, hr]
  exact h
theorem append_bytes_sub {w : World} {B b : Nat} {v : Value} {l : List UInt8} {ty : TypeId} (hv : Bytes w v l) (h0 : 1 ≤ l.length) (hl : l.length ≤ 1000000000) (hB : B ≤ w.heap.size) :
    ∃ v' w', (Builtin.append_ #[52, 52] ty #[.slice (some ⟨b, 0, none⟩) 0 0, v]).run Try.prog w = .ok v' w' ∧ SubRow w' B v' (bytesV l) ∧ Keeps (fun _ => False) w w' := by
  obtain ⟨i0, hi, hz0, hz1, hz2⟩ := info_parts info8
  exact run_append_fresh (P := Try.prog) w 52 ty 5 i0 (.int .u8 0) 1 Try.underlying52 hi hz0 (by omega) (by omega) rfl B b v (bytesV l) hv.src (by rw [bytesV_len]; omega) (by unfold maxLen; rw [bytesV_len]; omega) (by rw [bytesV_len]; omega) hB
section
variable {w : World} {B : Nat} {A : RAd} {d : Dev} {L : Int} {n : Nat}
theorem step_avoids {w w' : World} (h : RefAt w B A d L) (hk : Keeps (· = A.b) w w') : Avoids A w w' B d d.step.2 (fun k => w.heap.size ≤ k) := by
  intro F hF _ h1 h2
  obtain ⟨e1, e2, _⟩ := step_maps d
  rw [e1, e2, step_size]
  have fb : ∀ k, k = A.b → F k := fun k e => hF k (.inl e)
  exact ⟨h1.keeps hk (fun k e e' => (h.ap1 k e).1 e') fb, h2.keeps hk (fun k e e' => (h.ap2 k e).1 e') fb⟩
theorem Bytes.keeps_ne {S : Nat → Prop} {w w' : World} {v : Value} {l : List UInt8} (h : Bytes w v l) (hk : Keeps S w w') (hs : l ≠ [] → ∀ k, v.ownBlock = some k → ¬ S k) : Bytes w' v l := by
  cases l with
  | nil => obtain ⟨q, cap, rfl, h1, h2, _⟩ := h; exact ⟨q, cap, rfl, h1, h2, fun j b hb => by simp at hb⟩
  | cons b l => exact h.keeps hk (hs (by simp))
set_option maxRecDepth 100000 in
set_option maxHeartbeats 1000000 in
theorem rwrite_more (h : RefAt w B A d L) (ho : d.Ok n) (hn : n ≤ 1000000) (hL : L ≤ 9223372036854775807) (hL0 : -100000000 ≤ L) (at_ : Int) {v : Value} {l : List UInt8} (hv : Bytes w v l) (hvS : l ≠ [] → ∀ k, v.ownBlock = some k → ¬ A.S k) (hl : l.length ≤ 1000000000) :
    Calls Try.prog 51 #[.pointer (some ⟨A.b, 0, none⟩), .int .i64 at_, v] w fun e w' => e = .returned (.int .i64 (d.write at_ l).1) ∧ RefAt w' B A (d.write at_ l).2 (writeL d at_ l L) ∧ Keeps A.S w w' ∧ Avoids A w w' B d (d.write at_ l).2 (fun k => w.heap.size ≤ k) := by
  have hin := rin_any h ho.z1 at_
  have H := Lib.hid h
  have Hv := Lib.hid hv
  by_cases hr : at_ < 0 ∨ d.size ≤ at_
  · have e0 : (decide (0 ≤ at_) && decide (at_ < d.size)) = false := by simp; omega
    have e : d.write at_ l = (1, d) := by unfold Dev.write; rw [if_pos hr]
    have e2 : writeL d at_ l L = L := by unfold writeL; rw [e]; rfl
    rw [e0] at hin
    rw [e, e2]
    clear h hv hvS hr e0 e e2
    go_enter Try.func51, Try.ntmps51
    go_wp2_with (go_at_call 79; (with_reducible refine hin.mono ?_); rintro _ _ ⟨rfl, rfl⟩)
    go_ret
    exact ⟨rfl, H.out, Keeps.refl _ _, fun _ _ _ h1 h2 => ⟨h1, h2⟩⟩
  · have e0 : (decide (0 ≤ at_) && decide (at_ < d.size)) = true := by simp; omega
    rw [e0] at hin
    obtain ⟨q, c, ev, k1, k2, k3⟩ := hv
    subst ev
    by_cases hl2 : l.length ≠ 512
    · have e : d.write at_ l = (2, d) := by unfold Dev.write; rw [if_neg hr, if_pos hl2]
      have e2 : writeL d at_ l L = L := by unfold writeL; rw [e]; rfl
      have e3 : ((l.length : Int) != 512) = true := by simp; omega
      rw [e, e2]
      generalize l.length = m at e3 hin Hv
      clear h hvS hr e0 e e2 k1 k2 k3 hl2
      go_enter Try.func51, Try.ntmps51
      go_wp2_with (go_at_call 79; (with_reducible refine hin.mono ?_); rintro _ _ ⟨rfl, rfl⟩)
      go_ret
      exact ⟨rfl, H.out, Keeps.refl _ _, fun _ _ _ h1 h2 => ⟨h1, h2⟩⟩
    · have hl3 : l.length = 512 := by omega
      have hst := rstep_any h ho hn hL hL0
      rw [hl3] at Hv
      by_cases hz : d.step.1 = 0
      · have e : d.write at_ l = (0, d.step.2.put at_ l) := by unfold Dev.write; rw [if_neg hr, if_neg hl2, if_pos hz]
        have e2 : writeL d at_ l L = stepL d L := by unfold writeL stepL; rw [e, if_pos hz]; rfl
        rw [e, e2]
        rw [hz] at hst
        have es := step_size d
        obtain ⟨k, hk⟩ : ∃ k : Nat, at_ = (k : Int) := ⟨at_.toNat, by omega⟩
        subst hk
        have Hkl : Hid (k < d.step.2.size.toNat) := Lib.hid (by rw [es]; omega)
        have Hlt := Lib.hid h.lt
        have HvS : Hid (∀ k, (Value.slice q 512 c).ownBlock = some k → ¬ A.S k) := Lib.hid (fun k hk => hvS (by rintro rfl; simp at hl3) k (by cases q <;> exact hk))
        have Hl3 := Lib.hid hl3
        rw [hl3]
        have hav := fun w' (k : Keeps (· = A.b) w w') => step_avoids h k
        clear h hvS hr e0 e e2 k1 k2 k3 hl2 hz ho hl3 es
        generalize stepL d L = L1 at hst ⊢
        generalize d.step.2 = d1 at hst Hkl hav ⊢
        go_enter Try.func51, Try.ntmps51
        go_upto_region 7 with (first
          | (go_at_call 79; (with_reducible refine hin.mono ?_); rintro _ _ ⟨rfl, rfl⟩)
          | (go_at_call 80; (with_reducible refine hst.mono ?_); rintro _ w1 ⟨rfl, h1, k1⟩; clear hst; have H1 := Lib.hid h1; have K1 := Lib.hid k1; have HA1 := Lib.hid (hav _ k1); clear h1 k1 hav))
        have HV1 : Hid (Bytes w1 (.slice q 512 c) l) := Lib.hid (Hv.out.keeps K1.out (fun k hk e => HvS.out k hk (.inl e)))
        refine wp_region_text [] (fun _ => False) (fun w' => Keeps (fun _ => False) w1 w' ∧ w'.cell? ⟨A.b, 0, none⟩ = some A.vn) 8 (by kernel_rfl) (fun _ _ h k => ⟨h.1.trans k, k.cell h.2 (fun e => e)⟩) (by kernel_rfl) ⟨(Keeps.refl _ _).drew, H1.out.cells.c0⟩ ?_
        simp only [List.take_succ_cons, List.take_zero, List.drop_succ_cons, List.drop_zero]
        repeat (first | (refine text_pure (v := ?_) (by rfl) (fun w' => ?_) ?_; rotate_left; (focus ( go_simp; first | done | with_reducible rfl)); simp only [Act.put, List.setIfInBounds_toArray, List.set_cons_zero, List.set_cons_succ]) | (refine text_skip (by rfl) ?_; simp only [Act.put, List.setIfInBounds_toArray, List.set_cons_zero, List.set_cons_succ]))
        (refine text_read (v := ?_) (by rfl) (by kernel_rfl) (fun w' hB hm => ?_) ?_; rotate_left; (focus (have hc := hB.2; (try clear hm); (try clear hB); go_simp; first | done | with_reducible rfl)); simp only [Act.put, List.setIfInBounds_toArray, List.set_cons_zero, List.set_cons_succ])
        repeat (first | (refine text_pure (v := ?_) (by rfl) (fun w' => ?_) ?_; rotate_left; (focus ( go_simp; first | done | with_reducible rfl)); simp only [Act.put, List.setIfInBounds_toArray, List.set_cons_zero, List.set_cons_succ]) | (refine text_skip (by rfl) ?_; simp only [Act.put, List.setIfInBounds_toArray, List.set_cons_zero, List.set_cons_succ]))
        refine text_new (fun b : Nat => .slice (some ⟨b, 0, none⟩) 0 0) (fun b w' => SubRow w' w1.heap.size (.slice (some ⟨b, 0, none⟩) 0 0) []) (by rfl) (by kernel_rfl) (by kernel_rfl) (fun x y h => by injection h with h; injection h with h; injection h) (fun x => keepStable fun _ _ h k => h.block_keeps k (fun _ _ e => e)) (fun w' hB hm K hK => ?_) (fun b => ?_)
        · unfold gives
          go_simp
          refine hK _ _ ((Keeps.refl _ _).alloc _) (.inr ⟨w'.heap.size, 0, 0, rfl, hB.1.size, by simp, Nat.le_refl _, Nat.zero_le _, fun j hj => absurd hj (Nat.not_lt_zero _), fun j u hu => by simp at hu⟩)
        simp only [Act.put, List.setIfInBounds_toArray, List.set_cons_zero, List.set_cons_succ]
        repeat (first | (refine text_pure (v := ?_) (by rfl) (fun w' => ?_) ?_; rotate_left; (focus ( go_simp; first | done | with_reducible rfl)); simp only [Act.put, List.setIfInBounds_toArray, List.set_cons_zero, List.set_cons_succ]) | (refine text_skip (by rfl) ?_; simp only [Act.put, List.setIfInBounds_toArray, List.set_cons_zero, List.set_cons_succ]))
        refine text_new (fun b : Nat × Nat × Nat => .slice (some ⟨b.1, b.2.1, none⟩) 512 b.2.2) (fun b w' => SubRow w' w1.heap.size (.slice (some ⟨b.1, b.2.1, none⟩) 512 b.2.2) (bytesV l)) (by rfl) (by kernel_rfl) (by kernel_rfl) (fun x y h => by obtain ⟨x1, x2, x3⟩ := x; obtain ⟨y1, y2, y3⟩ := y; injection h with h _ h3; injection h with h; injection h with h1 h2 _; subst h1; subst h2; subst h3; rfl) (fun x => keepStable fun _ _ h k => h.block_keeps k (fun _ _ e => e)) (fun w' hB hm K hK => ?_) (fun b2 => ?_)
        · have hb1 := HV1.out.keeps hB.1 (fun _ _ e => e)
          obtain ⟨v2, w2, hr, hs2, hk2⟩ := append_bytes_sub (ty := 52) (b := b) hb1 (by rw [Hl3.out]; omega) (by rw [Hl3.out]; omega) hB.1.size
          obtain ⟨g2, o2, c2, e2, _, _⟩ := rowForm hs2 (by rw [Hl3.out]; omega)
          rw [Hl3.out] at e2
          subst e2
          exact gives_append (v := .slice (some ⟨b, 0, none⟩) 0 0) (y := .slice q 512 c) rfl rfl rfl hr (hK (g2, o2, c2) _ hk2 hs2)
        simp only [Act.put, List.setIfInBounds_toArray, List.set_cons_zero, List.set_cons_succ]
        refine text_nil fun w2 hB hF => ?_
        obtain ⟨g2, o2, c2⟩ := b2
        have HK2 := Lib.hid hB.1
        have c0 := hB.2
        have hs2 : SubRow w2 w1.heap.size (.slice (some ⟨g2, o2, none⟩) 512 c2) (bytesV l) := hF.1
        have hb2 : Bytes w2 (.slice (some ⟨g2, o2, none⟩) l.length c2) l := by rw [Hl3.out]; exact Bytes.of_sub hs2
        have hg2 : w1.heap.size ≤ g2 := (hs2.lt g2 rfl).1
        have H2 := H1.out.below (HK2.out.below (Nat.le_refl _) (fun _ _ e => e))
        obtain ⟨g, o, c3, gc, oc, cc, e1, e2, ⟨x1, h1⟩, h2, h3, ⟨x2, h4⟩, h5, h6, h7, h8⟩ := H2.putAt (i := k) Hkl.out hb2 (fun k' e hk => by cases e; exact absurd (H1.out.lt _ hk) (Nat.not_lt.2 hg2))
        rw [Hl3.out] at h3 h4 h5 h6 h7 h8
        have c0 := hB.2
        have hkl := Hkl.out
        rw [e1] at c0 ⊢
        rw [e2] at h3
        have H6 := Lib.hid h6
        have H7 := Lib.hid h7
        have H8 := Lib.hid h8
        have HG2 := Lib.hid hg2
        generalize d1.size.toNat = N at c0 h3 hkl ⊢
        have hkl2 : (k : Int) < (N : Int) := by omega
        clear hF hB hs2 hb2 hg2 H2 e1 e2 h6 h7 h8
        go_wp2
        refine Calm.normal ?_
        go_wp2
        go_ret
        refine ⟨rfl, H6.out, (K1.out.mono (fun k _ e => Or.inl e)).trans ((HK2.out.mono (fun _ _ e => e.elim)).trans H7.out), ?_⟩
        intro F hF hN r1 r2
        obtain ⟨s1, s2⟩ := HA1.out F hF hN r1 r2
        exact H8.out F hF (fun k hk e => hN k hk (by have e1 : (some g2 : Option Nat) = some k := e; injection e1 with e1; have := K1.out.size; have := HG2.out; omega)) (RowsAt.keeps (T := fun _ => False) s1 HK2.out (fun _ _ e => e) (fun _ e => e.elim)) (RowsAt.keeps (T := fun _ => False) s2 HK2.out (fun _ _ e => e) (fun _ e => e.elim))
      · have e : d.write at_ l = d.step := by unfold Dev.write; rw [if_neg hr, if_neg hl2, if_neg hz]
        have e2 : writeL d at_ l L = stepL d L := by unfold writeL stepL; rw [e]
        have e3 : d.step.1 = 3 := by rcases step_code d with h | h; exact absurd h hz; exact h
        rw [e, e2]
        rw [e3] at hst ⊢
        rw [hl3]
        have hav := fun w' (k : Keeps (· = A.b) w w') => step_avoids h k
        clear h hvS hr e0 e e2 e3 k1 k2 k3 hl2 hz ho hl3
        generalize stepL d L = L1 at hst ⊢
        generalize d.step.2 = d1 at hst hav ⊢
        go_enter Try.func51, Try.ntmps51
        go_wp2_with (first
          | (go_at_call 79; (with_reducible refine hin.mono ?_); rintro _ _ ⟨rfl, rfl⟩)
          | (go_at_call 80; (with_reducible refine hst.mono ?_); rintro _ w1 ⟨rfl, h1, k1⟩; clear hst; have H1 := Lib.hid h1; have K1 := Lib.hid k1; have HA1 := Lib.hid (hav _ k1); clear h1 k1 hav))
        go_ret
        exact ⟨rfl, H1.out, K1.out.mono (fun k _ e => Or.inl e), HA1.out⟩
theorem rwrite_any (h : RefAt w B A d L) (ho : d.Ok n) (hn : n ≤ 1000000) (hL : L ≤ 9223372036854775807) (hL0 : -100000000 ≤ L) (at_ : Int) {v : Value} {l : List UInt8} (hv : Bytes w v l) (hvS : ∀ k, v.ownBlock = some k → ¬ A.S k) (hl : l.length ≤ 1000000000) :
    Calls Try.prog 51 #[.pointer (some ⟨A.b, 0, none⟩), .int .i64 at_, v] w fun e w' => e = .returned (.int .i64 (d.write at_ l).1) ∧ RefAt w' B A (d.write at_ l).2 (writeL d at_ l L) ∧ Keeps A.S w w' :=
  (rwrite_more h ho hn hL hL0 at_ hv (fun _ => hvS) hl).mono fun _ _ ⟨a, b, c, _⟩ => ⟨a, b, c⟩
end
end Go.Proofs.Ytnficiohnhodiaa
