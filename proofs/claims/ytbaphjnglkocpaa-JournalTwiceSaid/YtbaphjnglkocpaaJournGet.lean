import Derived.Test.YtbaphjnglkocpaaJournY
/-
  Get of a record that is there.
-/
namespace Go.Proofs.Ytbaphjnglkocpaa
open Go.RowKit
theorem recsB_take_succ {l : List (List UInt8)} {i : Nat} {r : List UInt8} (h : l[i]? = some r) : recsB (l.take (i + 1)) = recsB (l.take i) ++ recB r := by
  rw [List.take_add_one, h, recsB_app, Option.toList_some, recsB_one]
theorem recsB_split {l : List (List UInt8)} {i : Nat} {r : List UInt8} (h : l[i]? = some r) : recsB l = recsB (l.take i) ++ (recB r ++ recsB (l.drop (i + 1))) := by
  rw [← List.append_assoc, ← recsB_take_succ h, ← recsB_app, List.take_append_drop]
theorem stream_rec {m : JM} {i : Nat} {r : List UInt8} (h : m.recs[i]? = some r) : (m.stream.drop (m.pre.length + (recsB (m.recs.take i)).length + 2)).take r.length = r ∧ m.pre.length + (recsB (m.recs.take i)).length + 2 + r.length ≤ m.stream.length := by
  unfold JM.stream
  rw [recsB_split h]
  unfold recB
  constructor
  · rw [show m.pre ++ (recsB (m.recs.take i) ++ (UInt8.ofNat (r.length / 256) :: UInt8.ofNat r.length :: r ++ recsB (m.recs.drop (i + 1)))) = (m.pre ++ recsB (m.recs.take i) ++ [UInt8.ofNat (r.length / 256), UInt8.ofNat r.length]) ++ (r ++ recsB (m.recs.drop (i + 1))) from by simp]
    rw [List.drop_append, List.drop_of_length_le (by simp; omega), List.nil_append, List.length_append, List.length_append, show m.pre.length + (recsB (m.recs.take i)).length + 2 - (m.pre.length + (recsB (m.recs.take i)).length + [UInt8.ofNat (r.length / 256), UInt8.ofNat r.length].length) = 0 from by simp, List.drop_zero, List.take_left']
    rfl
  · simp; omega
section
variable {w : World} {B : Nat} {A : JAd} {m : JM}
set_option maxRecDepth 100000 in
set_option maxHeartbeats 1000000 in
theorem jget_at (h : JAt w B A m) (n1 : 1 ≤ m.first) (n2 : m.next ≤ 1000000000000) (b1 : 0 ≤ m.base) (b2 : m.base ≤ 10000000000) (rm : m.stream.length ≤ 100000000) {i : Nat} {r : List UInt8} (hr : m.recs[i]? = some r) :
    Calls Try.prog 37 #[.pointer (some ⟨A.j, 0, none⟩), .int .i64 (m.first + i)] w fun e w' => ∃ q c, e = .returned (.tuple #[.slice q r.length c, .nilIface]) ∧ SubRow w' w.heap.size (.slice q r.length c) (bytesV r) ∧ Below w.heap.size w w' := by
  have hil : i < m.recs.length := (List.getElem?_eq_some_iff.1 hr).1
  have hnx : m.next = m.first + m.recs.length := rfl
  obtain ⟨q, cs, ev, hs1, hs2⟩ := h.vsForm
  obtain ⟨qa, ca, ea, ha1, ha2⟩ := h.vaForm
  obtain ⟨st1, st2⟩ := stream_rec hr
  obtain ⟨pa, hpa⟩ : ∃ pa, m.pre.length + (recsB (m.recs.take i)).length + 2 = pa := ⟨_, rfl⟩
  have hst : m.start = m.base * 470 + m.pre.length := rfl
  -- where the record begins and ends
  have hi0 : (intsV m.starts)[i]? = some (.int .i64 (m.base * 470 + ((pa : Int) - 2))) := intsV_at (by
    unfold JM.starts; rw [startsOf_at _ _ _ (by omega), hst]; congr 1; omega)
  have hi1 : (intsV m.starts)[i + 1]? = some (.int .i64 (m.base * 470 + ((pa : Int) + (r.length : Int)))) := intsV_at (by
    unfold JM.starts; rw [startsOf_at _ _ _ (by omega), hst, recsB_take_succ hr, List.length_append, recB_len]; congr 1; push_cast; omega)
  have hsa := h.starts
  rw [ea] at hsa
  rcases hsa with ⟨e0, _⟩ | ⟨ga, oa, ca', e0, _, _, _, _, _, hat⟩
  · injection e0 with _ e0; omega
  injection e0 with e1 ex e3
  subst e1 e3
  clear ex
  have hx0 := hat i _ hi0
  have hx1 := hat (i + 1) _ hi1
  rw [hpa] at st1 st2
  have hby : Bytes w (.slice (if cs = pa then q else Option.map (fun x => x.add pa) q) r.length (cs - pa)) r := by
    have h1 := Bytes.of_sub h.stream
    rw [ev] at h1
    have h2 := h1.sub pa r.length st2
    rwa [st1] at h2
  obtain ⟨sx, hsx⟩ : ∃ sx, (if cs = pa then q else Option.map (fun x => x.add pa) q) = sx := ⟨_, rfl⟩
  rw [hsx] at hby
  have hnext := jnext_at h n1 n2
  have c9 := h.cells.c9
  have e1 : decide (m.first + (i : Int) < m.first) = false := by simp; omega
  have e2 : decide (m.next ≤ m.first + (i : Int)) = false := by simp; omega
  have H := Lib.hid h
  have Hby := Lib.hid hby
  have Hx := Lib.hid (And.intro hx0 hx1)
  have Hev := Lib.hid ev
  have Hea := Lib.hid ea
  have f1 : m.first ≤ 1000000000000 := by omega
  have hii : (i : Int) ≤ 1000000000000 := by omega
  have es : m.first + (i : Int) - m.first = i := by omega
  have rl : r.length ≤ 100000000 := by omega
  have Hst2 := Lib.hid st2
  have Hil := Lib.hid hil
  clear h hr hnx hs2 ha2 st1 hpa hst hi0 hi1 hat hx0 hx1 hby ev ea n2
  go_enter Try.func37, Try.ntmps37
  go_upto_region 4 with (go_at_call 15; (with_reducible refine hnext.mono ?_); rintro _ w1 ⟨rfl, b1'⟩; clear hnext c9; have c9 : w1.cell? ⟨A.j, 9, none⟩ = some (.int .i64 m.first) := (H.out.below b1').cells.c9; have B1 := Lib.hid b1'; clear b1')
  clear c9 e1 e2
  have B2 : Hid (Below w.heap.size w w1.drew) := Lib.hid (B1.out.drew)
  have J2 := Lib.hid (H.out.below B2.out)
  refine wp_region_still_tail 33 (by kernel_rfl) (by kernel_rfl) ?_
  simp only [List.take_succ_cons, List.take_zero, List.drop_succ_cons, List.drop_zero]
  change wpStill _ _ w1.drew (fun a' => wpList _ _ _ _ a' w1.drew) _ _
  generalize w1.drew = w2 at B2 J2 ⊢
  have K2 := Keeps.of_below (S := fun _ => False) B2.out
  have x0 : w2.cell? ⟨ga, oa + i, none⟩ = some (.int .i64 (m.base * 470 + ((pa : Int) - 2))) := K2.cell Hx.out.1 (fun e => e)
  have x1 : w2.cell? ⟨ga, oa + (i + 1), none⟩ = some (.int .i64 (m.base * 470 + ((pa : Int) + (r.length : Int)))) := K2.cell Hx.out.2 (fun e => e)
  have c6 := J2.out.cells.c6
  have c8 := J2.out.cells.c8
  rw [Hev.out] at c6
  rw [Hea.out] at c8
  have c7 := J2.out.cells.c7
  have hcl := clone_len (Hby.out.below B2.out) (by omega)
  have z1 : m.base * 470 + ((pa : Int) - 2) + 2 - m.base * 470 = pa := by omega
  have z2 : m.base * 470 + ((pa : Int) + (r.length : Int)) - m.base * 470 = (pa : Int) + (r.length : Int) := by omega
  have z3 : (0 : Int) ≤ (pa : Int) := by omega
  have z4 : (pa : Int) ≤ (pa : Int) + (r.length : Int) := by omega
  have z5 : (pa : Int) + (r.length : Int) ≤ (cs : Int) := by have := Hst2.out; omega
  have z6 : ((pa : Int) + (r.length : Int)).toNat = pa + r.length := by omega
  have z7 : (i : Int) < ((m.recs.length + 1 : Nat) : Int) := by have := Hil.out; omega
  have z8 : (i : Int) + 1 < ((m.recs.length + 1 : Nat) : Int) := by have := Hil.out; omega
  clear K2
  have z9 : (i : Int) < (m.recs.length : Int) + 1 := by have := Hil.out; omega
  have z10 : (i : Int) + 1 < (m.recs.length : Int) + 1 := by have := Hil.out; omega
  have z11 : ((i : Int) + 1).toNat = i + 1 := by omega
  have ew1 : IntKind.i64.wrap (m.base * 470 + ((pa : Int) - 2) + 2) = m.base * 470 + (pa : Int) := by rw [IntKind.wrap_i64]; omega
  have ew2 : IntKind.i64.wrap (m.base * 470) = m.base * 470 := by rw [IntKind.wrap_i64]; omega
  have ew3 : IntKind.i64.wrap (m.base * 470 + (pa : Int) - m.base * 470) = (pa : Int) := by rw [IntKind.wrap_i64]; omega
  have ew4 : IntKind.i64.wrap ((i : Int) + 1) = (i : Int) + 1 := by rw [IntKind.wrap_i64]; omega
  have ew5 : IntKind.i64.wrap (m.base * 470 + ((pa : Int) + (r.length : Int)) - m.base * 470) = (pa : Int) + (r.length : Int) := by rw [IntKind.wrap_i64]; omega
  clear z1 z2
  have z12 : (i : Int) < (m.recs.length : Int) := by have := Hil.out; omega
  have z13 : (0 : Int) ≤ (i : Int) + 1 := by omega
  have z14 : i < m.recs.length := Hil.out
  repeat still_step
  refine wpStill_nil ?_
  go_wp2_with (go_at_call 55; (with_reducible refine hcl.mono ?_); rintro _ w3 ⟨q3, c3, rfl, s3, b3⟩; clear hcl)
  go_ret2
  exact ⟨q3, c3, rfl, s3.weaken B2.out.size, B2.out.trans (b3.mono B2.out.size)⟩
end
end Go.Proofs.Ytbaphjnglkocpaa
