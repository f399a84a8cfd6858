import Derived.Test.YtnficiohnhodiaaSlotA
/-
  Slots: read.
-/
namespace Go.Proofs.Ytnficiohnhodiaa
open Go.RowKit
def ReadPost (x : Int × List UInt8) (w : World) (e : Ending) (w' : World) : Prop := ∃ q c, e = .returned (.tuple #[.int .i64 x.1, .slice q x.2.length c, .nilIface]) ∧ SubRow w' w.heap.size (.slice q x.2.length c) (bytesV x.2) ∧ Below w.heap.size w w'
theorem ReadPost.none {x : Int × List UInt8} {w w' : World} {e : Ending} (hx : x = (0, [])) (he : e = .returned (.tuple #[.int .i64 0, .slice none 0 0, .nilIface])) (hb : Below w.heap.size w w') : ReadPost x w e w' := by
  subst hx; exact ⟨Option.none, 0, he, .inl ⟨rfl, rfl⟩, hb⟩
theorem read_down' {w0 w : World} {p mn ms mc n : Nat} {d : Dev} (h : DB w0 w p mn ms mc d n) (at_ which : Int) (h0 : 0 ≤ at_) (hw0 : 0 ≤ which) (hw1 : which ≤ 1) (h1 : at_ + which < d.size) (hdn : d.down = true) :
    Calls Try.prog 85 #[.pointer (some ⟨p, 0, none⟩), .int .i64 at_, .int .i64 which] w fun e w' => e = .returned (.tuple #[.int .i64 0, .slice none 0 0, errV 3]) ∧ w = w' := by
  have hr := read_down w p mn ms mc d h.lay (at_ + which) (by omega) h1 hdn
  rw [errV_pos (by decide)] at hr ⊢
  have := h.ok.z2
  have hb : at_ ≤ 4096 := by omega
  clear h hdn h1 this
  go_enter Try.func85, Try.ntmps85
  go_wp2_with (go_at_call 32; (with_reducible refine hr.mono ?_); rintro _ _ ⟨rfl, rfl⟩)
  go_ret3
  exact ⟨rfl, rfl⟩
theorem Unbox_none {w : World} {v : Value} {l : List UInt8} (h : Bytes w v l) (hu : unbox l = none) : Calls Try.prog 98 #[v] w fun e w' => e = .returned (.tuple #[.slice none 0 0, .iface 74 (.int .i64 4)]) ∧ Below w.heap.size w w' :=
  (Unbox_any h).mono fun _ _ ⟨h1, h2⟩ => by
    rcases h1 with ⟨_, h1⟩ | ⟨x, _, _, hx, _⟩
    · exact ⟨h1, h2⟩
    · rw [hu] at hx; cases hx
theorem Unbox_some {w : World} {v : Value} {l x : List UInt8} (h : Bytes w v l) (hu : unbox l = some x) : Calls Try.prog 98 #[v] w fun e w' => ∃ q c, e = .returned (.tuple #[.slice q x.length c, .nilIface]) ∧ SubRow w' w.heap.size (.slice q x.length c) (bytesV x) ∧ Below w.heap.size w w' :=
  (Unbox_any h).mono fun _ _ ⟨h1, h2⟩ => by
    rcases h1 with ⟨hn, _⟩ | ⟨y, q, c, hx, he, hs⟩
    · rw [hu] at hn; cases hn
    · rw [hu] at hx; cases hx; exact ⟨q, c, he, hs, h2⟩
theorem TakeRow_form {w : World} {v : Value} {l r rest : List UInt8} (h : Bytes w v l) (hl : l.length ≤ 1000000000000) (ht : takeRow l = some (r, rest)) :
    Calls Try.prog 100 #[v] w fun e w' => ∃ q1 c1 q2 c2, e = .returned (.tuple #[.slice q1 r.length c1, .slice q2 rest.length c2, .nilIface]) ∧ SubRow w' w.heap.size (.slice q1 r.length c1) (bytesV r) ∧ SubRow w' w.heap.size (.slice q2 rest.length c2) (bytesV rest) ∧ Below w.heap.size w w' :=
  (TakeRow_some h hl ht).mono fun _ _ ⟨v1, v2, h1, h2, h3, h4⟩ => by
    obtain ⟨q1, c1, rfl, _⟩ := h2.form
    obtain ⟨q2, c2, rfl, _⟩ := h3.form
    rw [bytesV_len] at h1 h2 h3
    rw [bytesV_len] at h1
    exact ⟨q1, c1, q2, c2, h1, h2, h3, h4⟩
set_option maxRecDepth 100000 in
set_option maxHeartbeats 1000000 in
theorem read_row {w0 w : World} {p mn ms mc n : Nat} {d : Dev} (h : DB w0 w p mn ms mc d n) (at_ which : Int) (h0 : 0 ≤ at_) (hw0 : 0 ≤ which) (hw1 : which ≤ 1) (h1 : at_ + which < d.size) (hdn : d.down = false) :
    Calls Try.prog 85 #[.pointer (some ⟨p, 0, none⟩), .int .i64 at_, .int .i64 which] w (ReadPost (slotRead (d.now (at_ + which)) which) w) := by
  have hr := read_db h (at_ + which) (by omega) h1 hdn
  have hsl := (h.ok.lens (at_ + which)).1
  have := h.ok.z2
  have hb : at_ ≤ 4096 := by omega
  generalize d.now (at_ + which) = sec at hr hsl ⊢
  have Hsl := Lib.hid hsl
  clear h hdn h1 this hsl
  cases hux : unbox sec with
  | none =>
    have Hx : Hid (slotRead sec which = (0, [])) := Lib.hid (slotRead_none hux which)
    have Hux := Lib.hid hux
    clear hux
    go_enter Try.func85, Try.ntmps85
    go_wp2_with (first
      | (go_at_call 32; (with_reducible refine hr.mono ?_); rintro _ w1 ⟨v1, rfl, s1, b1⟩; clear hr; have hu := Unbox_none (Bytes.of_sub s1) Hux.out; clear s1)
      | (go_at_call 98; (with_reducible refine hu.mono ?_); rintro _ w2 ⟨rfl, b2⟩; clear hu))
    go_ret3
    exact ReadPost.none Hx.out rfl (b1.trans (b2.mono b1.size))
  | some x =>
    have hxl := (unbox_some hux).1
    rw [Hsl.out] at hxl
    have Hxl : Hid (x.length ≤ 1000) := Lib.hid (by omega)
    have hsr : slotRead sec which = match takeN x with
      | none => (0, [])
      | some (n, k) => if n < 1 ∨ most62 < n ∨ n.tmod 2 ≠ which then (0, []) else
        match takeRow (x.drop k) with
        | none => (0, [])
        | some (r, rest) => if rest ≠ [] ∨ 480 < r.length then (0, []) else (n, r) := by unfold slotRead; rw [hux]; rfl
    have Hux := Lib.hid hux
    clear hux hxl
    cases htn : takeN x with
    | none =>
      have Hx : Hid (slotRead sec which = (0, [])) := Lib.hid (by rw [hsr, htn])
      have Htn := Lib.hid htn
      clear hsr htn
      go_enter Try.func85, Try.ntmps85
      go_wp2_with (first
        | (go_at_call 32; (with_reducible refine hr.mono ?_); rintro _ w1 ⟨v1, rfl, s1, b1⟩; clear hr; have hu := Unbox_some (Bytes.of_sub s1) Hux.out; clear s1)
        | (go_at_call 98; (with_reducible refine hu.mono ?_); rintro _ w2 ⟨q2, c2, rfl, s2, b2⟩; clear hu; have hb2 := b1.trans (b2.mono b1.size); have ht := Take_none (Bytes.of_sub s2) Htn.out; rw [errV_pos (by decide)] at ht; clear s2 b1 b2)
        | (go_at_call 99; (with_reducible refine ht.mono ?_); rintro _ _ ⟨rfl, rfl⟩; clear ht))
      go_ret3
      exact ReadPost.none Hx.out rfl hb2
    | some pr =>
      obtain ⟨n', k⟩ := pr
      rw [htn] at hsr
      simp only [] at hsr
      have Htn := Lib.hid htn
      clear htn
      by_cases hc : n' < 1 ∨ most62 < n' ∨ n'.tmod 2 ≠ which
      · have Hx : Hid (slotRead sec which = (0, [])) := Lib.hid (by rw [hsr, if_pos hc])
        clear hsr
        unfold most62 at hc
        by_cases hc1 : n' < 1
        · clear hc
          go_enter Try.func85, Try.ntmps85
          go_wp2_with (first
            | (go_at_call 32; (with_reducible refine hr.mono ?_); rintro _ w1 ⟨v1, rfl, s1, b1⟩; clear hr; have hu := Unbox_some (Bytes.of_sub s1) Hux.out; clear s1)
            | (go_at_call 98; (with_reducible refine hu.mono ?_); rintro _ w2 ⟨q2, c2, rfl, s2, b2⟩; clear hu; have hb2 := b1.trans (b2.mono b1.size); have ht := Take_some (Bytes.of_sub s2) (by have := Hxl.out; omega) Htn.out; clear s2 b1 b2)
            | (go_at_call 99; (with_reducible refine ht.mono ?_); rintro _ w3 ⟨v3, rfl, s3, b3⟩; clear ht; have hb3 := hb2.trans (b3.mono hb2.size); clear s3 hb2 b3))
          go_ret3
          exact ReadPost.none Hx.out rfl hb3
        · by_cases hc2 : (4611686018427387904 : Int) < n'
          · clear hc
            go_enter Try.func85, Try.ntmps85
            go_wp2_with (first
              | (go_at_call 32; (with_reducible refine hr.mono ?_); rintro _ w1 ⟨v1, rfl, s1, b1⟩; clear hr; have hu := Unbox_some (Bytes.of_sub s1) Hux.out; clear s1)
              | (go_at_call 98; (with_reducible refine hu.mono ?_); rintro _ w2 ⟨q2, c2, rfl, s2, b2⟩; clear hu; have hb2 := b1.trans (b2.mono b1.size); have ht := Take_some (Bytes.of_sub s2) (by have := Hxl.out; omega) Htn.out; clear s2 b1 b2)
              | (go_at_call 99; (with_reducible refine ht.mono ?_); rintro _ w3 ⟨v3, rfl, s3, b3⟩; clear ht; have hb3 := hb2.trans (b3.mono hb2.size); clear s3 hb2 b3))
            go_ret3
            exact ReadPost.none Hx.out rfl hb3
          · have hc3 : (n' % 2 != which) = true := by
              rw [Int.tmod_eq_emod_of_nonneg (by omega)] at hc
              simp; omega
            clear hc
            go_enter Try.func85, Try.ntmps85
            go_wp2_with (first
              | (go_at_call 32; (with_reducible refine hr.mono ?_); rintro _ w1 ⟨v1, rfl, s1, b1⟩; clear hr; have hu := Unbox_some (Bytes.of_sub s1) Hux.out; clear s1)
              | (go_at_call 98; (with_reducible refine hu.mono ?_); rintro _ w2 ⟨q2, c2, rfl, s2, b2⟩; clear hu; have hb2 := b1.trans (b2.mono b1.size); have ht := Take_some (Bytes.of_sub s2) (by have := Hxl.out; omega) Htn.out; clear s2 b1 b2)
              | (go_at_call 99; (with_reducible refine ht.mono ?_); rintro _ w3 ⟨v3, rfl, s3, b3⟩; clear ht; have hb3 := hb2.trans (b3.mono hb2.size); clear s3 hb2 b3))
            go_ret3
            exact ReadPost.none Hx.out rfl hb3
      · rw [if_neg hc] at hsr
        unfold most62 at hc
        have hc1 : ¬ n' < 1 := by omega
        have hc2 : ¬ (4611686018427387904 : Int) < n' := by omega
        have hc3 : (n' % 2 != which) = false := by
          rw [Int.tmod_eq_emod_of_nonneg (by omega)] at hc
          simp; omega
        clear hc
        have Hdl : Hid ((x.drop k).length ≤ 1000000) := Lib.hid (by rw [List.length_drop]; have := Hxl.out; omega)
        cases htr : takeRow (x.drop k) with
        | none =>
          have Hx : Hid (slotRead sec which = (0, [])) := Lib.hid (by rw [hsr, htr])
          have Htr := Lib.hid htr
          clear hsr htr
          go_enter Try.func85, Try.ntmps85
          go_wp2_with (first
            | (go_at_call 32; (with_reducible refine hr.mono ?_); rintro _ w1 ⟨v1, rfl, s1, b1⟩; clear hr; have hu := Unbox_some (Bytes.of_sub s1) Hux.out; clear s1)
            | (go_at_call 98; (with_reducible refine hu.mono ?_); rintro _ w2 ⟨q2, c2, rfl, s2, b2⟩; clear hu; have hb2 := b1.trans (b2.mono b1.size); have ht := Take_some (Bytes.of_sub s2) (by have := Hxl.out; omega) Htn.out; clear s2 b1 b2)
            | (go_at_call 99; (with_reducible refine ht.mono ?_); rintro _ w3 ⟨v3, rfl, s3, b3⟩; clear ht; have hb3 := hb2.trans (b3.mono hb2.size); have hrw := TakeRow_none (Bytes.of_sub s3) Htr.out; rw [errV_pos (by decide)] at hrw; clear s3 hb2 b3)
            | (go_at_call 100; (with_reducible refine hrw.mono ?_); rintro _ _ ⟨rfl, rfl⟩; clear hrw))
          go_ret3
          exact ReadPost.none Hx.out rfl hb3
        | some pr =>
          obtain ⟨r, rest⟩ := pr
          rw [htr] at hsr
          simp only [] at hsr
          have Htr := Lib.hid htr
          clear htr
          have Hrl : Hid (r.length ≤ 1000000 ∧ rest.length ≤ 1000000) := Lib.hid (by
            have h := Htr.out
            unfold takeRow at h
            split at h
            · cases h
            · split at h
              · cases h
              · cases h; have := Hdl.out; rw [List.length_drop] at this; exact ⟨by simp only [List.length_take, List.length_drop]; omega, by simp only [List.length_drop]; omega⟩)
          by_cases hc4 : rest ≠ [] ∨ 480 < r.length
          · have Hx : Hid (slotRead sec which = (0, [])) := Lib.hid (by rw [hsr, if_pos hc4])
            clear hsr
            by_cases hc5 : rest = []
            · have hc6 : (480 : Int) < (r.length : Int) := by have := hc4.resolve_left (fun h => h hc5); omega
              have hc7 : ((rest.length : Int) != 0) = false := by rw [hc5]; rfl
              clear hc4 hc5
              go_enter Try.func85, Try.ntmps85
              go_wp2_with (first
                | (go_at_call 32; (with_reducible refine hr.mono ?_); rintro _ w1 ⟨v1, rfl, s1, b1⟩; clear hr; have hu := Unbox_some (Bytes.of_sub s1) Hux.out; clear s1)
                | (go_at_call 98; (with_reducible refine hu.mono ?_); rintro _ w2 ⟨q2, c2, rfl, s2, b2⟩; clear hu; have hb2 := b1.trans (b2.mono b1.size); have ht := Take_some (Bytes.of_sub s2) (by have := Hxl.out; omega) Htn.out; clear s2 b1 b2)
                | (go_at_call 99; (with_reducible refine ht.mono ?_); rintro _ w3 ⟨v3, rfl, s3, b3⟩; clear ht; have hb3 := hb2.trans (b3.mono hb2.size); have hrw := TakeRow_form (Bytes.of_sub s3) (by have := Hdl.out; omega) Htr.out; clear s3 hb2 b3)
                | (go_at_call 100; (with_reducible refine hrw.mono ?_); rintro _ w4 ⟨q4, c4, q5, c5, rfl, s4, s5, b4⟩; clear hrw; have hb4 := hb3.trans (b4.mono hb3.size); clear b4))
              go_ret3
              exact ReadPost.none Hx.out rfl hb4
            · have hc7 : ((rest.length : Int) != 0) = true := by
                have : rest.length ≠ 0 := fun e => hc5 (List.eq_nil_of_length_eq_zero e)
                simp; exact hc5
              clear hc4 hc5
              go_enter Try.func85, Try.ntmps85
              go_wp2_with (first
                | (go_at_call 32; (with_reducible refine hr.mono ?_); rintro _ w1 ⟨v1, rfl, s1, b1⟩; clear hr; have hu := Unbox_some (Bytes.of_sub s1) Hux.out; clear s1)
                | (go_at_call 98; (with_reducible refine hu.mono ?_); rintro _ w2 ⟨q2, c2, rfl, s2, b2⟩; clear hu; have hb2 := b1.trans (b2.mono b1.size); have ht := Take_some (Bytes.of_sub s2) (by have := Hxl.out; omega) Htn.out; clear s2 b1 b2)
                | (go_at_call 99; (with_reducible refine ht.mono ?_); rintro _ w3 ⟨v3, rfl, s3, b3⟩; clear ht; have hb3 := hb2.trans (b3.mono hb2.size); have hrw := TakeRow_form (Bytes.of_sub s3) (by have := Hdl.out; omega) Htr.out; clear s3 hb2 b3)
                | (go_at_call 100; (with_reducible refine hrw.mono ?_); rintro _ w4 ⟨q4, c4, q5, c5, rfl, s4, s5, b4⟩; clear hrw; have hb4 := hb3.trans (b4.mono hb3.size); clear b4))
              go_ret3
              exact ReadPost.none Hx.out rfl hb4
          · have Hx : Hid (slotRead sec which = (n', r)) := Lib.hid (by rw [hsr, if_neg hc4])
            have hc6 : ¬ (480 : Int) < (r.length : Int) := by omega
            have hc7 : ((rest.length : Int) != 0) = false := by
              have : rest = [] := by
                apply Classical.byContradiction
                intro h; exact hc4 (.inl h)
              rw [this]; rfl
            clear hsr hc4
            go_enter Try.func85, Try.ntmps85
            go_wp2_with (first
              | (go_at_call 32; (with_reducible refine hr.mono ?_); rintro _ w1 ⟨v1, rfl, s1, b1⟩; clear hr; have hu := Unbox_some (Bytes.of_sub s1) Hux.out; clear s1)
              | (go_at_call 98; (with_reducible refine hu.mono ?_); rintro _ w2 ⟨q2, c2, rfl, s2, b2⟩; clear hu; have hb2 := b1.trans (b2.mono b1.size); have ht := Take_some (Bytes.of_sub s2) (by have := Hxl.out; omega) Htn.out; clear s2 b1 b2)
              | (go_at_call 99; (with_reducible refine ht.mono ?_); rintro _ w3 ⟨v3, rfl, s3, b3⟩; clear ht; have hb3 := hb2.trans (b3.mono hb2.size); have hrw := TakeRow_form (Bytes.of_sub s3) (by have := Hdl.out; omega) Htr.out; clear s3 hb2 b3)
              | (go_at_call 100; (with_reducible refine hrw.mono ?_); rintro _ w4 ⟨q4, c4, q5, c5, rfl, s4, s5, b4⟩; clear hrw; have hb4 := hb3.trans (b4.mono hb3.size); clear b4))
            go_ret3
            rw [Hx.out]
            exact ⟨q4, c4, rfl, s4.weaken hb3.size, hb4⟩
end Go.Proofs.Ytnficiohnhodiaa
