import Derived.Test.YtbaphjnglkocpaaOwnB
/-
  Apart: three lists, each a row of its own, are marked, grown, and looked at.
-/
namespace Go.Proofs.Ytbaphjnglkocpaa
open Go.RowKit
def mk (i j : Nat) : UInt8 := UInt8.ofNat (31 * i + 7 * j + 1)
theorem mk_v (i j : Nat) : byteV (mk i j) = .int .u8 (IntKind.u8.wrap (31 * (i : Int) + 7 * (j : Int) + 1)) := by
  have h : IntKind.u8.wrap (31 * (i : Int) + 7 * (j : Int) + 1) = (31 * (i : Int) + 7 * (j : Int) + 1) % 256 := rfl
  rw [h]
  unfold byteV mk
  rw [UInt8.toNat_ofNat']
  congr 1
def mark (i n : Nat) : List UInt8 := (List.range n).map (mk i)
theorem mark_len (i n : Nat) : (mark i n).length = n := by unfold mark; simp
theorem mark_succ (i n : Nat) : mark i (n + 1) = mark i n ++ [mk i n] := by unfold mark; rw [List.range_succ, List.map_append]; rfl
theorem mark_at (i n j : Nat) (h : j < n) : (mark i n)[j]? = some (mk i j) := by unfold mark; simp [h]
theorem mark_add (i n : Nat) : ∀ t, ∃ r, mark i (n + t) = mark i n ++ r
  | 0 => ⟨[], by simp⟩
  | t + 1 => by obtain ⟨r, hr⟩ := mark_add i n t; exact ⟨r ++ [mk i (n + t)], by rw [← Nat.add_assoc, mark_succ, hr, List.append_assoc]⟩
theorem mark_set (i n m : Nat) (l : List UInt8) (hl : l.length = n) (h : m < n) : (mark i m ++ l.drop m).set m (mk i m) = mark i (m + 1) ++ l.drop (m + 1) := by
  rw [List.set_append_right _ _ (by rw [mark_len]; exact Nat.le_refl _), mark_len, Nat.sub_self, mark_succ, List.append_assoc]
  congr 1
  rw [List.drop_eq_getElem_cons (by omega), List.set_cons_zero]
  rfl
/-- a row's beginning, under a shorter slice -/
theorem Bytes.front {w : World} {B : Nat} {v u : Value} {l r : List UInt8} {q : Option Addr} {c : Nat} (hv : v = .slice q l.length c) (hc : l.length ≤ c) (hc2 : c ≤ maxLen) (hs : sameBase v u) (h : SubRow w B u (bytesV (l ++ r))) : Bytes w v l := by
  obtain ⟨a, n, c1, n', c', e1, e2⟩ := hs
  rw [hv] at e1
  injection e1 with e1 _ _
  have hb := Bytes.of_sub h
  obtain ⟨q2, c2, e3, _, _, h3⟩ := hb
  rw [e2] at e3
  injection e3 with e3 _ _
  refine ⟨q, c, hv, hc, hc2, fun j b hj => ?_⟩
  obtain ⟨a2, ha2, hcell⟩ := h3 j b (by rw [List.getElem?_append_left (List.getElem?_eq_some_iff.1 hj).1]; exact hj)
  exact ⟨a2, by rw [e1, e3]; exact ha2, hcell⟩
section
variable (n : Nat) (g o c : Nat → Nat)
def rv (i : Nat) : Value := .slice (some ⟨g i, o i, none⟩) n (c i)
structure Rw (w : World) (B Lb : Nat) (cont : Nat → List UInt8) : Prop where
  list : w.heap[Lb]? = some (.cells #[rv n g o c 0, rv n g o c 1, rv n g o c 2] 39 (0, 0))
  row : ∀ i, i < 3 → SubRow w B (rv n g o c i) (bytesV (cont i))
  len : ∀ i, i < 3 → (cont i).length = n
variable {n g o c}
theorem three_at {w : World} {Lb : Nat} (h : w.heap[Lb]? = some (.cells #[rv n g o c 0, rv n g o c 1, rv n g o c 2] 39 (0, 0))) {i : Nat} (hi : i < 3) : w.cell? ⟨Lb, i, none⟩ = some (.slice (some ⟨g i, o i, none⟩) n (c i)) := by
  refine cell_in (o := i) h ?_
  match i, hi with
  | 0, _ => rfl
  | 1, _ => rfl
  | 2, _ => rfl
theorem Rw.set {w : World} {B Lb : Nat} {cont : Nat → List UInt8} (h : Rw n g o c w B Lb cont) (hd : ∀ i j, i < 3 → j < 3 → i ≠ j → g i ≠ g j) (hl : ∀ i, i < 3 → g i ≠ Lb) {k m : Nat} (hk : k < 3) (hm : m < n) (x : UInt8) {v : Value} (hv : byteV x = v) {cont' : Nat → List UInt8} (hc : ∀ i, i < 3 → cont' i = if i = k then (cont k).set m x else cont i) :
    Rw n g o c (w.setCell ⟨g k, o k + m, none⟩ v) B Lb cont' := by
  subst hv
  have hK : Keeps (· = g k) w (w.setCell ⟨g k, o k + m, none⟩ (byteV x)) := Keeps.cellAt (S := (· = g k)) rfl _
  refine ⟨hK.at h.list (fun e => hl k hk e.symm), fun i hi => ?_, fun i hi => ?_⟩
  · rw [hc i hi]
    split
    · rename_i e; subst e
      rw [← bytesV_set]
      exact (h.row i hi).set m (by rw [bytesV_len, h.len i hi]; exact hm) _
    · rename_i e
      exact (h.row i hi).block_keeps hK (fun b hb e' => hd i k hi hk e (by cases hb; exact e'))
  · rw [hc i hi]; split
    · rw [List.length_set]; exact h.len k hk
    · exact h.len i hi
end
theorem src_one' {P : Program} {w : World} {t e : TypeId} (ht : P.underlying t = some (.slice e)) (x : Value) (hx : x.oneCell' = true) (T : TypeId) : Src P 1 t (.slice (some ⟨w.heap.size, 0, none⟩) 1 1) [x].length [x] (w.alloc (.cells #[x] T)) := by
  refine Src.ofSlice _ ht ⟨w.heap.size, 0, none⟩ 1 1 _ (by simp) (fun j u hu => ?_) (fun u hu => by simp at hu; subst hu; exact hx)
  cases j with
  | zero => simp at hu; subst hu; exact cell_in (heap_alloc_new w _) rfl
  | succ j => simp at hu
theorem info24 : (Try.prog.info? 39).map (fun i => (i.zero, i.size, i.bytes)) = some (some (.slice none 0 0), 1, 24) := by kernel_rfl
theorem Bytes.cells {w : World} {v : Value} {l : List UInt8} (h : Bytes w v l) (hl : 1 ≤ l.length) : ∃ b off cap, v = .slice (some ⟨b, off, none⟩) l.length cap ∧ ∀ j x, l[j]? = some x → w.cell? ⟨b, off + j, none⟩ = some (byteV x) := by
  obtain ⟨q, cap, rfl, _, _, h3⟩ := h
  obtain ⟨a, rfl, hc⟩ := h3 0 (l[0]'(by omega)) (List.getElem?_eq_getElem (by omega))
  rw [show a.add 0 = a from by simp [Addr.add]] at hc
  have hsp : a.spot = none := by
    unfold World.cell? at hc
    split at hc
    · split at hc
      · cases hc
      · rename_i hs; simpa using hs
    · cases hc
  obtain ⟨b, off, sp⟩ := a
  cases hsp
  refine ⟨b, off, cap, rfl, fun j x hx => ?_⟩
  obtain ⟨a2, e, hc2⟩ := h3 j x hx
  cases e
  have ha : (⟨b, off, none⟩ : Addr).add j = ⟨b, off + j, none⟩ := by unfold Addr.add; split <;> simp_all
  rwa [ha] at hc2
section
variable (n : Nat) (g o c : Nat → Nat)
/-- k lists are grown: what was there still reads, each on its own -/
structure Gr (w wr : World) (B Lb : Nat) (k : Nat) (G : Value) (us : List Value) : Prop where
  list : wr.heap[Lb]? = some (.cells #[rv n g o c 0, rv n g o c 1, rv n g o c 2] 39 (0, 0))
  old : ∀ i, i < 3 → Bytes wr (rv n g o c i) (mark i n)
  row : ∀ i, k ≤ i → i < 3 → SubRow wr B (rv n g o c i) (bytesV (mark i n))
  grown : SubRow wr w.heap.size G us
  ulen : us.length = k
  new : ∀ i u, us[i]? = some u → (∃ q cap, u = .slice q (n + 12) cap) ∧ Bytes wr u (mark i (n + 12)) ∧ ∀ b, u.ownBlock = some b → b < wr.heap.size ∧ (b = g i ∨ w.heap.size ≤ b) ∧ G.ownBlock ≠ some b
  keep : Keeps (fun x => ∃ i, i < 3 ∧ x = g i) w wr
variable {n g o c}
/-- one list more -/
theorem Gr.next {w wo wr w2 : World} {B Lb k : Nat} {G G' u : Value} {us : List Value} (h : Gr n g o c w wo B Lb k G us) (hk : k < 3) (hd : ∀ i j, i < 3 → j < 3 → i ≠ j → g i ≠ g j) (hgl : ∀ i, i < 3 → g i < w.heap.size) (hl : ∀ i, i < 3 → g i ≠ Lb) (hlb : Lb < w.heap.size)
    (hK : Keeps (· = g k) wo wr) (hu : SubRow wr B u (bytesV (mark k (n + 12)))) (hold : Bytes wr (rv n g o c k) (mark k n)) (hub : ∀ b, u.ownBlock = some b → b = g k ∨ wo.heap.size ≤ b)
    (hK2 : Keeps (fun x => G.ownBlock = some x) wr w2) (hG : SubRow w2 w.heap.size G' (us ++ [u])) (hGo : G'.ownBlock = G.ownBlock ∨ ∃ b, G'.ownBlock = some b ∧ wr.heap.size ≤ b) : Gr n g o c w w2 B Lb (k + 1) G' (us ++ [u]) := by
  have hwo := h.keep.size
  have hwr := hK.size
  have hG0 : ∀ b, G.ownBlock = some b → w.heap.size ≤ b ∧ b < wo.heap.size := fun b hb => h.grown.lt b hb
  have hg : ∀ i, i < 3 → ¬ G.ownBlock = some (g i) := fun i hi e => by have := (hG0 _ e).1; have := hgl i hi; omega
  refine ⟨?_, fun i hi => ?_, fun i hki hi => ?_, hG, by rw [List.length_append, h.ulen]; rfl, fun i x hx => ?_, ?_⟩
  · exact hK2.at (hK.at h.list (fun e => hl k hk e.symm)) (fun e => by have := (hG0 _ e).1; omega)
  · by_cases e : i = k
    · subst e
      exact hold.keeps hK2 (fun b hb hb2 => hg i hi (by cases hb; exact hb2))
    · exact ((h.old i hi).keeps hK (fun b hb e' => hd i k hi hk e (by cases hb; exact e'))).keeps hK2 (fun b hb hb2 => hg i hi (by cases hb; exact hb2))
  · have e : i ≠ k := by omega
    exact ((h.row i (by omega) hi).block_keeps hK (fun b hb e' => hd i k hi hk e (by cases hb; exact e'))).block_keeps hK2 (fun b hb hb2 => hg i hi (by cases hb; exact hb2))
  · by_cases e : i < us.length
    · rw [List.getElem?_append_left e] at hx
      have hik : i < k := by rw [← h.ulen]; exact e
      obtain ⟨h1, h2, h3⟩ := h.new i x hx
      refine ⟨h1, (h2.keeps hK (fun b hb e' => ?_)).keeps hK2 (fun b hb hb2 => (h3 b hb).2.2 hb2), fun b hb => ?_⟩
      · have h4 : b = g k := e'
        rcases (h3 b hb).2.1 with h5 | h5
        · exact hd i k (by omega) hk (by omega) (h5.symm.trans h4)
        · have := hgl k hk; omega
      · obtain ⟨h4, h5, h6⟩ := h3 b hb
        have hsz := hK2.size
        refine ⟨by omega, h5, fun e' => ?_⟩
        rcases hGo with h7 | ⟨b2, h7, h8⟩
        · exact h6 (h7 ▸ e')
        · rw [h7] at e'; have := Option.some.inj e'; omega
    · have hi : i = us.length := by have := (List.getElem?_eq_some_iff.1 hx).1; simp at this; omega
      subst hi
      rw [List.getElem?_append_right (Nat.le_refl _), Nat.sub_self] at hx
      cases hx
      have hik : us.length = k := h.ulen
      subst hik
      have hub2 := Bytes.of_sub hu
      obtain ⟨q, cap, e1, _⟩ := hu.form
      rw [bytesV_len, mark_len] at e1
      have hsz := hK2.size
      have hnb : ∀ b, u.ownBlock = some b → G.ownBlock ≠ some b := fun b hb e' => by
        rcases hub b hb with h1 | h1
        · exact hg _ hk (h1 ▸ e')
        · have := (hG0 b e').2; omega
      refine ⟨⟨q, cap, e1⟩, hub2.keeps hK2 (fun b hb hb2 => hnb b hb hb2), fun b hb => ?_⟩
      have hb1 := (hu.lt b hb).2
      refine ⟨by omega, ?_, fun e' => ?_⟩
      · rcases hub b hb with h1 | h1
        · exact .inl h1
        · right; omega
      · rcases hGo with h7 | ⟨b2, h7, h8⟩
        · exact hnb b hb (h7 ▸ e')
        · rw [h7] at e'; have := Option.some.inj e'; omega
  · refine (h.keep.trans (hK.mono (fun _ _ e => ⟨k, hk, e⟩))).trans' hK2 (fun i hi e => ?_)
    have := (hG0 _ e).1; omega
end
theorem below_drewN {B : Nat} {a b : World} (h : Below B a b) (n : Nat) : Below B a (b.drewN n) := ⟨h.os, h.tape, h.output, h.size, h.block⟩
def lenOf : Value → Nat
  | .slice _ m _ => m
  | _ => 0
section
variable {n B Lb : Nat} {g o c : Nat → Nat} {w : World} {cont : Nat → List UInt8}
set_option maxRecDepth 100000 in
set_option maxHeartbeats 4000000 in
theorem apart_any (h : Rw n g o c w B Lb cont) (hd : ∀ i j, i < 3 → j < 3 → i ≠ j → g i ≠ g j) (hl : ∀ i, i < 3 → g i ≠ Lb) (hn : n ≤ 100000) (hn1 : 1 ≤ n) :
    Calls Try.prog 25 #[.slice (some ⟨Lb, 0, none⟩) 3 3] w fun e w' => e = .returned (.bool true) ∧ Keeps (fun x => ∃ i, i < 3 ∧ x = g i) w w' := by
  have H := Lib.hid h
  have Hrow0 := Lib.hid h.row
  have Hlist0 := Lib.hid h.list
  have Hd := Lib.hid hd
  have Hl := Lib.hid hl
  clear h hd hl
  go_enter Try.func25, Try.ntmps25
  go_wp2
  go_loopw [15] (fun t wr => ∃ k : Nat, t = .int .i64 k ∧ k ≤ 3 ∧ Rw n g o c wr B Lb (fun i => if i < k then mark i n else cont i) ∧ Keeps (fun x => ∃ i, i < 3 ∧ x = g i) w wr) (fun t _ => 3 - (intOf t).toNat)
  case atStart => exact ⟨0, rfl, by omega, by simpa using H.out, Keeps.refl _ _⟩
  case round =>
    clear H
    obtain ⟨k, rfl, hk, hR, hK⟩ := hrel
    have HR := Lib.hid hR
    have HK := Lib.hid hK
    clear hR hK
    by_cases hlt : k < 3
    · have e0 : decide ((k : Int) < 3) = true := by simp; omega
      have hc := three_at HR.out.list hlt
      go_wp2
      have Ho : Hid (Rw n g o c wr B Lb (fun i => if i < k then mark i n else if i = k then mark k 0 ++ ((fun i => if i < k then mark i n else cont i) k).drop 0 else (fun i => if i < k then mark i n else cont i) i)) := Lib.hid (by
        have h1 := HR.out
        refine ⟨h1.list, fun i hi => ?_, fun i hi => ?_⟩
        · have := h1.row i hi
          by_cases e1 : i < k
          · simp only [e1, if_true] at this ⊢; exact this
          · by_cases e2 : i = k
            · subst e2; simp only [Nat.lt_irrefl, if_false, if_true] at this ⊢; simpa [mark] using this
            · simp only [e1, e2, if_false] at this ⊢; exact this
        · have := h1.len i hi
          by_cases e1 : i < k
          · simp only [e1, if_true] at this ⊢; exact this
          · by_cases e2 : i = k
            · subst e2; simp only [Nat.lt_irrefl, if_false, if_true] at this ⊢; simpa [mark] using this
            · simp only [e1, e2, if_false] at this ⊢; exact this)
      have HKo := Lib.hid HK.out
      have Hck : Hid ((if k < k then mark k n else cont k).length = n) := Lib.hid (HR.out.len k hlt)
      clear HR HK hc
      generalize wr = wo at Ho HKo ⊢
      go_loopw [22] (fun t wr => ∃ m : Nat, t = .int .i64 m ∧ m ≤ n ∧ Rw n g o c wr B Lb (fun i => if i < k then mark i n else if i = k then mark k m ++ ((fun i => if i < k then mark i n else cont i) k).drop m else (fun i => if i < k then mark i n else cont i) i) ∧ Keeps (fun x => ∃ i, i < 3 ∧ x = g i) w wr) (fun t _ => n - (intOf t).toNat)
      case atStart => exact ⟨0, rfl, Nat.zero_le _, Ho.out, HKo.out⟩
      case round =>
        clear Ho HKo
        obtain ⟨m, rfl, hm, hR, hK⟩ := hrel
        have HR := Lib.hid hR
        have HK := Lib.hid hK
        clear hR hK
        by_cases hlm : m < n
        · have e1 : decide ((m : Int) < (n : Int)) = true := by simp; omega
          obtain ⟨x, hx⟩ : ∃ x, ((fun i => if i < k then mark i n else if i = k then mark k m ++ ((fun i => if i < k then mark i n else cont i) k).drop m else (fun i => if i < k then mark i n else cont i) i) k)[m]? = some x := ⟨_, List.getElem?_eq_getElem (by rw [HR.out.len k hlt]; exact hlm)⟩
          obtain ⟨c1, f1⟩ := (HR.out.row k hlt).cellAt (bytesV_get hx)
          have c2 : wr.cell? ⟨g k, o k + m, none⟩ = some (byteV x) := c1
          have hkm : (k : Int) < 3 := by omega
          clear hx c1
          generalize byteV x = vx at c2
          have HR2 : Hid (Rw n g o c (wr.setCell ⟨g k, o k + m, none⟩ (.int .u8 (IntKind.u8.wrap (31 * (k : Int) + 7 * (m : Int) + 1)))) B Lb (fun i => if i < k then mark i n else if i = k then mark k (m + 1) ++ ((fun i => if i < k then mark i n else cont i) k).drop (m + 1) else (fun i => if i < k then mark i n else cont i) i)) := Lib.hid (by
            refine HR.out.set Hd.out Hl.out hlt hlm (mk k m) (mk_v k m) fun i hi => ?_
            by_cases e2 : i = k
            · subst e2
              simp only [Nat.lt_irrefl, if_false, if_true]
              rw [mark_set i n m _ (by have := Hck.out; simpa using this) hlm]
            · by_cases e3 : i < k
              · simp [e2, e3]
              · simp [e2, e3])
          have HK2 : Hid (Keeps (fun x => ∃ i, i < 3 ∧ x = g i) w (wr.setCell ⟨g k, o k + m, none⟩ (.int .u8 (IntKind.u8.wrap (31 * (k : Int) + 7 * (m : Int) + 1))))) := Lib.hid (HK.out.trans (Keeps.cellAt (S := fun x => ∃ i, i < 3 ∧ x = g i) ⟨k, hlt, rfl⟩ _))
          clear HR HK
          go_wp2
          go_roundw
          case rel => exact ⟨m + 1, by go_num, by omega, HR2.out, HK2.out⟩
          case measure => simp [intOf]; omega
        · obtain rfl : m = n := by omega
          have e1 : decide ((m : Int) < (m : Int)) = false := by simp
          go_wp2
          go_roundw
          case rel =>
            refine ⟨k + 1, by go_num, by omega, ?_, HK.out⟩
            have h1 := HR.out
            have hz : ((fun i => if i < k then mark i m else cont i) k).drop m = [] := List.drop_of_length_le (by have := Hck.out; simp at this ⊢; omega)
            rw [hz, List.append_nil] at h1
            refine ⟨h1.list, fun i hi => ?_, fun i hi => ?_⟩
            · have := h1.row i hi
              by_cases e2 : i = k
              · subst e2; simpa using this
              · by_cases e3 : i < k
                · have e4 : i < k + 1 := by omega
                  simpa [e2, e3, e4] using this
                · have e4 : ¬ i < k + 1 := by omega
                  simpa [e2, e3, e4] using this
            · have := h1.len i hi
              by_cases e2 : i = k
              · subst e2; simpa using this
              · by_cases e3 : i < k
                · have e4 : i < k + 1 := by omega
                  simpa [e2, e3, e4] using this
                · have e4 : ¬ i < k + 1 := by omega
                  simpa [e2, e3, e4] using this
          case measure => simp [intOf]; omega
    · obtain rfl : k = 3 := by omega
      rw [show ((3 : Nat) : Int) = 3 from rfl]
      obtain ⟨i8, hi8, hz8, hz81, hz82⟩ := info_parts info8
      obtain ⟨i24, hi24, hz24, hz241, hz242⟩ := info_parts info24
      have Hg : Hid (∀ i, i < 3 → g i < w.heap.size) := Lib.hid (fun i hi => by
        have := (Hrow0.out i hi).lt (g i) rfl; exact this.2)
      have Hlb : Hid (Lb < w.heap.size) := Lib.hid (lt_of Hlist0.out)
      have Hm3 : Hid (Rw n g o c wr B Lb (fun i => mark i n)) := Lib.hid (by
        have h1 := HR.out
        exact ⟨h1.list, fun i hi => by have := h1.row i hi; simpa [hi] using this, fun i hi => by have := h1.len i hi; simpa [hi] using this⟩)
      have HG : Hid (Gr n g o c w (wr.alloc (.cells #[] 39)) B Lb 0 (.slice (some ⟨wr.heap.size, 0, none⟩) 0 0) []) := Lib.hid (by
        have hb := (Below.refl wr.heap.size wr).alloc (Nat.le_refl _) (.cells #[] 39)
        have h1 := HR.out
        exact ⟨(Keeps.of_below (S := fun _ => False) hb).at Hm3.out.list (fun e => e), fun i hi => (Bytes.of_sub (Hm3.out.row i hi)).below hb, fun i _ hi => (Hm3.out.row i hi).below hb,
          .inr ⟨wr.heap.size, 0, 0, rfl, HK.out.size, by simp, Nat.le_refl _, Nat.zero_le _, fun j hj => by omega, fun j u hu => by simp at hu⟩, rfl, fun i u hu => by simp at hu, HK.out.trans (Keeps.of_below hb)⟩)
      clear HR HK Hm3
      have HB : Hid (B ≤ w.heap.size) := Lib.hid (by have h1 := (Hrow0.out 0 (by omega)).lt (g 0) rfl; omega)
      go_wp2
      go_loopw [6, 40] (fun G t wr2 => ∃ (k : Nat) (us : List Value), t = .int .i64 k ∧ k ≤ 3 ∧ Gr n g o c w wr2 B Lb k G us) (fun _ t _ => 3 - (intOf t).toNat)
      case atStart => exact ⟨0, [], rfl, by omega, HG.out⟩
      case round =>
        clear HG
        obtain ⟨k, us, rfl, hk3, hG⟩ := hrel
        have HG := Lib.hid hG
        clear hG
        by_cases hlt : k < 3
        · have e0 : decide ((k : Int) < 3) = true := by simp; omega
          have hc := three_at HG.out.list hlt
          go_wp2
          have Hst : Hid (SubRow wr B (.slice (some ⟨g k, o k, none⟩) n (c k)) (bytesV (mark k n))) := Lib.hid (HG.out.row k (Nat.le_refl _) hlt)
          have Hol : Hid (Bytes wr (rv n g o c k) (mark k n)) := Lib.hid (HG.out.old k hlt)
          have HKs : Hid (∀ i, i < 3 → g i < wr.heap.size) := Lib.hid (fun i hi => by have h1 := Hg.out i hi; have h2 := HG.out.keep.size; omega)
          have HBw : Hid (B ≤ wr.heap.size ∧ w.heap.size ≤ wr.heap.size) := Lib.hid (by have h1 := HB.out; have h2 := HG.out.keep.size; omega)
          have Hcap : Hid (n ≤ c k ∧ c k ≤ maxLen) := Lib.hid (by
            obtain ⟨_, _, e, h1, h2⟩ := (HG.out.row k (Nat.le_refl _) hlt).form
            rw [bytesV_len, mark_len] at e h1
            unfold rv at e
            injection e with _ _ e
            omega)
          clear hc
          generalize wr = wo at HG Hst Hol HKs HBw ⊢
          go_loopw [8] (fun u wr => ∃ (L : Nat) (q : Option Addr) (cp : Nat), u = .slice q L cp ∧ n ≤ L ∧ L ≤ n + 12 ∧ SubRow wr B (.slice q L cp) (bytesV (mark k L)) ∧ Bytes wr (rv n g o c k) (mark k n) ∧ Keeps (· = g k) wo wr ∧ (sameBase (rv n g o c k) (.slice q L cp) ∨ ∃ b, (Value.slice q L cp).ownBlock = some b ∧ wo.heap.size ≤ b)) (fun u _ => n + 12 - lenOf u)
          case atStart => exact ⟨_, _, _, rfl, Nat.le_refl _, by omega, Hst.out, Hol.out, Keeps.refl _ _, .inl ⟨_, _, _, _, _, rfl, rfl⟩⟩
          case round =>
            clear Hst Hol
            obtain ⟨L, q, cp, rfl, hL0, hL1, hS, hO, hK, hs⟩ := hrel
            have HS := Lib.hid hS
            have HO := Lib.hid hO
            have HK := Lib.hid hK
            have Hs := Lib.hid hs
            clear hS hO hK hs
            by_cases h12 : L < n + 12
            · have e1 : decide ((L : Int) < (n : Int) + 12) = true := by simp; omega
              have hL2 : L ≤ 100012 := by omega
              have hkm : (k : Int) < 3 := by omega
              have hsub := HS.out.below ((Below.refl wr.heap.size wr).alloc (Nat.le_refl _) (.cells #[.int .u8 (IntKind.u8.wrap (31 * (k : Int) + 7 * (L : Int) + 1))] 5))
              have hsrc := src_one' (P := Try.prog) (w := wr) Try.underlying39 (.int .u8 (IntKind.u8.wrap (31 * (k : Int) + 7 * (L : Int) + 1))) rfl 5
              have hBw : B ≤ (wr.alloc (.cells #[.int .u8 (IntKind.u8.wrap (31 * (k : Int) + 7 * (L : Int) + 1))] 5)).heap.size := by have h1 := HBw.out.1; have h2 := HK.out.size; simp; omega
              have HM : Hid (bytesV (mark k L) ++ [Value.int .u8 (IntKind.u8.wrap (31 * (k : Int) + 7 * (L : Int) + 1))] = bytesV (mark k (L + 1))) := Lib.hid (by rw [mark_succ]; unfold bytesV; rw [List.map_append, List.map_singleton, mk_v])
              go_wp2_with (at_builtin; refine wpList_append_own2 _ rfl _ _ 39 rfl 5 i8 (.int .u8 0) 1 Try.underlying39 hi8 hz8 hz81 hz82 rfl B _ _ rfl hsub _ rfl _ hsrc (by rw [bytesV_len, mark_len]; simp; unfold maxLen; omega) (by rw [bytesV_len, mark_len]; simp; omega) hBw ?_; intro v1 w1 s1 s0 k1 sb; rw [HM.out] at s1; (obtain ⟨q1, cp1, ev, hc1, hc2⟩ := s1.form); rw [bytesV_len, mark_len] at ev; subst ev; have HS1 := Lib.hid s1; have HS0 := Lib.hid s0; have HK1 := Lib.hid k1; have Hsb := Lib.hid sb; clear hsub hsrc s1 s0 k1 sb hc1 hc2)
              go_roundw
              case measure => simp [lenOf]; omega
              case rel =>
                have hsz := HK.out.size
                have hal : Below wr.heap.size wr (wr.alloc (.cells #[.int .u8 (IntKind.u8.wrap (31 * (k : Int) + 7 * (L : Int) + 1))] 5)) := (Below.refl _ _).alloc (Nat.le_refl _) _
                have hgk := HKs.out k hlt
                refine ⟨L + 1, q1, cp1, rfl, by omega, by omega, HS1.out, ?_, ?_, ?_⟩
                · rcases Hs.out with h1 | ⟨b, h1, h2⟩
                  · obtain ⟨r, hr⟩ := mark_add k n (L - n)
                    have hs0 := HS0.out
                    rw [show n + (L - n) = L from by omega] at hr
                    rw [hr] at hs0
                    exact Bytes.front (q := some ⟨g k, o k, none⟩) (c := c k) (by unfold rv; rw [mark_len]) (by rw [mark_len]; exact Hcap.out.1) Hcap.out.2 h1 hs0
                  · refine (HO.out.below hal).keeps HK1.out (fun b2 hb2 e => ?_)
                    have e2 : b = b2 := Option.some.inj (h1.symm.trans e)
                    have e3 : g k = b2 := Option.some.inj hb2
                    omega
                · refine (HK.out.trans (Keeps.of_below hal)).trans' HK1.out (fun i hi e => ?_)
                  rcases Hs.out with h1 | ⟨b, h1, h2⟩
                  · have := h1.own.trans e; cases this; rfl
                  · have e2 : (some b : Option Nat) = some i := h1.symm.trans e
                    cases e2; omega
                · rcases Hsb.out with h1 | h1 | h1
                  · rcases Hs.out with h2 | ⟨b, h2, h3⟩
                    · exact .inl (h2.trans h1)
                    · exact .inr ⟨b, h1.own.symm.trans h2, h3⟩
                  · exact .inr ⟨_, h1, by simp; omega⟩
                  · cases h1
            · obtain rfl : L = n + 12 := by omega
              have e1 : decide (((n + 12 : Nat) : Int) < (n : Int) + 12) = false := by simp
              have HGr : Hid (SubRow wr w.heap.size u6 us) := Lib.hid (HG.out.grown.block_keeps HK.out (fun b hb e => by
                have h1 := (HG.out.grown.lt b hb).1
                have h2 := Hg.out k hlt
                have h3 : b = g k := e
                omega))
              have hsub := HGr.out.below ((Below.refl wr.heap.size wr).alloc (Nat.le_refl _) (.cells #[.slice q (n + 12) cp] 39))
              have hsrc := src_one' (P := Try.prog) (w := wr) Try.underlying31 (.slice q (n + 12) cp) rfl 39
              have hus : us.length = k := HG.out.ulen
              have Hus := Lib.hid hus
              have hBw : w.heap.size ≤ (wr.alloc (.cells #[.slice q (n + 12) cp] 39)).heap.size := by have h1 := HBw.out.2; have h2 := HK.out.size; simp; omega
              clear hus
              go_wp2_with (at_builtin; refine wpList_append_sub _ rfl _ _ 31 rfl 39 i24 (.slice none 0 0) 24 Try.underlying31 hi24 hz24 hz241 hz242 rfl w.heap.size _ _ rfl hsub _ rfl _ hsrc (by rw [Hus.out]; simp; unfold maxLen; omega) (by rw [Hus.out]; simp; omega) hBw ?_; intro v2 w2 s2 k2 n2; (obtain ⟨q2, cp2, ev, hc1, hc2⟩ := s2.form); rw [List.length_append, Hus.out, List.length_singleton] at ev; subst ev; have HS2 := Lib.hid s2; have HK2 := Lib.hid k2; have Hn2 := Lib.hid n2; clear hsub hsrc s2 k2 n2 hc1 hc2)
              go_roundw
              case measure => simp [intOf]; omega
              case rel =>
                have hal : Below wr.heap.size wr (wr.alloc (.cells #[.slice q (n + 12) cp] 39)) := (Below.refl _ _).alloc (Nat.le_refl _) _
                refine ⟨k + 1, us ++ [.slice q (n + 12) cp], by go_num, by omega, HG.out.next hlt Hd.out Hg.out Hl.out Hlb.out HK.out HS.out HO.out ?_ ((Keeps.of_below hal).trans HK2.out) HS2.out ?_⟩
                · intro b hb
                  rcases Hs.out with h1 | ⟨b2, h1, h2⟩
                  · have := h1.own.trans hb
                    exact .inl (Option.some.inj this).symm
                  · right
                    have := Option.some.inj (h1.symm.trans hb); omega
                · rcases Hn2.out with h1 | h1
                  · exact .inl h1
                  · exact .inr ⟨_, h1, by simp⟩
        · obtain rfl : k = 3 := by omega
          rw [show ((3 : Nat) : Int) = 3 from rfl]
          have hus : us.length = 3 := HG.out.ulen
          obtain ⟨gG, oG, cG, eG, hGc⟩ : ∃ gG oG cG, u6 = .slice (some ⟨gG, oG, none⟩) 3 cG ∧ ∀ j x, us[j]? = some x → wr.cell? ⟨gG, oG + j, none⟩ = some x := by
            rcases HG.out.grown with ⟨_, e⟩ | ⟨gG, oG, cG, e, _, _, _, _, _, h6⟩
            · rw [e] at hus; simp at hus
            · exact ⟨gG, oG, cG, by rw [e, hus], h6⟩
          have HF : Hid (∀ k : Nat, k < 3 → ∃ b off cp, ∀ W, Below wr.heap.size wr W → W.cell? ⟨gG, oG + k, none⟩ = some (.slice (some ⟨b, off, none⟩) (n + 12) cp) ∧ W.cell? ⟨Lb, k, none⟩ = some (.slice (some ⟨g k, o k, none⟩) n (c k)) ∧ (∀ j, j < n + 12 → W.cell? ⟨b, off + j, none⟩ = some (.int .u8 (IntKind.u8.wrap (31 * (k : Int) + 7 * (j : Int) + 1)))) ∧ ∀ j, j < n → W.cell? ⟨g k, o k + j, none⟩ = some (.int .u8 (IntKind.u8.wrap (31 * (k : Int) + 7 * (j : Int) + 1)))) := Lib.hid (by
            intro k hk
            have hk2 : us[k]? = some (us[k]'(by omega)) := List.getElem?_eq_getElem _
            obtain ⟨_, h2, _⟩ := HG.out.new k _ hk2
            obtain ⟨b, off, cp, e, h4⟩ := h2.cells (by rw [mark_len]; omega)
            rw [mark_len] at e
            obtain ⟨b2, off2, cp2, e2, h5⟩ := (HG.out.old k hk).cells (by rw [mark_len]; omega)
            unfold rv at e2
            injection e2 with e2 _ _
            injection e2 with e2
            injection e2 with e3 e4 _
            subst e3 e4
            rw [e] at hk2
            refine ⟨b, off, cp, fun W hW => ?_⟩
            have K := Keeps.of_below (S := fun _ => False) hW
            exact ⟨K.cell (hGc k _ hk2) (fun e => e), K.cell (three_at HG.out.list hk) (fun e => e), fun j hj => by rw [← mk_v]; exact K.cell (h4 j _ (mark_at k (n + 12) j hj)) (fun e => e), fun j hj => by rw [← mk_v]; exact K.cell (h5 j _ (mark_at k n j hj)) (fun e => e)⟩)
          have HKp := Lib.hid HG.out.keep
          subst eG
          clear HG hGc hus
          go_wp2
          generalize wr = w3 at HF HKp ⊢
          have Hb0 := Lib.hid (Below.refl w3.heap.size w3)
          go_loopw [70] (fun t W => ∃ k : Nat, t = .int .i64 k ∧ k ≤ 3 ∧ Below w3.heap.size w3 W) (fun t _ => 3 - (intOf t).toNat)
          case atStart => exact ⟨0, rfl, by omega, Below.refl _ _⟩
          case round =>
            clear Hb0
            obtain ⟨k, rfl, hk3, hb⟩ := hrel
            have HB3 := Lib.hid hb
            clear hb
            by_cases hlt : k < 3
            · have e0 : decide ((k : Int) < 3) = true := by simp; omega
              obtain ⟨b, off, cp, hf⟩ := HF.out k hlt
              have Hf := Lib.hid hf
              obtain ⟨cg, _, _, _⟩ := hf wr HB3.out
              clear hf
              go_wp2
              generalize wr = wo at HB3 ⊢
              go_loopw [77] (fun t W => ∃ j : Nat, t = .int .i64 j ∧ j ≤ n + 12 ∧ Below w3.heap.size w3 W) (fun t _ => n + 12 - (intOf t).toNat)
              case atStart => exact ⟨0, rfl, by omega, HB3.out⟩
              case round =>
                clear HB3
                obtain ⟨j, rfl, hj, hb⟩ := hrel
                have HB4 := Lib.hid hb
                clear hb cg
                by_cases hjl : j < n + 12
                · obtain ⟨_, f1, f2, f3⟩ := Hf.out wr HB4.out
                  have d1 := f2 j hjl
                  have e1 : decide ((j : Int) < (n : Int) + 12) = true := by simp; omega
                  have hkm : (k : Int) < 3 := by omega
                  have hj0 : (0 : Int) ≤ (j : Int) := by omega
                  have hj2 : (j : Int) < ((n + 12 : Nat) : Int) := by omega
                  have hj3 : (j : Int) < (n : Int) + 12 := by omega
                  have ew1 : IntKind.i64.wrap (31 * (k : Int)) = 31 * (k : Int) := by rw [IntKind.wrap_i64]; omega
                  have ew2 : IntKind.i64.wrap (7 * (j : Int)) = 7 * (j : Int) := by rw [IntKind.wrap_i64]; omega
                  have ew3 : IntKind.i64.wrap (31 * (k : Int) + 7 * (j : Int)) = 31 * (k : Int) + 7 * (j : Int) := by rw [IntKind.wrap_i64]; omega
                  have ew4 : IntKind.i64.wrap (31 * (k : Int) + 7 * (j : Int) + 1) = 31 * (k : Int) + 7 * (j : Int) + 1 := by rw [IntKind.wrap_i64]; omega
                  by_cases hjn : j < n
                  · have d2 := f3 j hjn
                    have e2 : decide ((j : Int) < (n : Int)) = true := by simp; omega
                    have hj4 : (j : Int) < (n : Int) := by omega
                    clear f2 f3
                    go_upto_region 25 with fail
                    go_quiet (fail)
                    clear ew1 ew2 ew3 ew4 d1 d2 f1
                    go_wp2
                    go_roundw
                    case rel => exact ⟨j + 1, by go_num, by omega, below_drewN HB4.out nq⟩
                    case measure => simp [intOf]; omega
                  · have e2 : decide ((j : Int) < (n : Int)) = false := by simp; omega
                    clear f2 f3
                    go_upto_region 25 with fail
                    go_quiet (fail)
                    clear ew1 ew2 ew3 ew4 d1 f1
                    go_wp2
                    go_roundw
                    case rel => exact ⟨j + 1, by go_num, by omega, below_drewN HB4.out nq⟩
                    case measure => simp [intOf]; omega
                · obtain rfl : j = n + 12 := by omega
                  have e1 : decide (((n + 12 : Nat) : Int) < ((n + 12 : Nat) : Int)) = false := by simp
                  go_wp2
                  go_roundw
                  case rel => exact ⟨k + 1, by go_num, by omega, HB4.out⟩
                  case measure => simp [intOf]; omega
            · obtain rfl : k = 3 := by omega
              rw [show ((3 : Nat) : Int) = 3 from rfl]
              go_wp2
              go_ret
              exact ⟨rfl, HKp.out.trans (Keeps.of_below HB3.out)⟩
end
end Go.Proofs.Ytbaphjnglkocpaa
