import Derived.Test.YtnficiohnhodiaaRefG
/-
  The document's device: New (laws of what is made).
-/
namespace Go.Proofs.Ytnficiohnhodiaa
open Go.RowKit
theorem Bytes.lt {w : World} {v : Value} {l : List UInt8} (h : Bytes w v l) (h0 : l ≠ []) (k : Nat) (e : v.ownBlock = some k) : k < w.heap.size := by
  obtain ⟨q, cap, rfl, _, _, h3⟩ := h
  cases l with
  | nil => exact absurd rfl h0
  | cons b l =>
    obtain ⟨a, rfl, hc⟩ := h3 0 b rfl
    have e2 : a.block = k := by cases e; rfl
    rw [← e2]
    have h4 : (a.add 0).block = a.block := by unfold Addr.add; split <;> rfl
    rw [← h4]
    unfold World.cell? at hc
    cases hx : w.heap[(a.add 0).block]? with
    | none => rw [hx] at hc; simp at hc
    | some o => exact (Array.getElem?_eq_some_iff.1 hx).1
theorem blank_ne : blank ≠ [] := by unfold blank; decide
theorem blank_l : blank.length = 512 := by unfold blank; rw [List.length_replicate]
structure NewAt (w : World) (B : Nat) (A : RAd) (i j k : Nat) : Prop where
  self : w.heap[A.b]? = some (.cells #[A.vn, A.vs, A.vc, .int .i64 0, .int .i64 0, .bool false, .int .i64 0, .bool false] 59 (0, 0))
  now : RowsAt w B A.vn A.S (fun _ => blank) i
  synced : RowsAt w B A.vs A.S (fun _ => blank) j
  chg : SubRow w B A.vc (boolsV (fun _ => false) k)
  low : B ≤ A.b
  ap1 : ∀ k, A.vn.ownBlock = some k → k ≠ A.b ∧ A.vs.ownBlock ≠ some k ∧ A.vc.ownBlock ≠ some k
  ap2 : ∀ k, A.vs.ownBlock = some k → k ≠ A.b ∧ A.vc.ownBlock ≠ some k
  ap3 : ∀ k, A.vc.ownBlock = some k → k ≠ A.b
section
variable {w w' : World} {B : Nat} {A : RAd} {i j k : Nat}
theorem NewAt.ref (h : NewAt w B A i i i) : RefAt w B A (Dev.new i) 0 :=
  ⟨h.self, h.now, h.synced, h.chg, h.low, h.ap1, h.ap2, h.ap3, (fun e => by cases e), by omega⟩
theorem NewAt.below (h : NewAt w B A i j k) (hb : Below w.heap.size w w') : NewAt w' B A i j k :=
  ⟨(Keeps.of_below (S := fun _ => False) hb).at h.self (fun e => e), h.now.below hb, h.synced.below hb, h.chg.below hb, h.low, h.ap1, h.ap2, h.ap3⟩
theorem NewAt.lt (h : NewAt w B A i j k) (g : Nat) (hk : A.S g) : g < w.heap.size := by
  rcases hk with rfl | e | e | e
  · exact (Array.getElem?_eq_some_iff.1 h.self).1
  · obtain ⟨rows, _, hs, _⟩ := h.now; exact (hs.lt g e).2
  · obtain ⟨rows, _, hs, _⟩ := h.synced; exact (hs.lt g e).2
  · exact (h.chg.lt g e).2
theorem RowsAt.snoc {S : Nat → Prop} {v' x : Value} {rows : List Value} {q : Option Addr} {c : Nat} (hl : rows.length = i) (hr : ∀ (n : Nat) (x : Value), rows[n]? = some x → (∃ q c, x = .slice q blank.length c) ∧ Bytes w x blank ∧ ∀ k, x.ownBlock = some k → ¬ S k) (hs : SubRow w B v' (rows ++ [x])) (hx : x = .slice q blank.length c) (hb : Bytes w x blank) (hS : ∀ k, x.ownBlock = some k → ¬ S k) : RowsAt w B v' S (fun _ => blank) (i + 1) := by
  refine ⟨rows ++ [x], by simp [hl], hs, fun n y hy => ?_⟩
  by_cases e : n < rows.length
  · rw [List.getElem?_append_left e] at hy; exact hr n y hy
  · rw [List.getElem?_append_right (by omega)] at hy
    have h1 := (List.getElem?_eq_some_iff.1 hy).1
    have h2 : n - rows.length = 0 := by simp at h1; omega
    rw [h2] at hy
    simp at hy
    subst hy
    exact ⟨⟨q, c, hx⟩, hb, hS⟩
/-- a row more to what is now -/
theorem NewAt.growNow (h : NewAt w B A i j k) {rows : List Value} {v' : Value} {gr : Nat} (hl : rows.length = i) (hr : ∀ (n : Nat) (x : Value), rows[n]? = some x → (∃ q c, x = .slice q blank.length c) ∧ Bytes w x blank ∧ ∀ k, x.ownBlock = some k → ¬ A.S k)
    (hk : Keeps (fun k => A.vn.ownBlock = some k) w w') (hs : SubRow w' B v' (rows ++ [.slice (some ⟨gr, 0, none⟩) 512 512])) (ho : v'.ownBlock = A.vn.ownBlock ∨ ∃ g, v'.ownBlock = some g ∧ w.heap.size ≤ g) (hb : SubRow w' w.heap.size (.slice (some ⟨gr, 0, none⟩) 512 512) (bytesV blank)) (hne : v'.ownBlock ≠ some gr) :
    NewAt (w'.setCell ⟨A.b, 0, none⟩ v') B { A with vn := v' } (i + 1) j k := by
  have hK : Keeps (· = A.b) w' (w'.setCell ⟨A.b, 0, none⟩ v') := Keeps.cellAt (S := (· = A.b)) rfl _
  have hlt := h.lt
  have hgr : w.heap.size ≤ gr := (hb.lt gr rfl).1
  have hb0 := hlt A.b (.inl rfl)
  have hvb : ∀ g, v'.ownBlock = some g → g ≠ A.b ∧ A.vs.ownBlock ≠ some g ∧ A.vc.ownBlock ≠ some g := fun g e => by
    rcases ho with h1 | ⟨g', h1, h2⟩
    · exact h.ap1 g (by rw [← h1]; exact e)
    · rw [e] at h1; cases h1
      exact ⟨fun e => by omega, fun e => by have := hlt g (.inr (.inr (.inl e))); omega, fun e => by have := hlt g (.inr (.inr (.inr e))); omega⟩
  have hS' : ∀ g, RAd.S { A with vn := v' } g → A.S g ∨ w.heap.size ≤ g := fun g e => by
    rcases e with e | e | e | e
    · exact .inl (.inl e)
    · rcases ho with h1 | ⟨g', h1, h2⟩
      · exact .inl (.inr (.inl (by rw [← h1]; exact e)))
      · have e' : v'.ownBlock = some g := e
        rw [h1] at e'; cases e'; exact .inr h2
    · exact .inl (.inr (.inr (.inl e)))
    · exact .inl (.inr (.inr (.inr e)))
  have hKS : ∀ g, A.vn.ownBlock = some g → A.S g := fun g e => .inr (.inl e)
  refine ⟨?_, ?_, ?_, ?_, h.low, hvb, h.ap2, h.ap3⟩
  · rw [heap_setCell _ _ _ _ _ _ _ (hk.at h.self (fun e => (h.ap1 _ e).1 rfl))]; rfl
  · refine RowsAt.keeps (T := (· = A.b)) ?_ hK (fun g e e' => (hvb g e).1 e') (fun g e => .inl e)
    refine RowsAt.snoc hl (fun n x hx => ?_) hs (x := .slice (some ⟨gr, 0, none⟩) 512 512) (q := some ⟨gr, 0, none⟩) (c := 512) (by rw [blank_l]) (Bytes.of_sub hb) (fun g e hg => ?_)
    · obtain ⟨h1, h2, h3⟩ := hr n x hx
      refine ⟨h1, h2.keeps hk (fun g e e' => h3 g e (hKS g e')), fun g e hg => ?_⟩
      rcases hS' g hg with h4 | h4
      · exact h3 g e h4
      · exact absurd (h2.lt blank_ne g e) (Nat.not_lt.2 h4)
    · have e2 : gr = g := by cases e; rfl
      subst e2
      rcases hg with e1 | e1 | e1 | e1
      · have : gr = A.b := e1; omega
      · exact hne e1
      · have := hlt gr (.inr (.inr (.inl e1))); omega
      · have := hlt gr (.inr (.inr (.inr e1))); omega
  · refine RowsAt.keeps (T := (· = A.b)) ?_ hK (fun g e e' => (h.ap2 g e).1 e') (fun g e => .inl e)
    obtain ⟨r2, hl2, hs2, hr2⟩ := h.synced
    refine ⟨r2, hl2, hs2.block_keeps hk (fun g e e' => (h.ap1 g e').2.1 e), fun n x hx => ⟨(hr2 n x hx).1, (hr2 n x hx).2.1.keeps hk (fun g e e' => (hr2 n x hx).2.2 g e (hKS g e')), fun g e hg => ?_⟩⟩
    rcases hS' g hg with h4 | h4
    · exact (hr2 n x hx).2.2 g e h4
    · exact absurd ((hr2 n x hx).2.1.lt blank_ne g e) (Nat.not_lt.2 h4)
  · exact (h.chg.block_keeps hk (fun g e e' => (h.ap1 g e').2.2 e)).block_keeps hK (fun g e e' => h.ap3 g e e')
/-- a row more to what was synced -/
theorem NewAt.growSynced (h : NewAt w B A i j k) {rows : List Value} {v' : Value} {gr : Nat} (hl : rows.length = j) (hr : ∀ (n : Nat) (x : Value), rows[n]? = some x → (∃ q c, x = .slice q blank.length c) ∧ Bytes w x blank ∧ ∀ k, x.ownBlock = some k → ¬ A.S k)
    (hk : Keeps (fun k => A.vs.ownBlock = some k) w w') (hs : SubRow w' B v' (rows ++ [.slice (some ⟨gr, 0, none⟩) 512 512])) (ho : v'.ownBlock = A.vs.ownBlock ∨ ∃ g, v'.ownBlock = some g ∧ w.heap.size ≤ g) (hb : SubRow w' w.heap.size (.slice (some ⟨gr, 0, none⟩) 512 512) (bytesV blank)) (hne : v'.ownBlock ≠ some gr) :
    NewAt (w'.setCell ⟨A.b, 1, none⟩ v') B { A with vs := v' } i (j + 1) k := by
  have hK : Keeps (· = A.b) w' (w'.setCell ⟨A.b, 1, none⟩ v') := Keeps.cellAt (S := (· = A.b)) rfl _
  have hlt := h.lt
  have hgr : w.heap.size ≤ gr := (hb.lt gr rfl).1
  have hb0 := hlt A.b (.inl rfl)
  have hvb : ∀ g, v'.ownBlock = some g → g ≠ A.b ∧ A.vn.ownBlock ≠ some g ∧ A.vc.ownBlock ≠ some g := fun g e => by
    rcases ho with h1 | ⟨g', h1, h2⟩
    · have h3 : A.vs.ownBlock = some g := by rw [← h1]; exact e
      exact ⟨(h.ap2 g h3).1, fun e2 => (h.ap1 g e2).2.1 h3, (h.ap2 g h3).2⟩
    · rw [e] at h1; cases h1
      exact ⟨fun e => by omega, fun e => by have := hlt g (.inr (.inl e)); omega, fun e => by have := hlt g (.inr (.inr (.inr e))); omega⟩
  have hS' : ∀ g, RAd.S { A with vs := v' } g → A.S g ∨ w.heap.size ≤ g := fun g e => by
    rcases e with e | e | e | e
    · exact .inl (.inl e)
    · exact .inl (.inr (.inl e))
    · rcases ho with h1 | ⟨g', h1, h2⟩
      · exact .inl (.inr (.inr (.inl (by rw [← h1]; exact e))))
      · have e' : v'.ownBlock = some g := e
        rw [h1] at e'; cases e'; exact .inr h2
    · exact .inl (.inr (.inr (.inr e)))
  have hKS : ∀ g, A.vs.ownBlock = some g → A.S g := fun g e => .inr (.inr (.inl e))
  refine ⟨?_, ?_, ?_, ?_, h.low, fun g e => ⟨(h.ap1 g e).1, fun e2 => (hvb g e2).2.1 e, (h.ap1 g e).2.2⟩, fun g e => ⟨(hvb g e).1, (hvb g e).2.2⟩, h.ap3⟩
  · rw [heap_setCell _ _ _ _ _ _ _ (hk.at h.self (fun e => (h.ap2 _ e).1 rfl))]; rfl
  · refine RowsAt.keeps (T := (· = A.b)) ?_ hK (fun g e e' => (h.ap1 g e).1 e') (fun g e => .inl e)
    obtain ⟨r2, hl2, hs2, hr2⟩ := h.now
    refine ⟨r2, hl2, hs2.block_keeps hk (fun g e e' => (h.ap1 g e).2.1 e'), fun n x hx => ⟨(hr2 n x hx).1, (hr2 n x hx).2.1.keeps hk (fun g e e' => (hr2 n x hx).2.2 g e (hKS g e')), fun g e hg => ?_⟩⟩
    rcases hS' g hg with h4 | h4
    · exact (hr2 n x hx).2.2 g e h4
    · exact absurd ((hr2 n x hx).2.1.lt blank_ne g e) (Nat.not_lt.2 h4)
  · refine RowsAt.keeps (T := (· = A.b)) ?_ hK (fun g e e' => (hvb g e).1 e') (fun g e => .inl e)
    refine RowsAt.snoc hl (fun n x hx => ?_) hs (x := .slice (some ⟨gr, 0, none⟩) 512 512) (q := some ⟨gr, 0, none⟩) (c := 512) (by rw [blank_l]) (Bytes.of_sub hb) (fun g e hg => ?_)
    · obtain ⟨h1, h2, h3⟩ := hr n x hx
      refine ⟨h1, h2.keeps hk (fun g e e' => h3 g e (hKS g e')), fun g e hg => ?_⟩
      rcases hS' g hg with h4 | h4
      · exact h3 g e h4
      · exact absurd (h2.lt blank_ne g e) (Nat.not_lt.2 h4)
    · have e2 : gr = g := by cases e; rfl
      subst e2
      rcases hg with e1 | e1 | e1 | e1
      · have : gr = A.b := e1; omega
      · have := hlt gr (.inr (.inl e1)); omega
      · exact hne e1
      · have := hlt gr (.inr (.inr (.inr e1))); omega
  · exact (h.chg.block_keeps hk (fun g e e' => (h.ap2 g e').2 e)).block_keeps hK (fun g e e' => h.ap3 g e e')
theorem boolsV_succ (f : Int → Bool) (k : Nat) : boolsV f (k + 1) = boolsV f k ++ [.bool (f k)] := by unfold boolsV; rw [List.range_succ, List.map_append]; rfl
/-- a mark more -/
theorem NewAt.growMark (h : NewAt w B A i j k) {v' : Value} (hk : Keeps (fun k => A.vc.ownBlock = some k) w w') (hs : SubRow w' B v' (boolsV (fun _ => false) k ++ [.bool false])) (ho : v'.ownBlock = A.vc.ownBlock ∨ ∃ g, v'.ownBlock = some g ∧ w.heap.size ≤ g) :
    NewAt (w'.setCell ⟨A.b, 2, none⟩ v') B { A with vc := v' } i j (k + 1) := by
  have hK : Keeps (· = A.b) w' (w'.setCell ⟨A.b, 2, none⟩ v') := Keeps.cellAt (S := (· = A.b)) rfl _
  have hlt := h.lt
  have hb0 := hlt A.b (.inl rfl)
  have hvb : ∀ g, v'.ownBlock = some g → g ≠ A.b ∧ A.vn.ownBlock ≠ some g ∧ A.vs.ownBlock ≠ some g := fun g e => by
    rcases ho with h1 | ⟨g', h1, h2⟩
    · have h3 : A.vc.ownBlock = some g := by rw [← h1]; exact e
      exact ⟨h.ap3 g h3, fun e2 => (h.ap1 g e2).2.2 h3, fun e2 => (h.ap2 g e2).2 h3⟩
    · rw [e] at h1; cases h1
      exact ⟨fun e => by omega, fun e => by have := hlt g (.inr (.inl e)); omega, fun e => by have := hlt g (.inr (.inr (.inl e))); omega⟩
  have hS' : ∀ g, RAd.S { A with vc := v' } g → A.S g ∨ w.heap.size ≤ g := fun g e => by
    rcases e with e | e | e | e
    · exact .inl (.inl e)
    · exact .inl (.inr (.inl e))
    · exact .inl (.inr (.inr (.inl e)))
    · rcases ho with h1 | ⟨g', h1, h2⟩
      · exact .inl (.inr (.inr (.inr (by rw [← h1]; exact e))))
      · have e' : v'.ownBlock = some g := e
        rw [h1] at e'; cases e'; exact .inr h2
  have hKS : ∀ g, A.vc.ownBlock = some g → A.S g := fun g e => .inr (.inr (.inr e))
  refine ⟨?_, ?_, ?_, ?_, h.low, fun g e => ⟨(h.ap1 g e).1, (h.ap1 g e).2.1, fun e2 => (hvb g e2).2.1 e⟩, fun g e => ⟨(h.ap2 g e).1, fun e2 => (hvb g e2).2.2 e⟩, fun g e => (hvb g e).1⟩
  · rw [heap_setCell _ _ _ _ _ _ _ (hk.at h.self (fun e => h.ap3 _ e rfl))]; rfl
  · refine RowsAt.keeps (T := (· = A.b)) ?_ hK (fun g e e' => (h.ap1 g e).1 e') (fun g e => .inl e)
    obtain ⟨r2, hl2, hs2, hr2⟩ := h.now
    refine ⟨r2, hl2, hs2.block_keeps hk (fun g e e' => (h.ap1 g e).2.2 e'), fun n x hx => ⟨(hr2 n x hx).1, (hr2 n x hx).2.1.keeps hk (fun g e e' => (hr2 n x hx).2.2 g e (hKS g e')), fun g e hg => ?_⟩⟩
    rcases hS' g hg with h4 | h4
    · exact (hr2 n x hx).2.2 g e h4
    · exact absurd ((hr2 n x hx).2.1.lt blank_ne g e) (Nat.not_lt.2 h4)
  · refine RowsAt.keeps (T := (· = A.b)) ?_ hK (fun g e e' => (h.ap2 g e).1 e') (fun g e => .inl e)
    obtain ⟨r2, hl2, hs2, hr2⟩ := h.synced
    refine ⟨r2, hl2, hs2.block_keeps hk (fun g e e' => (h.ap2 g e).2 e'), fun n x hx => ⟨(hr2 n x hx).1, (hr2 n x hx).2.1.keeps hk (fun g e e' => (hr2 n x hx).2.2 g e (hKS g e')), fun g e hg => ?_⟩⟩
    rcases hS' g hg with h4 | h4
    · exact (hr2 n x hx).2.2 g e h4
    · exact absurd ((hr2 n x hx).2.1.lt blank_ne g e) (Nat.not_lt.2 h4)
  · rw [boolsV_succ]
    exact hs.block_keeps hK (fun g e e' => (hvb g e).1 e')
end
end Go.Proofs.Ytnficiohnhodiaa
