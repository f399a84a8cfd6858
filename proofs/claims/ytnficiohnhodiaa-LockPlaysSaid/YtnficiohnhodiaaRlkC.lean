import Derived.Test.YtnficiohnhodiaaRlkB
/-
  The document's table of locks: against, For, Holders.
-/
namespace Go.Proofs.Ytnficiohnhodiaa
open Go.RowKit
def foldR (p : Lk → Bool) (ls : List Lk) : List Int := ls.foldl (fun out x => if p x then insertR out x.txn else out) []
theorem foldR_app (p : Lk → Bool) (ls : List Lk) (x : Lk) : foldR p (ls ++ [x]) = if p x then insertR (foldR p ls) x.txn else foldR p ls := by unfold foldR; rw [List.foldl_append]; rfl
theorem insertR_len (l : List Int) (n : Int) : (insertR l n).length ≤ l.length + 1 := by
  unfold insertR; split
  · omega
  · rw [insAt_len]; exact Nat.le_refl _
theorem foldl_snoc {α β : Type} (f : β → α → β) (b : β) (l : List α) : ∀ (P : List α → β → Prop), P [] b → (∀ l x b, P l b → P (l ++ [x]) (f b x)) → P l (l.foldl f b) := by
  intro P h0 hs
  have key : ∀ (r l : List α) (b : β), P l b → P (l ++ r) (r.foldl f b) := by
    intro r
    induction r with
    | nil => intro l b h; simpa using h
    | cons x r ih => intro l b h; have := ih (l ++ [x]) (f b x) (hs l x b h); simpa using this
  simpa using key l [] b h0
theorem foldR_ind (p : Lk → Bool) (P : List Lk → List Int → Prop) (ls : List Lk) (h0 : P [] []) (hs : ∀ l x o, P l o → P (l ++ [x]) (if p x then insertR o x.txn else o)) : P ls (foldR p ls) := foldl_snoc _ _ _ P h0 hs
theorem foldR_len (p : Lk → Bool) (ls : List Lk) : (foldR p ls).length ≤ ls.length := by
  refine foldR_ind p (fun l o => o.length ≤ l.length) ls (Nat.le_refl _) (fun l x o h => ?_)
  rw [List.length_append]
  split
  · have := insertR_len o x.txn; simp only [List.length_cons, List.length_nil]; omega
  · omega
def againstP (x y : Lk) : Bool := y.page == x.page && (y.txn != x.txn && !alongR y.mode x.mode)
def againstR (ls : List Lk) (x : Lk) : List Int := foldR (againstP x) ls
def holdersR (ls : List Lk) (page : Int) : List Int := foldR (fun y => y.page == page) ls
def forR (ls ws : List Lk) (txn : Int) : List Int := match ws.find? (fun x => x.txn == txn) with | none => [] | some x => againstR ls x
section
variable {w w' : World} {B b : Nat} {vl vw : Value} {ls ws : List Lk}
theorem lk_box (w : World) (x : Lk) : (w.alloc (.cells #[.int .i64 x.txn, .int .i64 x.page, .int .i64 x.mode] 82)).cell? ⟨w.heap.size, 0, none⟩ = some (.int .i64 x.txn) ∧ (w.alloc (.cells #[.int .i64 x.txn, .int .i64 x.page, .int .i64 x.mode] 82)).cell? ⟨w.heap.size, 1, none⟩ = some (.int .i64 x.page) ∧ (w.alloc (.cells #[.int .i64 x.txn, .int .i64 x.page, .int .i64 x.mode] 82)).cell? ⟨w.heap.size, 2, none⟩ = some (.int .i64 x.mode) := by
  have hh := heap_alloc_new w (.cells #[.int .i64 x.txn, .int .i64 x.page, .int .i64 x.mode] 82)
  exact ⟨cell_in hh rfl, cell_in hh rfl, cell_in hh rfl⟩
set_option maxRecDepth 100000 in
set_option maxHeartbeats 2000000 in
theorem ragainst_any (h : TabAt w B b vl vw ls ws) (x : Lk) (hl : ls.length ≤ 1000000) :
    Calls Try.prog 41 #[.pointer (some ⟨b, 0, none⟩), .agg #[.int .i64 x.txn, .int .i64 x.page, .int .i64 x.mode]] w fun e w' => ∃ v, e = .returned v ∧ SubRow w' w.heap.size v (intsV (againstR ls x)) ∧ Below w.heap.size w w' := by
  have hb0 : Below w.heap.size w (w.alloc (.cells #[.int .i64 x.txn, .int .i64 x.page, .int .i64 x.mode] 82)) := (Below.refl _ _).alloc (Nat.le_refl _) _
  have H := Lib.hid (h.below hb0)
  obtain ⟨q, c, rfl, hc, hm⟩ := h.locks.form
  unfold maxLen at hm
  obtain ⟨x0, x1, x2⟩ := lk_box w x
  have hsz : w.heap.size < (w.alloc (.cells #[.int .i64 x.txn, .int .i64 x.page, .int .i64 x.mode] 82)).heap.size := by simp
  have HX := Lib.hid (And.intro x0 (And.intro x1 x2))
  have Hb0 := Lib.hid hb0
  clear h hb0 x0 x1 x2
  go_enter Try.func41, Try.ntmps41
  go_wp2
  generalize w.alloc (.cells #[.int .i64 x.txn, .int .i64 x.page, .int .i64 x.mode] 82) = w1 at H HX Hb0 hsz ⊢
  go_loopw [5, 6] (fun v5 v6 wr => ∃ k : Nat, v6 = .int .i64 k ∧ k ≤ ls.length ∧ SubRow wr w.heap.size v5 (intsV (foldR (againstP x) (ls.take k))) ∧ Below w1.heap.size w1 wr) (fun _ v6 _ => ls.length - (intOf v6).toNat)
  case atStart => exact ⟨0, rfl, Nat.zero_le _, .inl ⟨rfl, rfl⟩, Below.refl _ _⟩
  case round =>
    obtain ⟨k, rfl, hk, hO, hb⟩ := hrel
    have Hbw : Hid (Below w.heap.size w wr) := Lib.hid (Hb0.out.trans (hb.mono Hb0.out.size))
    have Hb := Lib.hid hb
    have H2 := Lib.hid (H.out.below hb)
    have c0 := H2.out.c0
    by_cases hlt : k < ls.length
    · obtain ⟨y, hy⟩ : ∃ y, ls[k]? = some y := ⟨_, List.getElem?_eq_getElem hlt⟩
      obtain ⟨g, c', ev, _, d0, d1, d2⟩ := H2.out.locks.at hy
      injection ev with e1 _ e3
      subst e1 e3
      have htk : ls.take (k + 1) = ls.take k ++ [y] := by rw [List.take_add_one, hy]; rfl
      have Hfo : Hid (foldR (againstP x) (ls.take (k + 1)) = if againstP x y then insertR (foldR (againstP x) (ls.take k)) y.txn else foldR (againstP x) (ls.take k)) := Lib.hid (by rw [htk, foldR_app])
      have Hlen : Hid ((foldR (againstP x) (ls.take k)).length ≤ 1000000) := Lib.hid (by have := foldR_len (againstP x) (ls.take k); rw [List.length_take] at this; omega)
      have hki : (k : Int) < (ls.length : Int) := by omega
      have x0 := (Keeps.of_below (S := fun _ => False) hb).cell HX.out.1 (fun e => e)
      have x1 := (Keeps.of_below (S := fun _ => False) hb).cell HX.out.2.1 (fun e => e)
      have x2 := (Keeps.of_below (S := fun _ => False) hb).cell HX.out.2.2 (fun e => e)
      obtain ⟨y0, y1, y2⟩ := lk_box wr y
      have hal : Below wr.heap.size wr (wr.alloc (.cells #[.int .i64 y.txn, .int .i64 y.page, .int .i64 y.mode] 82)) := (Below.refl _ _).alloc (Nat.le_refl _) _
      have x0' := (Keeps.of_below (S := fun _ => False) hal).cell x0 (fun e => e)
      have x1' := (Keeps.of_below (S := fun _ => False) hal).cell x1 (fun e => e)
      have x2' := (Keeps.of_below (S := fun _ => False) hal).cell x2 (fun e => e)
      have Hal := Lib.hid hal
      have HO := Lib.hid (hO.below hal)
      clear hy htk hO hb hal x0 x1 x2
      go_upto_region 6 with fail
      generalize wr.alloc (.cells #[.int .i64 y.txn, .int .i64 y.page, .int .i64 y.mode] 82) = W at x0' x1' x2' y0 y1 y2 Hal HO ⊢
      clear d0 d1 d2 c0
      by_cases e1 : y.page = x.page
      · by_cases e2 : y.txn = x.txn
        · have Hp : Hid (againstP x y = false) := Lib.hid (by unfold againstP; simp [e2])
          go_wp2
          go_roundw
          case rel => exact ⟨k + 1, by go_num, by omega, by rw [Hfo.out, Hp.out]; exact HO.out, Hb.out.trans (Hal.out.mono Hb.out.size)⟩
          case measure => simp [intOf]; omega
        · have hra := ralong_any y.mode x.mode W
          have hin := rinsert_any HO.out y.txn Hlen.out (Nat.le_trans Hbw.out.size Hal.out.size)
          have Hp0 : Hid (againstP x y = !alongR y.mode x.mode) := Lib.hid (by unfold againstP; simp [e1, e2])
          generalize alongR y.mode x.mode = ba at hra Hp0
          cases ba
          · have Hp : Hid (againstP x y = true) := Lib.hid (by rw [Hp0.out]; rfl)
            go_wp2_with (first
              | (go_at_call 71; (with_reducible refine hra.mono ?_); rintro _ _ ⟨rfl, rfl⟩; clear hra)
              | (go_at_call 42; (with_reducible refine hin.mono ?_); rintro _ w3 ⟨v3, rfl, h3, b3⟩; clear hin; have H3 := Lib.hid h3; have B3 := Lib.hid b3; clear h3 b3))
            go_roundw
            case rel => exact ⟨k + 1, by go_num, by omega, by rw [Hfo.out, Hp.out]; exact H3.out, Hb.out.trans ((Hal.out.trans (B3.out.mono Hal.out.size)).mono Hb.out.size)⟩
            case measure => simp [intOf]; omega
          · have Hp : Hid (againstP x y = false) := Lib.hid (by rw [Hp0.out]; rfl)
            go_wp2_with (go_at_call 71; (with_reducible refine hra.mono ?_); rintro _ _ ⟨rfl, rfl⟩; clear hra)
            go_roundw
            case rel => exact ⟨k + 1, by go_num, by omega, by rw [Hfo.out, Hp.out]; exact HO.out, Hb.out.trans (Hal.out.mono Hb.out.size)⟩
            case measure => simp [intOf]; omega
      · have Hp : Hid (againstP x y = false) := Lib.hid (by unfold againstP; simp [e1])
        go_wp2
        go_roundw
        case rel => exact ⟨k + 1, by go_num, by omega, by rw [Hfo.out, Hp.out]; exact HO.out, Hb.out.trans (Hal.out.mono Hb.out.size)⟩
        case measure => simp [intOf]; omega
    · obtain rfl : k = ls.length := by omega
      rw [List.take_length] at hO
      go_wp2
      go_ret
      exact ⟨_, rfl, hO, Hbw.out⟩
set_option maxRecDepth 100000 in
set_option maxHeartbeats 2000000 in
theorem rholders_any (h : TabAt w B b vl vw ls ws) (page : Int) (hl : ls.length ≤ 1000000) :
    Calls Try.prog 18 #[.pointer (some ⟨b, 0, none⟩), .int .i64 page] w fun e w' => ∃ v, e = .returned v ∧ SubRow w' w.heap.size v (intsV (holdersR ls page)) ∧ Below w.heap.size w w' := by
  have H := Lib.hid h
  obtain ⟨q, c, rfl, hc, hm⟩ := h.locks.form
  unfold maxLen at hm
  clear h
  go_enter Try.func18, Try.ntmps18
  go_wp2
  go_loopw [5, 6] (fun v5 v6 wr => ∃ k : Nat, v6 = .int .i64 k ∧ k ≤ ls.length ∧ SubRow wr w.heap.size v5 (intsV (foldR (fun y => y.page == page) (ls.take k))) ∧ Below w.heap.size w wr) (fun _ v6 _ => ls.length - (intOf v6).toNat)
  case atStart => exact ⟨0, rfl, Nat.zero_le _, .inl ⟨rfl, rfl⟩, Below.refl _ _⟩
  case round =>
    obtain ⟨k, rfl, hk, hO, hb⟩ := hrel
    have Hb := Lib.hid hb
    have H2 := Lib.hid (H.out.below hb)
    have c0 := H2.out.c0
    have HO := Lib.hid hO
    by_cases hlt : k < ls.length
    · obtain ⟨y, hy⟩ : ∃ y, ls[k]? = some y := ⟨_, List.getElem?_eq_getElem hlt⟩
      obtain ⟨g, c', ev, _, d0, d1, d2⟩ := H2.out.locks.at hy
      injection ev with e1 _ e3
      subst e1 e3
      have htk : ls.take (k + 1) = ls.take k ++ [y] := by rw [List.take_add_one, hy]; rfl
      have Hfo : Hid (foldR (fun y => y.page == page) (ls.take (k + 1)) = if y.page == page then insertR (foldR (fun y => y.page == page) (ls.take k)) y.txn else foldR (fun y => y.page == page) (ls.take k)) := Lib.hid (by rw [htk, foldR_app])
      have Hlen : Hid ((foldR (fun y => y.page == page) (ls.take k)).length ≤ 1000000) := Lib.hid (by have := foldR_len (fun y => y.page == page) (ls.take k); rw [List.length_take] at this; omega)
      have hki : (k : Int) < (ls.length : Int) := by omega
      clear hy htk hO hb
      by_cases e1 : y.page = page
      · have Hp : Hid ((y.page == page) = true) := Lib.hid (by simp [e1])
        have hin := rinsert_any HO.out y.txn Hlen.out Hb.out.size
        go_wp2_with (go_at_call 42; (with_reducible refine hin.mono ?_); rintro _ w3 ⟨v3, rfl, h3, b3⟩; clear hin; have H3 := Lib.hid h3; have B3 := Lib.hid b3; clear h3 b3)
        go_roundw
        case rel => exact ⟨k + 1, by go_num, by omega, by rw [Hfo.out, Hp.out]; exact H3.out, Hb.out.trans (B3.out.mono Hb.out.size)⟩
        case measure => simp [intOf]; omega
      · have Hp : Hid ((y.page == page) = false) := Lib.hid (by simpa using e1)
        go_wp2
        go_roundw
        case rel => exact ⟨k + 1, by go_num, by omega, by rw [Hfo.out, Hp.out]; exact HO.out, Hb.out⟩
        case measure => simp [intOf]; omega
    · obtain rfl : k = ls.length := by omega
      rw [List.take_length] at hO
      go_wp2
      go_ret
      exact ⟨_, rfl, hO, hb⟩
set_option maxRecDepth 100000 in
set_option maxHeartbeats 2000000 in
theorem rfor_any (h : TabAt w B b vl vw ls ws) (txn : Int) (hl : ls.length ≤ 1000000) :
    Calls Try.prog 20 #[.pointer (some ⟨b, 0, none⟩), .int .i64 txn] w fun e w' => ∃ v, e = .returned v ∧ SubRow w' w.heap.size v (intsV (forR ls ws txn)) ∧ Below w.heap.size w w' := by
  have H := Lib.hid h
  obtain ⟨q, c, rfl, hc, hm⟩ := h.waits.form
  have c1 := h.c1
  unfold maxLen at hm
  clear h
  go_enter Try.func20, Try.ntmps20
  go_wp2
  go_loop [5] (fun i => ∃ k : Nat, i = .int .i64 k ∧ k ≤ ws.length ∧ Hid (∀ i y, i < k → ws[i]? = some y → (y.txn == txn) = false)) (fun i => ws.length - (intOf i).toNat)
  case atStart => exact ⟨0, rfl, by omega, Lib.hid (fun i y hi => absurd hi (Nat.not_lt_zero _))⟩
  case round =>
    obtain ⟨k, rfl, hk, Hall⟩ := hrel
    by_cases hlt : k < ws.length
    · obtain ⟨x, hx⟩ : ∃ x, ws[k]? = some x := ⟨_, List.getElem?_eq_getElem hlt⟩
      obtain ⟨g, c', ev, _, d0, d1, d2⟩ := H.out.waits.at hx
      injection ev with e1 _ e3
      subst e1 e3
      have Hx := Lib.hid hx
      clear hx
      have hki : (k : Int) < (ws.length : Int) := by omega
      by_cases e1 : x.txn = txn
      · subst e1
        have hf := find_skip (p := fun y => y.txn == x.txn) Hall.out Hx.out (by simp)
        have hh : forR ls ws x.txn = againstR ls x := by unfold forR; rw [hf]
        have Hh := Lib.hid hh
        have hag := ragainst_any H.out x hl
        clear hf hh
        go_wp2_with (go_at_call 41; (with_reducible refine hag.mono ?_); rintro _ w3 ⟨v3, rfl, h3, b3⟩; clear hag; have H3 := Lib.hid h3; have B3 := Lib.hid b3; clear h3 b3)
        go_ret
        exact ⟨_, rfl, by rw [Hh.out]; exact H3.out, B3.out⟩
      · have hn : Hid (∀ i y, i < k + 1 → ws[i]? = some y → (y.txn == txn) = false) := Lib.hid (fun i y hi hy => by
          by_cases e : i = k
          · subst e; have e3 := Hx.out.symm.trans hy; injection e3 with e3; subst e3; simpa using e1
          · exact Hall.out i y (by omega) hy)
        go_wp2
        go_round
        case rel => exact ⟨k + 1, by go_num, by omega, hn⟩
        case measure => simp [intOf]; omega
    · obtain rfl : k = ws.length := by omega
      have hf := find_none' (p := fun x => x.txn == txn) (fun i y hy => Hall.out i y (List.getElem?_eq_some_iff.1 hy).1 hy)
      have hh : forR ls ws txn = [] := by unfold forR; rw [hf]
      have Hh := Lib.hid hh
      clear hf hh
      go_wp2
      go_ret
      exact ⟨_, rfl, by rw [Hh.out]; exact .inl ⟨rfl, rfl⟩, Below.refl _ _⟩
end
end Go.Proofs.Ytnficiohnhodiaa
