import Derived.Test.YtnficiohnhodiaaRlkD
/-
  The document's table of locks: whom one waits for, until no more come (plain); what Take does (plain).
-/
namespace Go.Proofs.Ytnficiohnhodiaa
open Go.RowKit
inductive RReach (F : Int → List Int) : Int → Int → Prop where
  | refl (x : Int) : RReach F x x
  | step {x y z : Int} : y ∈ F x → RReach F y z → RReach F x z
theorem RReach.snoc {F : Int → List Int} {x y z : Int} (h : RReach F x y) (k : z ∈ F y) : RReach F x z := by
  induction h with
  | refl => exact .step k (.refl _)
  | step a _ ih => exact .step a (ih k)
theorem tw_dw (p : Int → Bool) (l : List Int) : l.takeWhile p ++ l.dropWhile p = l := List.takeWhile_append_dropWhile
theorem mem_insAt (l : List Int) (n x : Int) : x ∈ insAt l n ↔ x = n ∨ x ∈ l := by
  unfold insAt
  rw [List.mem_append, List.mem_cons]
  constructor
  · rintro (h | h | h)
    · exact .inr (by rw [← tw_dw (fun x => !decide (n < x)) l]; exact List.mem_append.2 (.inl h))
    · exact .inl h
    · exact .inr (by rw [← tw_dw (fun x => !decide (n < x)) l]; exact List.mem_append.2 (.inr h))
  · rintro (h | h)
    · exact .inr (.inl h)
    · rw [← tw_dw (fun x => !decide (n < x)) l] at h
      rcases List.mem_append.1 h with h | h
      · exact .inl h
      · exact .inr (.inr h)
theorem mem_insertR (l : List Int) (n x : Int) : x ∈ insertR l n ↔ x = n ∨ x ∈ l := by
  unfold insertR
  split
  · rename_i h
    exact ⟨.inr, fun e => e.elim (fun e => e ▸ h) id⟩
  · exact mem_insAt l n x
theorem nodup_insertR {l : List Int} {n : Int} (h : l.Nodup) : (insertR l n).Nodup := by
  unfold insertR
  split
  · exact h
  · rename_i hn
    have h2 := h
    rw [← tw_dw (fun x => !decide (n < x)) l] at h2 hn
    unfold insAt
    rw [List.nodup_append] at h2 ⊢
    rw [List.mem_append, not_or] at hn
    refine ⟨h2.1, List.nodup_cons.2 ⟨hn.2, h2.2.1⟩, fun a ha b hb => ?_⟩
    rcases List.mem_cons.1 hb with rfl | hb
    · exact fun e => hn.1 (e ▸ ha)
    · exact h2.2.2 a ha b hb
theorem insertR_same {l : List Int} {n : Int} (h : (insertR l n).length = l.length) : n ∈ l ∧ insertR l n = l := by
  unfold insertR at h ⊢
  split
  · rename_i hn; exact ⟨hn, rfl⟩
  · rename_i hn; rw [if_neg hn, insAt_len] at h; omega
theorem insertR_grow (l : List Int) (n : Int) : l.length ≤ (insertR l n).length := by
  unfold insertR; split
  · exact Nat.le_refl _
  · rw [insAt_len]; omega
theorem mem_foldR (p : Lk → Bool) (ls : List Lk) (x : Int) : x ∈ foldR p ls ↔ ∃ y ∈ ls, p y = true ∧ y.txn = x := by
  refine foldR_ind p (fun l o => x ∈ o ↔ ∃ y ∈ l, p y = true ∧ y.txn = x) ls (by simp) (fun l y o h => ?_)
  cases hp : p y
  · rw [if_neg (by simp), h]
    simp only [List.mem_append, List.mem_singleton]
    constructor
    · rintro ⟨z, hz, h2⟩; exact ⟨z, .inl hz, h2⟩
    · rintro ⟨z, hz | rfl, h2, h3⟩
      · exact ⟨z, hz, h2, h3⟩
      · rw [hp] at h2; cases h2
  · rw [if_pos rfl, mem_insertR, h]
    simp only [List.mem_append, List.mem_singleton]
    constructor
    · rintro (rfl | ⟨z, hz, h2⟩)
      · exact ⟨y, .inr rfl, hp, rfl⟩
      · exact ⟨z, .inl hz, h2⟩
    · rintro ⟨z, hz | rfl, h2, h3⟩
      · exact .inr ⟨z, hz, h2, h3⟩
      · exact .inl h3.symm
theorem nodup_foldR (p : Lk → Bool) (ls : List Lk) : (foldR p ls).Nodup :=
  foldR_ind p (fun _ o => o.Nodup) ls List.nodup_nil (fun l y o h => by split; exact nodup_insertR h; exact h)
theorem nodup_sub {l T : List Int} (h : l.Nodup) (hs : ∀ x ∈ l, x ∈ T) : l.length ≤ T.length := by
  induction l generalizing T with
  | nil => exact Nat.zero_le _
  | cons x l ih =>
    obtain ⟨h1, h2⟩ := List.nodup_cons.1 h
    have hx := hs x (by simp)
    have := ih (T := T.erase x) h2 (fun y hy => (List.mem_erase_of_ne (by intro e; exact h1 (by rw [← e]; exact hy))).2 (hs y (by simp [hy])))
    rw [List.length_erase_of_mem hx] at this
    have h0 : 0 < T.length := List.length_pos_of_mem hx
    simp only [List.length_cons]; omega
/-- what has come so far -/
structure Clo (F : Int → List Int) (O T all : List Int) : Prop where
  sub : ∀ x ∈ O, x ∈ all
  from' : ∀ x ∈ all, ∃ o ∈ O, RReach F o x
  nd : all.Nodup
  inT : ∀ x ∈ all, x ∈ T
theorem Clo.len {F : Int → List Int} {O T all : List Int} (h : Clo F O T all) : all.length ≤ T.length := nodup_sub h.nd h.inT
theorem Clo.ins {F : Int → List Int} {O T all : List Int} (h : Clo F O T all) {x y : Int} (hx : x ∈ all) (hy : y ∈ F x) (hT : y ∈ T) : Clo F O T (insertR all y) := by
  refine ⟨fun z hz => (mem_insertR _ _ _).2 (.inr (h.sub z hz)), fun z hz => ?_, nodup_insertR h.nd, fun z hz => ?_⟩
  · rcases (mem_insertR _ _ _).1 hz with rfl | hz
    · obtain ⟨o, ho, hr⟩ := h.from' x hx
      exact ⟨o, ho, hr.snoc hy⟩
    · exact h.from' z hz
  · rcases (mem_insertR _ _ _).1 hz with rfl | hz
    · exact hT
    · exact h.inT z hz
def Shut (F : Int → List Int) (all : List Int) : Prop := ∀ x ∈ all, ∀ y ∈ F x, y ∈ all
theorem Clo.iff {F : Int → List Int} {O T all : List Int} (h : Clo F O T all) (hs : Shut F all) (x : Int) : x ∈ all ↔ ∃ o ∈ O, RReach F o x := by
  refine ⟨h.from' x, fun ⟨o, ho, hr⟩ => ?_⟩
  have key : ∀ a b, RReach F a b → a ∈ all → b ∈ all := by
    intro a b hr
    induction hr with
    | refl => exact id
    | step h1 _ ih => exact fun ha => ih (hs _ ha _ h1)
  exact key o x hr (h.sub o ho)
/-- within a pass: how it stands behind k of a list's numbers (all0: as the pass began; pre: what was looked at before) -/
structure Pass (F : Int → List Int) (O T all0 pre all : List Int) : Prop where
  clo : Clo F O T all
  ge : all0.length ≤ all.length
  mem : ∀ x ∈ all0, x ∈ all
  same : all.length = all0.length → all = all0 ∧ ∀ y ∈ pre, y ∈ all0
theorem Pass.ins {F : Int → List Int} {O T all0 pre all : List Int} (h : Pass F O T all0 pre all) {x y : Int} (hx : x ∈ all) (hy : y ∈ F x) (hT : y ∈ T) : Pass F O T all0 (pre ++ [y]) (insertR all y) := by
  have hg := insertR_grow all y
  refine ⟨h.clo.ins hx hy hT, Nat.le_trans h.ge hg, fun z hz => (mem_insertR _ _ _).2 (.inr (h.mem z hz)), fun e => ?_⟩
  have hge := h.ge
  obtain ⟨a, b⟩ := insertR_same (l := all) (n := y) (by omega)
  obtain ⟨c, d⟩ := h.same (by omega)
  refine ⟨by rw [b]; exact c, fun z hz => ?_⟩
  rcases List.mem_append.1 hz with hz | hz
  · exact d z hz
  · obtain rfl := List.mem_singleton.1 hz; rw [← c]; exact a
theorem Pass.start {F : Int → List Int} {O T all : List Int} (h : Clo F O T all) : Pass F O T all [] all := ⟨h, Nat.le_refl _, fun _ h => h, fun _ => ⟨rfl, fun y hy => by simp at hy⟩⟩
theorem Pass.shut {F : Int → List Int} {O T all0 pre all : List Int} (h : Pass F O T all0 pre all) (hp : ∀ x ∈ all0, ∀ y ∈ F x, y ∈ pre) (e : ¬ all0.length < all.length) : Shut F all := by
  have hge := h.ge
  obtain ⟨a, b⟩ := h.same (by omega)
  subst a
  exact fun x hx y hy => b y (hp x hx y hy)
def txnsOf (ls : List Lk) : List Int := ls.map (·.txn)
theorem againstR_txns {ls : List Lk} {x : Lk} {y : Int} (h : y ∈ againstR ls x) : y ∈ txnsOf ls := by
  obtain ⟨z, hz, _, rfl⟩ := (mem_foldR _ _ _).1 h
  exact List.mem_map.2 ⟨z, hz, rfl⟩
theorem forR_txns {ls ws : List Lk} {x y : Int} (h : y ∈ forR ls ws x) : y ∈ txnsOf ls := by
  unfold forR at h
  split at h
  · simp at h
  · exact againstR_txns h
theorem forR_len (ls ws : List Lk) (x : Int) : (forR ls ws x).length ≤ ls.length := by
  unfold forR; split
  · exact Nat.zero_le _
  · exact foldR_len _ _
theorem Clo.start {ls ws : List Lk} {x : Lk} : Clo (forR ls ws) (againstR ls x) (txnsOf ls) (againstR ls x) :=
  ⟨fun _ h => h, fun y h => ⟨y, h, .refl y⟩, nodup_foldR _ _, fun y h => againstR_txns h⟩
/-- the first lock of a transaction on a page has another mode -/
def setR : List Lk → Int → Int → Int → List Lk
  | [], _, _, _ => []
  | x :: l, t, p, m => if x.txn = t ∧ x.page = p then ⟨x.txn, x.page, m⟩ :: l else x :: setR l t p m
theorem setR_at {ls : List Lk} {k : Nat} {x : Lk} {t p m : Int} (h : ∀ i y, i < k → ls[i]? = some y → (y.txn == t && y.page == p) = false) (hx : ls[k]? = some x) (h1 : x.txn = t) (h2 : x.page = p) : setR ls t p m = ls.set k ⟨x.txn, x.page, m⟩ := by
  induction ls generalizing k with
  | nil => simp at hx
  | cons y l ih =>
    cases k with
    | zero => simp at hx; subst hx; simp [setR, h1, h2]
    | succ k =>
      have h0 := h 0 y (by omega) rfl
      have h0' : ¬ (y.txn = t ∧ y.page = p) := by simpa using h0
      unfold setR
      rw [if_neg h0', ih (k := k) (fun i z hi hz => h (i + 1) z (Nat.succ_lt_succ hi) (by simpa using hz)) (by simpa using hx)]
      rfl
theorem lkV_set {l : List Lk} {k : Nat} {x : Lk} (hx : l[k]? = some x) (m : Int) : (lkV l).set (k * 3 + 2) (.int .i64 m) = lkV (l.set k ⟨x.txn, x.page, m⟩) := by
  induction l generalizing k with
  | nil => simp at hx
  | cons y l ih =>
    cases k with
    | zero => simp at hx; subst hx; rfl
    | succ k =>
      rw [lkV_cons, show (k + 1) * 3 + 2 = (k * 3 + 2) + 3 from by omega]
      simp only [List.set_cons_succ]
      rw [ih (k := k) (by simpa using hx)]
      rfl
/-- the first lock found -/
def hasR (ls : List Lk) (t p : Int) : Bool := ls.any fun x => x.txn == t && x.page == p
/-- what Take answers, and leaves; b: does a circle come about? -/
def takeR (ls ws : List Lk) (txn page mode : Int) (b : Bool) : Int × List Lk × List Lk :=
  if mode < 1 ∨ 3 < mode then (2, ls, ws) else
  let has := holdsR ls txn page
  let md := if has ≠ 0 ∧ has ≠ mode then 3 else mode
  if has = md then (0, ls, forgetR ws txn)
  else if againstR ls ⟨txn, page, md⟩ ≠ [] then (if b then (18, ls, forgetR ws txn) else (17, ls, forgetR ws txn ++ [⟨txn, page, md⟩]))
  else if hasR ls txn page then (0, setR ls txn page md, forgetR ws txn)
  else if 256 ≤ ls.length then (15, ls, forgetR ws txn)
  else (0, ls ++ [⟨txn, page, md⟩], forgetR ws txn)
end Go.Proofs.Ytnficiohnhodiaa
