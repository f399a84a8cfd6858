import Derived.StillTail
import Derived.Test.YtnficiohnhodiaaLow
/-
  A region that draws its order, whose operations read, make memory and call: one walk of ONE order serves every order.
  An operation's value may be new (a pointer to a new block): what is known of it is a fact on worlds, which the other operations keep.
-/
namespace Go.Proofs.Ytnficiohnhodiaa
open Go
/-- what an operation yields, and the world that it leaves -/
def gives (P : Program) (call : Bool) (o : Oper) (a : Act) (w : World) (post : Value → World → Prop) : Prop :=
  match (execOp a.eval o).run P w with
  | .ok (.value v) w' => post v w'
  | .ok .skip w' => post undef w'
  | .ok (.enter f args) w' => call = true ∧ Calls P f args w' (fun e w'' => ∃ v, e = .returned v ∧ post v w'')
  | _ => False
section
variable {P : Program} {call : Bool} {o : Oper} {a : Act} {w : World} {post post' : Value → World → Prop}
theorem gives_mono (hh : ∀ v w', post v w' → post' v w') (h : gives P call o a w post) : gives P call o a w post' := by
  unfold gives at *
  generalize (execOp a.eval o).run P w = r at *
  cases r with
  | ok n w' =>
    cases n <;> simp only at h ⊢
    case value v => exact hh _ _ h
    case skip => exact hh _ _ h
    case enter f args => exact ⟨h.1, h.2.mono fun e w'' ⟨v, he, hp⟩ => ⟨v, he, hh _ _ hp⟩⟩
  | halt x w' => exact h
theorem gives_congr {a' : Act} (he : execOp a'.eval o = execOp a.eval o) (h : gives P call o a w post) : gives P call o a' w post := by
  unfold gives at *; rw [he]; exact h
theorem gives_exists (h : gives P call o a w post) : ∃ v w', post v w' := by
  unfold gives at h
  generalize (execOp a.eval o).run P w = r at *
  cases r with
  | ok n w' =>
    cases n <;> simp only at h
    case value v => exact ⟨_, _, h⟩
    case skip => exact ⟨_, _, h⟩
    case enter f args =>
      obtain ⟨e, w'', fr, ⟨v, _, hp⟩, _⟩ := h.2 []
      exact ⟨v, w'', hp⟩
  | halt x w' => exact h.elim
theorem gives_all {ι : Type} (hc : call = false) (x0 : ι) {p : ι → Value → World → Prop} (h : ∀ x, gives P call o a w (p x)) : gives P call o a w (fun v w' => ∀ x, p x v w') := by
  unfold gives at *
  generalize (execOp a.eval o).run P w = r at *
  cases r with
  | ok n w' =>
    cases n <;> simp only at h ⊢
    case value v => exact h
    case skip => exact h
    case enter f args => exact absurd (h x0).1 (by rw [hc]; simp)
    all_goals exact h x0
  | halt x w' => exact h x0
theorem gives_wp {K : Act → World → Prop} {Q : Exit → Act → World → Prop} (hh : ∀ v w', post v w' → K (a.put o.dst v) w') (h : gives P call o a w post) : o.wp P a w K Q := by
  unfold gives at h
  unfold Oper.wp
  generalize (execOp a.eval o).run P w = r at *
  cases r with
  | ok n w' =>
    cases n <;> simp only at h <;> simp only [Oper.upon]
    case value v => exact hh _ _ h
    case skip => exact hh _ _ h
    case enter f args => exact h.2.mono fun e w'' ⟨v, he, hp⟩ => by subst he; exact hh _ _ hp
  | halt x w' => exact h.elim
end
/-- what is known of what an operation made -/
structure Fact where
  at_ : Nat
  says : World → Prop
/-- the facts of those operations on which one leans -/
def meets (d : List Nat) : List Fact → World → Prop
  | [], _ => True
  | f :: fs, w => (d.contains f.at_ = true → f.says w) ∧ meets d fs w
def allSay : List Fact → World → Prop
  | [], _ => True
  | f :: fs, w => f.says w ∧ allSay fs w
theorem meets_iff {d : List Nat} {fs : List Fact} {w : World} : meets d fs w ↔ ∀ f ∈ fs, d.contains f.at_ = true → f.says w := by
  induction fs with
  | nil => simp [meets]
  | cons f fs ih => simp only [meets, ih, List.forall_mem_cons]
theorem allSay_iff {fs : List Fact} {w : World} : allSay fs w ↔ ∀ f ∈ fs, f.says w := by
  induction fs with
  | nil => simp [allSay]
  | cons f fs ih => simp only [allSay, ih, List.forall_mem_cons]
/-- how a region is walked: on which others each operation leans, which ones are calls of functions; how each may change the world; what holds of the world all the time -/
structure Plan where
  D : List (List Nat)
  calls : List Nat
  R : Nat → World → World → Prop
  B : World → Prop
def Plan.deps (pl : Plan) (j : Nat) : List Nat := pl.D.getD j []
structure Plan.Ok (pl : Plan) : Prop where
  refl : ∀ k w, pl.R k w w
  keep : ∀ k w w', pl.B w → pl.R k w w' → pl.B w'
def Plan.stable (pl : Plan) (i : Nat) (F : World → Prop) : Prop := ∀ m w w', m ≠ i → F w → pl.R m w w' → F w'
def Plan.holds (pl : Plan) (fs : List Fact) (w : World) : Prop := pl.B w ∧ allSay fs w
def Plan.lives (pl : Plan) (fs : List Fact) : Prop := ∃ w, pl.holds fs w
/-- what one list of facts says, another says too -/
def Covers (fs fs' : List Fact) : Prop := ∀ p ∈ fs, (∀ w, p.says w) ∨ ∃ p' ∈ fs', p'.at_ = p.at_ ∧ ∀ w, p'.says w → p.says w
theorem Covers.holds {pl : Plan} {fs fs' : List Fact} {w : World} (h : Covers fs fs') (hh : pl.holds fs' w) : pl.holds fs w :=
  ⟨hh.1, allSay_iff.2 fun p hp => by
    rcases h p hp with h1 | ⟨p', hp', _, h2⟩
    · exact h1 w
    · exact h2 w (allSay_iff.1 hh.2 p' hp')⟩
theorem Covers.meets {fs fs' : List Fact} {w : World} {d : List Nat} (h : Covers fs fs') (hh : meets d fs' w) : meets d fs w :=
  meets_iff.2 fun p hp hd => by
    rcases h p hp with h1 | ⟨p', hp', e, h2⟩
    · exact h1 w
    · exact h2 w (meets_iff.1 hh p' hp' (by rw [e]; exact hd))
theorem Covers.cons {fs fs' : List Fact} (h : Covers fs fs') (f : Fact) : Covers (f :: fs) (f :: fs') := fun p hp => by
  rcases List.mem_cons.1 hp with rfl | hp
  · exact .inr ⟨p, List.mem_cons_self .., rfl, fun _ h => h⟩
  · rcases h p hp with h1 | ⟨p', hp', h2⟩
    · exact .inl h1
    · exact .inr ⟨p', List.mem_cons_of_mem _ hp', h2⟩
theorem Covers.more (fs : List Fact) (f : Fact) : Covers fs (f :: fs) := fun p hp => .inr ⟨p, List.mem_cons_of_mem _ hp, rfl, fun _ h => h⟩
section
variable {P : Program} {ops : Array Oper} {md : Region.Mode} {Q : Exit → Act → World → Prop} {pl : Plan} {n g : Nat}
def gStep (P : Program) (ops : Array Oper) (pl : Plan) (i : Nat) (o : Oper) (next : List Fact → Act → Prop) (fs : List Fact) (a : Act) : Prop :=
  if Region.wanted o (yielded ops a.tmps) then
    ∃ F : Value → World → Prop, (∀ v, pl.stable i (F v)) ∧ (∀ w, pl.B w → meets (pl.deps i) fs w → gives P (pl.calls.contains i) o a w (fun v w' => pl.R i w w' ∧ F v w')) ∧ ∀ v, next (⟨i, F v⟩ :: fs) (a.put o.dst v)
  else next fs (a.put o.dst undef)
def gOp (P : Program) (ops : Array Oper) (pl : Plan) (i : Nat) (next : List Fact → Act → Prop) (fs : List Fact) (a : Act) : Prop :=
  match ops[i]? with
  | none => False
  | some o => gStep P ops pl i o next fs a
/-- whatever order is picked from here on: the first n operations anyhow, the others behind them -/
def tree (P : Program) (md : Region.Mode) (ops : Array Oper) (Q : Exit → Act → World → Prop) (pl : Plan) (n g : Nat) : Nat → Array Bool → List Fact → Act → Prop
  | 0, listed, fs, a => ∀ w, pl.holds fs w → (∀ j ∈ Region.ready md ops listed, n ≤ j) ∧ wpAny P md ops Q g listed a w
  | f + 1, listed, fs, a => pl.lives fs → (Region.ready md ops listed ≠ [] ∧ ∀ i ∈ Region.ready md ops listed,
      (i < n ∧ gOp P ops pl i (tree P md ops Q pl n g f (listed.setIfInBounds i true)) fs a) ∨
      (n ≤ i ∧ ∀ w, pl.holds fs w → wpOp P ops Q i (wpAny P md ops Q (f + g) (listed.setIfInBounds i true)) a w))
theorem tree_dead {f : Nat} {listed : Array Bool} {fs : List Fact} {a : Act} (h : ¬ pl.lives fs) : tree P md ops Q pl n g f listed fs a := by
  cases f with
  | zero => exact fun w hw => absurd ⟨w, hw⟩ h
  | succ f => exact fun hl => absurd hl h
theorem gStep_mono {i : Nat} {o : Oper} {next next' : List Fact → Act → Prop} {fs fs' : List Fact} {a : Act} (hc : Covers fs fs') (hn : ∀ fs fs' a, Covers fs fs' → next fs a → next' fs' a) (h : gStep P ops pl i o next fs a) : gStep P ops pl i o next' fs' a := by
  unfold gStep at *
  split
  · rename_i hw
    simp only [hw, if_true] at h
    obtain ⟨F, h1, h2, h3⟩ := h
    exact ⟨F, h1, fun w hb hm => h2 w hb (hc.meets hm), fun v => hn _ _ _ (hc.cons _) (h3 v)⟩
  · rename_i hw
    simp only [hw] at h
    exact hn _ _ _ hc h
theorem tree_covers : ∀ (f : Nat) (listed : Array Bool) (fs fs' : List Fact) (a : Act), Covers fs fs' → tree P md ops Q pl n g f listed fs a → tree P md ops Q pl n g f listed fs' a
  | 0, _, _, _, _, hc, h => fun w hw => h w (hc.holds hw)
  | f + 1, _, _, _, _, hc, h => fun ⟨w, hw⟩ => by
    obtain ⟨h1, h2⟩ := h ⟨w, hc.holds hw⟩
    refine ⟨h1, fun i hi => ?_⟩
    rcases h2 i hi with ⟨hin, h3⟩ | ⟨hin, h3⟩
    · refine .inl ⟨hin, ?_⟩
      unfold gOp at *
      split
      · rename_i ho; simp only [ho] at h3
      · rename_i o ho
        simp only [ho] at h3
        exact gStep_mono hc (fun fs fs' a hc' h' => tree_covers f _ fs fs' a hc' h') h3
    · exact .inr ⟨hin, fun w hw => h3 w (hc.holds hw)⟩
def Tagged (pl : Plan) (listed : Array Bool) (fs : List Fact) : Prop := ∀ f ∈ fs, pl.stable f.at_ f.says ∧ listed.getD f.at_ false = true
theorem Tagged.set {listed : Array Bool} {fs : List Fact} (h : Tagged pl listed fs) (i : Nat) : Tagged pl (listed.setIfInBounds i true) fs := fun f hf => ⟨(h f hf).1, getD_set_true (h f hf).2⟩
theorem Tagged.cons {listed : Array Bool} {fs : List Fact} {i : Nat} {F : World → Prop} (h : Tagged pl listed fs) (hs : pl.stable i F) (hi : i < listed.size) : Tagged pl (listed.setIfInBounds i true) (⟨i, F⟩ :: fs) := fun f hf => by
  rcases List.mem_cons.1 hf with rfl | hf
  · exact ⟨hs, by simp [hi]⟩
  · exact h.set i f hf
/-- the facts that stand, and the new one, hold behind an operation -/
theorem holds_step (hok : pl.Ok) {listed : Array Bool} {fs : List Fact} {i : Nat} {F : World → Prop} {w w' : World} (ht : Tagged pl listed fs) (hun : listed.getD i true = false) (hw : pl.holds fs w) (hR : pl.R i w w') (hF : F w') : pl.holds (⟨i, F⟩ :: fs) w' :=
  ⟨hok.keep i w w' hw.1 hR, hF, allSay_iff.2 fun f hf => (ht f hf).1 i w w' (fun e => by subst e; have := (ht f hf).2; rw [getD_both hun] at this; cases this) (allSay_iff.1 hw.2 f hf) hR⟩
theorem wpAny_of_tree (hok : pl.Ok) : ∀ (f : Nat) (listed : Array Bool) (fs : List Fact) (a : Act) (w : World), listed.size = ops.size → Tagged pl listed fs → pl.holds fs w → tree P md ops Q pl n g f listed fs a → wpAny P md ops Q (f + g) listed a w
  | 0, _, _, _, w, _, _, hw, h => by rw [Nat.zero_add]; exact (h w hw).2
  | f + 1, listed, fs, a, w, hz, ht, hw, h => by
    obtain ⟨h1, h2⟩ := h ⟨w, hw⟩
    rw [show f + 1 + g = (f + g) + 1 by omega]
    refine ⟨fun h0 => absurd h0 h1, fun i hi => ?_⟩
    rcases h2 i hi with ⟨hin, h3⟩ | ⟨hin, h3⟩
    · unfold gOp at h3
      unfold wpOp
      have hun := (mem_ready.1 hi).1
      split
      · rename_i ho; simp only [ho] at h3
      · rename_i o ho
        simp only [ho] at h3
        have hlt : i < listed.size := by rw [hz]; exact (Array.getElem?_eq_some_iff.1 ho).1
        unfold gStep at h3
        split
        · rename_i hwt
          simp only [hwt, if_true] at h3
          obtain ⟨F, hs, hg, hn⟩ := h3
          have hm : meets (pl.deps i) fs w := meets_iff.2 fun p hp _ => allSay_iff.1 hw.2 p hp
          exact .inl (gives_wp (fun v w' ⟨hR, hF⟩ => wpAny_of_tree hok f _ _ _ w' (by simp [hz]) (ht.cons (hs v) hlt) (holds_step hok ht hun hw hR hF) (hn v)) (hg w hw.1 hm))
        · rename_i hwt
          simp only [hwt] at h3
          exact wpAny_of_tree hok f _ _ _ w (by simp [hz]) (ht.set i) hw h3
    · exact h3 w hw
/-- each leans only on what it waits for -/
def depsB (md : Region.Mode) (ops : Array Oper) (pl : Plan) : Bool :=
  (List.range ops.size).all fun j => (pl.deps j).all fun x => match ops[j]? with
    | some oj => oj.after.any fun e => Region.binds md e && (e.on == x || (pl.deps e.on).contains x)
    | none => false
def Closed (pl : Plan) (listed : Array Bool) : Prop := ∀ m, listed.getD m false = true → ∀ x ∈ pl.deps m, listed.getD x false = true
theorem ready_deps {listed : Array Bool} {j : Nat} (hd : depsB md ops pl = true) (hc : Closed pl listed) (hj : j ∈ Region.ready md ops listed) : ∀ x ∈ pl.deps j, listed.getD x false = true := fun x hx => by
  obtain ⟨_, oj, hoj, hall⟩ := mem_ready.1 hj
  have hlt : j < ops.size := (Array.getElem?_eq_some_iff.1 hoj).1
  have h1 := List.all_eq_true.1 (List.all_eq_true.1 hd j (List.mem_range.2 hlt)) x hx
  simp only [hoj] at h1
  obtain ⟨e, he, hb⟩ := Array.any_eq_true'.1 h1
  simp only [Bool.and_eq_true, Bool.or_eq_true, beq_iff_eq, List.contains_iff_mem] at hb
  have h2 := hall e he hb.1
  rcases hb.2 with h3 | h3
  · rw [← h3]; exact h2
  · exact hc _ h2 x h3
theorem Closed.set {listed : Array Bool} {j : Nat} (hd : depsB md ops pl = true) (hc : Closed pl listed) (hj : j ∈ Region.ready md ops listed) : Closed pl (listed.setIfInBounds j true) := fun m hm x hx => by
  by_cases h : j = m
  · subst h; exact getD_set_true (ready_deps hd hc hj x hx)
  · rw [getD_set_ne false h] at hm; exact getD_set_true (hc m hm x hx)
/-- the calls that have not come up wait for it -/
def lateB (pl : Plan) (listed : Array Bool) (i : Nat) : Bool := pl.calls.all fun j => j == i || listed.getD j false || (pl.deps j).contains i
/-- all behind the first n wait for it -/
def sinkB (ops : Array Oper) (pl : Plan) (n i : Nat) : Bool := (List.range ops.size).all fun t => decide (t < n) || (pl.deps t).contains i
/-- what one operation does in this state -/
def Has (P : Program) (ops : Array Oper) (pl : Plan) (i : Nat) (o : Oper) (F : Value → World → Prop) (fs : List Fact) (a : Act) : Prop :=
  (Region.wanted o (yielded ops a.tmps) = true ∧ ∀ w, pl.B w → meets (pl.deps i) fs w → gives P (pl.calls.contains i) o a w (fun v w' => pl.R i w w' ∧ F v w')) ∨
  (Region.wanted o (yielded ops a.tmps) = false ∧ F = fun v _ => v = undef)
theorem Has.of_same {i : Nat} {o : Oper} {F : Value → World → Prop} {fs fs' : List Fact} {a a' : Act} (h : Has P ops pl i o F fs a) (hc : Covers fs fs') (he : execOp a'.eval o = execOp a.eval o) (hw : Region.wanted o (yielded ops a'.tmps) = Region.wanted o (yielded ops a.tmps)) : Has P ops pl i o F fs' a' := by
  rcases h with ⟨h1, h2⟩ | ⟨h1, h2⟩
  · exact .inl ⟨by rw [hw]; exact h1, fun w hb hm => gives_congr he (h2 w hb (hc.meets hm))⟩
  · exact .inr ⟨by rw [hw]; exact h1, h2⟩
/-- it can come up: some value, some world -/
theorem Has.live (hok : pl.Ok) {i : Nat} {o : Oper} {F : Value → World → Prop} {fs : List Fact} {a : Act} {listed : Array Bool} (h : Has P ops pl i o F fs a) (ht : Tagged pl listed fs) (hun : listed.getD i true = false) {w : World} (hw : pl.holds fs w) : ∃ v, pl.lives (⟨i, F v⟩ :: fs) := by
  rcases h with ⟨_, h2⟩ | ⟨_, h2⟩
  · obtain ⟨v, w', hR, hF⟩ := gives_exists (h2 w hw.1 (meets_iff.2 fun p hp _ => allSay_iff.1 hw.2 p hp))
    exact ⟨v, w', holds_step hok ht hun hw hR hF⟩
  · exact ⟨undef, w, holds_step (F := F undef) hok ht hun hw (hok.refl i w) (by rw [h2])⟩
/-- a value that is the same in every world whatever -/
def Pure (P : Program) (ops : Array Oper) (o : Oper) (F : Value → World → Prop) (a : Act) : Prop := ∃ v0, (∀ v w, F v w → v = v0) ∧ Yields P ops o v0 a
theorem Lives.unpack {fs : List Fact} {f : Fact} (h : pl.lives (f :: fs)) : pl.lives fs := by
  obtain ⟨w, h1, h2⟩ := h
  exact ⟨w, h1, h2.2⟩
/-- AN OPERATION OF THE FIRST n MAY BE TAKEN FIRST -/
theorem tree_first {i : Nat} {oi : Oper} {F : Value → World → Prop} (hok : pl.Ok) (hi : ops[i]? = some oi) (hin : i < n) (hsel : ∀ (j : Nat) (o : Oper) cs b, ops[j]? = some o → o.op ≠ .select cs b)
    (hQ : ∀ c d v a w, Q (.panic c) (Act.put a d v) w → Q (.panic c) a w) (hd : depsB md ops pl = true) (hst : ∀ v, pl.stable i (F v)) :
    ∀ (f : Nat) (listed : Array Bool) (fs : List Fact) (a : Act), listed.size = ops.size → Tagged pl listed fs → Closed pl listed →
      (∀ j oj, ops[j]? = some oj → j ≠ i → listed.getD j true = false → (∀ e ∈ oj.after, Region.binds md e = true → e.on ≠ i) → oi.apart ops oj = true) →
      i ∈ Region.ready md ops listed → Has P ops pl i oi F fs a →
      (lateB pl listed i = true ∨ ∃ v0, ∀ v w, F v w → v = v0) → (sinkB ops pl n i = true ∨ Pure P ops oi F a) →
      (∀ v, tree P md ops Q pl n g f (listed.setIfInBounds i true) (⟨i, F v⟩ :: fs) (a.put oi.dst v)) → tree P md ops Q pl n g (f + 1) listed fs a := by
  intro f
  induction f with
  | zero =>
    intro listed fs a hz ht hcl hfree hr hh hlate hsink H ⟨w0, hw0⟩
    have hun := (mem_ready.1 hr).1
    refine ⟨fun h => (by rw [h] at hr; cases hr), fun j hj => ?_⟩
    obtain ⟨vs, ws, hws⟩ := hh.live hok ht hun hw0
    by_cases hji : j = i
    · subst hji
      refine .inl ⟨hin, ?_⟩
      unfold gOp gStep
      simp only [hi]
      rcases hh with ⟨h1, h2⟩ | ⟨h1, h2⟩
      · rw [if_pos h1]; exact ⟨F, hst, h2, H⟩
      · rw [if_neg (by rw [h1]; simp)]
        exact tree_covers _ _ _ _ _ (fun p hp => by
          rcases List.mem_cons.1 hp with rfl | hp
          · exact .inl fun w => by show F undef w; rw [h2]
          · exact .inr ⟨p, hp, rfl, fun _ h => h⟩) (H undef)
    · have hjn : n ≤ j := (H vs ws hws).1 j (ready_mono hj hji)
      refine .inr ⟨hjn, fun w hw => ?_⟩
      obtain ⟨hjun, oj, hoj, hall⟩ := mem_ready.1 hj
      have hjlt : j < ops.size := (Array.getElem?_eq_some_iff.1 hoj).1
      have hnot : ∀ e ∈ oj.after, Region.binds md e = true → e.on ≠ i := fun e he hb heq => by
        have h1 := hall e he hb
        rw [heq, getD_both hun] at h1; cases h1
      rcases hsink with hsink | ⟨v0, hv0, hy⟩
      · exfalso
        have h1 := List.all_eq_true.1 hsink j (List.mem_range.2 hjlt)
        simp only [Bool.or_eq_true, decide_eq_true_eq, List.contains_iff_mem] at h1
        have h2 := ready_deps hd hcl hj i (h1.resolve_left (by omega))
        rw [getD_both hun] at h2; cases h2
      · have hlv : pl.holds (⟨i, F v0⟩ :: fs) w := by
          obtain ⟨v1, w1, hw1⟩ := hh.live hok ht hun hw
          have e1 : v1 = v0 := hv0 v1 w1 hw1.2.1
          rcases hh with ⟨h1, h2⟩ | ⟨h1, h2⟩
          · rcases hy with ⟨_, hy2⟩ | ⟨hy1, _⟩
            · have h3 := h2 w hw.1 (meets_iff.2 fun p hp _ => allSay_iff.1 hw.2 p hp)
              unfold gives at h3
              rw [hy2 w] at h3
              exact ⟨hw.1, h3.2, hw.2⟩
            · rw [h1] at hy1; cases hy1
          · rcases hy with ⟨hy1, _⟩ | ⟨_, hy2⟩
            · rw [h1] at hy1; cases hy1
            · exact ⟨hw.1, by show F v0 w; rw [h2]; exact hy2, hw.2⟩
        have h3 := (H v0 w hlv).2
        cases g with
        | zero => have := ready_mono hj hji; rw [h3.1] at this; cases this
        | succ g =>
          have h4 := h3.2 j (ready_mono hj hji)
          have h5 := wpOp_put hoj (hfree j oj hoj hji hjun hnot) (fun cs b => hsel i oi cs b hi) (fun cs b => hsel j oj cs b hoj) (fun c a w => hQ c _ _ a w) hy h4
          rw [Nat.zero_add]
          refine wpOp_mono (fun a' w' h6 => ?_) h5
          refine wpAny_first hi hsel (fun c a w => hQ c _ _ a w) g _ a' w' (fun k ok hk hki hunk hno => hfree k ok hk hki (by
            by_cases hjk : j = k
            · subst hjk; exact hjun
            · rwa [getD_set_ne true hjk] at hunk) hno) (ready_mono hr (Ne.symm hji)) h6.1 ?_
          rw [Array.setIfInBounds_comm _ _ hji]; exact h6.2
  | succ f ih =>
    intro listed fs a hz ht hcl hfree hr hh hlate hsink H ⟨w0, hw0⟩
    have hun := (mem_ready.1 hr).1
    refine ⟨fun h => (by rw [h] at hr; cases hr), fun j hj => ?_⟩
    obtain ⟨vs, hvs⟩ := hh.live hok ht hun hw0
    by_cases hji : j = i
    · subst hji
      refine .inl ⟨hin, ?_⟩
      unfold gOp gStep
      simp only [hi]
      rcases hh with ⟨h1, h2⟩ | ⟨h1, h2⟩
      · rw [if_pos h1]; exact ⟨F, hst, h2, H⟩
      · rw [if_neg (by rw [h1]; simp)]
        exact tree_covers _ _ _ _ _ (fun p hp => by
          rcases List.mem_cons.1 hp with rfl | hp
          · exact .inl fun w => by show F undef w; rw [h2]
          · exact .inr ⟨p, hp, rfl, fun _ h => h⟩) (H undef)
    · obtain ⟨hjun, oj, hoj, hall⟩ := mem_ready.1 hj
      have hjlt : j < ops.size := (Array.getElem?_eq_some_iff.1 hoj).1
      have hnot : ∀ e ∈ oj.after, Region.binds md e = true → e.on ≠ i := fun e he hb heq => by
        have h1 := hall e he hb
        rw [heq, getD_both hun] at h1; cases h1
      have hap := hfree j oj hoj hji hjun hnot
      obtain ⟨hp1, hp2, hp3⟩ := Oper.apart_spec hap
      have hij : i ∉ pl.deps j := fun h => by
        have h2 := ready_deps hd hcl hj i h
        rw [getD_both hun] at h2; cases h2
      have hfree' : ∀ k ok, ops[k]? = some ok → k ≠ i → (listed.setIfInBounds j true).getD k true = false → (∀ e ∈ ok.after, Region.binds md e = true → e.on ≠ i) → oi.apart ops ok = true := fun k ok hk hki hunk hno => hfree k ok hk hki (by
        by_cases hjk : j = k
        · subst hjk; exact hjun
        · rwa [getD_set_ne true hjk] at hunk) hno
      have hlate' : lateB pl (listed.setIfInBounds j true) i = true ∨ ∃ v0, ∀ v w, F v w → v = v0 := hlate.imp (fun h => List.all_eq_true.2 fun k hk => by
        have h1 := List.all_eq_true.1 h k hk
        simp only [Bool.or_eq_true] at h1 ⊢
        rcases h1 with (h1 | h1) | h1
        · exact .inl (.inl h1)
        · exact .inl (.inr (getD_set_true h1))
        · exact .inr h1) id
      have hsink' : ∀ u, sinkB ops pl n i = true ∨ Pure P ops oi F (a.put oj.dst u) := fun u => hsink.imp id fun ⟨v0, h1, h2⟩ => ⟨v0, h1, h2.of_same (execOp_put oi (fun cs b => hsel i oi cs b hi) a oj.dst u hp3) (wanted_put oi a oj.dst u hp3)⟩
      have hhas : ∀ u fs', Covers fs fs' → Has P ops pl i oi F fs' (a.put oj.dst u) := fun u fs' hc => hh.of_same hc (execOp_put oi (fun cs b => hsel i oi cs b hi) a oj.dst u hp3) (wanted_put oi a oj.dst u hp3)
      have hmeet : ∀ v w, meets (pl.deps j) fs w → meets (pl.deps j) (⟨i, F v⟩ :: fs) w := fun v w h => ⟨fun h' => absurd (by simpa using h') hij, h⟩
      by_cases hjn : j < n
      · refine .inl ⟨hjn, ?_⟩
        have H2 : ∀ v, pl.lives (⟨i, F v⟩ :: fs) → gStep P ops pl j oj (tree P md ops Q pl n g f ((listed.setIfInBounds i true).setIfInBounds j true)) (⟨i, F v⟩ :: fs) (a.put oi.dst v) := fun v hv => by
          rcases (H v hv).2 j (ready_mono hj hji) with ⟨_, h⟩ | ⟨h, _⟩
          · unfold gOp at h; simp only [hoj] at h; exact h
          · omega
        unfold gOp
        simp only [hoj]
        unfold gStep
        have hwj : ∀ v, Region.wanted oj (yielded ops (a.put oi.dst v).tmps) = Region.wanted oj (yielded ops a.tmps) := fun v => wanted_put oj a oi.dst v hp1
        have hej : ∀ v, execOp a.eval oj = execOp (a.put oi.dst v).eval oj := fun v => (execOp_put oj (fun cs b => hsel j oj cs b hoj) a oi.dst v hp1).symm
        by_cases hwt : Region.wanted oj (yielded ops a.tmps) = true
        · rw [if_pos hwt]
          have H3 : ∀ v, pl.lives (⟨i, F v⟩ :: fs) → ∃ G : Value → World → Prop, (∀ u, pl.stable j (G u)) ∧ (∀ w, pl.B w → meets (pl.deps j) fs w → gives P (pl.calls.contains j) oj a w (fun u w' => pl.R j w w' ∧ G u w')) ∧
              ∀ u, tree P md ops Q pl n g f ((listed.setIfInBounds j true).setIfInBounds i true) (⟨j, G u⟩ :: ⟨i, F v⟩ :: fs) ((a.put oj.dst u).put oi.dst v) := fun v hv => by
            have h := H2 v hv
            unfold gStep at h
            rw [hwj v, if_pos hwt] at h
            obtain ⟨G, h1, h2, h3⟩ := h
            refine ⟨G, h1, fun w hb hm => gives_congr (hej v) (h2 w hb (hmeet v w hm)), fun u => ?_⟩
            have h4 := h3 u
            rw [Act.put_comm a v u hp2, ← Array.setIfInBounds_comm _ _ hji] at h4
            exact h4
          by_cases hcall : pl.calls.contains j = true
          · -- a call: then what i yields is known
            have hdet : ∃ v0, ∀ v w, F v w → v = v0 := by
              refine hlate.resolve_left fun h => ?_
              have h1 := List.all_eq_true.1 h j (by simpa using hcall)
              simp only [Bool.or_eq_true, beq_iff_eq] at h1
              rcases h1 with (h1 | h1) | h1
              · exact hji h1
              · have := getD_both hjun; rw [h1] at this; cases this
              · exact hij (by simpa using h1)
            obtain ⟨v0, hv0⟩ := hdet
            have hlv : ∀ v, pl.lives (⟨i, F v⟩ :: fs) → v = v0 := fun v ⟨w, hw⟩ => hv0 v w hw.2.1
            obtain rfl := hlv vs hvs
            obtain ⟨G, h1, h2, h3⟩ := H3 vs hvs
            refine ⟨G, h1, h2, fun u => ih _ _ _ (by simp [hz]) (ht.cons (h1 u) (by omega)) (hcl.set hd hj) hfree' (ready_mono hr (Ne.symm hji)) (hhas u _ (Covers.more _ _)) hlate' (hsink' u) fun v => ?_⟩
            by_cases hv : pl.lives (⟨i, F v⟩ :: fs)
            · obtain rfl := hlv v hv
              refine tree_covers _ _ _ _ _ (fun p hp => .inr ?_) (h3 u)
              simp only [List.mem_cons] at hp
              rcases hp with rfl | rfl | hp
              · exact ⟨_, List.mem_cons_of_mem _ (List.mem_cons_self ..), rfl, fun _ h => h⟩
              · exact ⟨_, List.mem_cons_self .., rfl, fun _ h => h⟩
              · exact ⟨_, List.mem_cons_of_mem _ (List.mem_cons_of_mem _ hp), rfl, fun _ h => h⟩
            · exact tree_dead fun ⟨w, hb, hA, _, hC⟩ => hv ⟨w, hb, hA, hC⟩
          · -- no call: one run serves all values
            have hcf : pl.calls.contains j = false := by simpa using hcall
            let ι := { v : Value // pl.lives (⟨i, F v⟩ :: fs) }
            have H4 : ∀ x : ι, _ := fun x => H3 x.1 x.2
            have hG := fun x : ι => Classical.choose_spec (H4 x)
            refine ⟨fun u w => ∀ x : ι, Classical.choose (H4 x) u w, fun u m w w' hm h hR x => (hG x).1 u m w w' hm (h x) hR, fun w hb hm => ?_, fun u => ?_⟩
            · have h5 := gives_all (P := P) (o := oj) (a := a) (w := w) hcf (⟨vs, hvs⟩ : ι) (p := fun x u w' => pl.R j w w' ∧ Classical.choose (H4 x) u w') (fun x => (hG x).2.1 w hb hm)
              exact gives_mono (fun u w' h => ⟨(h ⟨vs, hvs⟩).1, fun x => (h x).2⟩) h5
            · refine ih _ _ _ (by simp [hz]) (ht.cons (fun m w w' hm h hR x => (hG x).1 u m w w' hm (h x) hR) (by omega)) (hcl.set hd hj) hfree' (ready_mono hr (Ne.symm hji)) (hhas u _ (Covers.more _ _)) hlate' (hsink' u) fun v => ?_
              by_cases hv : pl.lives (⟨i, F v⟩ :: fs)
              · refine tree_covers _ _ _ _ _ (fun p hp => .inr ?_) ((hG ⟨v, hv⟩).2.2 u)
                simp only [List.mem_cons] at hp
                rcases hp with rfl | rfl | hp
                · exact ⟨_, List.mem_cons_of_mem _ (List.mem_cons_self ..), rfl, fun _ h => h ⟨v, hv⟩⟩
                · exact ⟨_, List.mem_cons_self .., rfl, fun _ h => h⟩
                · exact ⟨_, List.mem_cons_of_mem _ (List.mem_cons_of_mem _ hp), rfl, fun _ h => h⟩
              · exact tree_dead fun ⟨w, hb, hA, _, hC⟩ => hv ⟨w, hb, hA, hC⟩
        · rw [if_neg hwt]
          refine ih _ _ _ (by simp [hz]) (ht.set j) (hcl.set hd hj) hfree' (ready_mono hr (Ne.symm hji)) (hhas undef _ (fun p hp => .inr ⟨p, hp, rfl, fun _ h => h⟩)) hlate' (hsink' undef) fun v => ?_
          by_cases hv : pl.lives (⟨i, F v⟩ :: fs)
          · have h := H2 v hv
            unfold gStep at h
            rw [hwj v, if_neg hwt, Act.put_comm a v undef hp2, ← Array.setIfInBounds_comm _ _ hji] at h
            exact h
          · exact tree_dead hv
      · have hjn' : n ≤ j := by omega
        refine .inr ⟨hjn', fun w hw => ?_⟩
        rcases hsink with hsink | ⟨v0, hv0, hy⟩
        · exfalso
          have h1 := List.all_eq_true.1 hsink j (List.mem_range.2 hjlt)
          simp only [Bool.or_eq_true, decide_eq_true_eq, List.contains_iff_mem] at h1
          exact hij (h1.resolve_left (by omega))
        · have hlv : pl.holds (⟨i, F v0⟩ :: fs) w := by
            rcases hh with ⟨h1, h2⟩ | ⟨h1, h2⟩
            · rcases hy with ⟨_, hy2⟩ | ⟨hy1, _⟩
              · have h3 := h2 w hw.1 (meets_iff.2 fun p hp _ => allSay_iff.1 hw.2 p hp)
                unfold gives at h3
                rw [hy2 w] at h3
                exact ⟨hw.1, h3.2, hw.2⟩
              · rw [h1] at hy1; cases hy1
            · rcases hy with ⟨hy1, _⟩ | ⟨_, hy2⟩
              · rw [h1] at hy1; cases hy1
              · exact ⟨hw.1, by show F v0 w; rw [h2]; exact hy2, hw.2⟩
          have h4 : wpOp P ops Q j (wpAny P md ops Q (f + g) ((listed.setIfInBounds i true).setIfInBounds j true)) (a.put oi.dst v0) w := by
            rcases (H v0 ⟨w, hlv⟩).2 j (ready_mono hj hji) with ⟨h, _⟩ | ⟨_, h⟩
            · omega
            · exact h w hlv
          have h5 := wpOp_put hoj hap (fun cs b => hsel i oi cs b hi) (fun cs b => hsel j oj cs b hoj) (fun c a w => hQ c _ _ a w) hy h4
          rw [show f + 1 + g = (f + g) + 1 by omega]
          refine wpOp_mono (fun a' w' h6 => ?_) h5
          refine wpAny_first hi hsel (fun c a w => hQ c _ _ a w) (f + g) _ a' w' hfree' (ready_mono hr (Ne.symm hji)) h6.1 ?_
          rw [Array.setIfInBounds_comm _ _ hji]; exact h6.2
/-- ONE ORDER, WALKED: an operation that is passed over; one whose value is the same in every world that meets what is known; one whose value is new -/
def walk (P : Program) (ops : Array Oper) (pl : Plan) (n : Nat) (T : List Fact → Act → Prop) : List Nat → Array Bool → List Fact → Act → Prop
  | [], _, fs, a => T fs a
  | i :: C, listed, fs, a => ∃ o, ops[i]? = some o ∧
    ((Region.wanted o (yielded ops a.tmps) = false ∧ walk P ops pl n T C (listed.setIfInBounds i true) fs (a.put o.dst undef)) ∨
     (Region.wanted o (yielded ops a.tmps) = true ∧ ∃ v, (∀ w, pl.B w → meets (pl.deps i) fs w → (execOp a.eval o).run P w = .ok (.value v) w) ∧ (sinkB ops pl n i = true ∨ ∀ w, (execOp a.eval o).run P w = .ok (.value v) w) ∧ walk P ops pl n T C (listed.setIfInBounds i true) fs (a.put o.dst v)) ∨
     (Region.wanted o (yielded ops a.tmps) = true ∧ sinkB ops pl n i = true ∧ ∃ (ι : Type) (shape : ι → Value) (F : ι → World → Prop), (∀ x y, shape x = shape y → x = y) ∧ (∀ x, pl.stable i (F x)) ∧ (lateB pl listed i = true ∨ ∃ x0, ∀ x : ι, x = x0) ∧
       (∀ w, pl.B w → meets (pl.deps i) fs w → gives P (pl.calls.contains i) o a w (fun v w' => pl.R i w w' ∧ ∃ x, v = shape x ∧ F x w')) ∧ ∀ x, walk P ops pl n T C (listed.setIfInBounds i true) (⟨i, F x⟩ :: fs) (a.put o.dst (shape x))))
/-- the order is one of those that may be -/
def orderB (md : Region.Mode) (ops : Array Oper) (n g : Nat) : List Nat → Array Bool → Bool
  | [], listed => Region.seqB md ops g n listed
  | i :: C, listed => decide (i < n) && (Region.ready md ops listed).contains i && Region.free md ops listed i && orderB md ops n g C (listed.setIfInBounds i true)
theorem tree_of_walk {T : List Fact → Act → Prop} (hok : pl.Ok) (hs : Region.noSelect ops = true) (hQ : ∀ c d v a w, Q (.panic c) (Act.put a d v) w → Q (.panic c) a w) (hd : depsB md ops pl = true)
    (hT : ∀ listed fs a, Region.seqB md ops g n listed = true → T fs a → ∀ w, pl.holds fs w → wpAny P md ops Q g listed a w) :
    ∀ (C : List Nat) (listed : Array Bool) (fs : List Fact) (a : Act), listed.size = ops.size → Tagged pl listed fs → Closed pl listed → orderB md ops n g C listed = true → walk P ops pl n T C listed fs a → tree P md ops Q pl n g C.length listed fs a
  | [], listed, fs, a, _, _, _, hB, h => fun w hw => ⟨seqB_ready hB, hT listed fs a hB h w hw⟩
  | i :: C, listed, fs, a, hz, ht, hcl, hB, h => by
    obtain ⟨o, ho, h⟩ := h
    simp only [orderB, Bool.and_eq_true, decide_eq_true_eq] at hB
    obtain ⟨⟨⟨hin, hr⟩, hf⟩, hB'⟩ := hB
    have hr' : i ∈ Region.ready md ops listed := by simpa using hr
    have hlt : i < listed.size := by rw [hz]; exact (Array.getElem?_eq_some_iff.1 ho).1
    have hsz : (listed.setIfInBounds i true).size = ops.size := by simp [hz]
    have hcl' := hcl.set hd hr'
    have hfr := Region.free_spec ho hf
    rcases h with ⟨hw, h⟩ | ⟨hw, v0, hv, hpure, h⟩ | ⟨hw, hsk, ι, shape, F, hinj, hst, hlate, hg, h⟩
    · have hst : ∀ v, pl.stable i (fun _ : World => v = undef) := fun v m w w' _ h _ => h
      refine tree_first (F := fun v _ => v = undef) hok ho hin (Region.noSelect_spec hs) hQ hd hst C.length listed fs a hz ht hcl hfr hr' (.inr ⟨hw, rfl⟩) (.inr ⟨undef, fun _ _ h => h⟩) (.inr ⟨undef, fun _ _ h => h, .inr ⟨hw, rfl⟩⟩) fun v => ?_
      by_cases hvu : v = undef
      · subst hvu
        exact tree_covers _ _ _ _ _ (Covers.more _ _) (tree_of_walk hok hs hQ hd hT C _ _ _ hsz (ht.set i) hcl' hB' h)
      · exact tree_dead fun ⟨w, _, h2, _⟩ => hvu h2
    · have hst : ∀ v, pl.stable i (fun _ : World => v = v0) := fun v m w w' _ h _ => h
      refine tree_first (F := fun v _ => v = v0) hok ho hin (Region.noSelect_spec hs) hQ hd hst C.length listed fs a hz ht hcl hfr hr' (.inl ⟨hw, fun w hb hm => ?_⟩) (.inr ⟨v0, fun _ _ h => h⟩) (hpure.imp id fun h => ⟨v0, fun _ _ h => h, .inl ⟨hw, h⟩⟩) fun v => ?_
      · unfold gives; rw [hv w hb hm]; exact ⟨hok.refl i w, rfl⟩
      by_cases hvu : v = v0
      · subst hvu
        exact tree_covers _ _ _ _ _ (Covers.more _ _) (tree_of_walk hok hs hQ hd hT C _ _ _ hsz (ht.set i) hcl' hB' h)
      · exact tree_dead fun ⟨w, _, h2, _⟩ => hvu h2
    · refine tree_first (F := fun v w => ∃ x, v = shape x ∧ F x w) hok ho hin (Region.noSelect_spec hs) hQ hd (fun v m w w' hm ⟨x, h1, h2⟩ hR => ⟨x, h1, hst x m w w' hm h2 hR⟩) C.length listed fs a hz ht hcl hfr hr' (.inl ⟨hw, hg⟩) (hlate.imp id fun ⟨x0, h⟩ => ⟨shape x0, fun v w ⟨x, h1, _⟩ => by rw [h1, h x]⟩) (.inl hsk) fun v => ?_
      by_cases hv : ∃ x, v = shape x
      · obtain ⟨x, rfl⟩ := hv
        refine tree_covers _ _ _ _ _ (fun p hp => .inr ?_) (tree_of_walk hok hs hQ hd hT C _ _ _ hsz (ht.cons (hst x) hlt) hcl' hB' (h x))
        rcases List.mem_cons.1 hp with rfl | hp
        · exact ⟨_, List.mem_cons_self .., rfl, fun w ⟨y, h1, h2⟩ => by obtain rfl := hinj _ _ h1; exact h2⟩
        · exact ⟨p, List.mem_cons_of_mem _ hp, rfl, fun _ h => h⟩
      · exact tree_dead fun ⟨w, _, ⟨x, h1, _⟩, _⟩ => hv ⟨x, h1⟩
/-- all that is asked of a region, of the order and of the plan -/
def growB (ops : Array Oper) (pl : Plan) (n : Nat) (C : List Nat) : Bool :=
  Region.noSelect ops && decide (n ≤ ops.size) && decide (C.length = n) && depsB .any ops pl && orderB .any ops n (ops.size - n) C (Array.replicate ops.size false)
/-- Q, where all goes on as usual -/
def Calm (Q : Exit → Act → World → Prop) (e : Exit) (a : Act) (w : World) : Prop := e = .normal ∧ Q .normal a w
theorem Calm.normal {Q : Exit → Act → World → Prop} {a : Act} {w : World} (h : Q .normal a w) : Calm Q .normal a w := ⟨rfl, h⟩
theorem Calm.imp {Q : Exit → Act → World → Prop} : ∀ (e : Exit) (a : Act) (w : World), Calm Q e a w → Q e a w := fun e a w ⟨h1, h2⟩ => by rw [h1]; exact h2
/-- A REGION THAT DRAWS ITS ORDER, WALKED ONCE -/
theorem wp_region_grow {id : Nat} {a : Act} {w : World} {l : List Oper} (pl : Plan) (n : Nat) (C : List Nat) (hm : P.follows .mixedOrders = true) (hok : pl.Ok) (hB : growB l.toArray pl n C = true) (hB0 : pl.B { w with drawn := w.drawn + 1 })
    (h : walk P l.toArray pl n (fun fs a' => ∀ w', pl.B w' → allSay fs w' → wpList P l.toArray (Calm Q) (l.drop n) a' w') C (Array.replicate l.length false) [] a) : (Code.region id l.toArray true).wp P Q a w := by
  simp only [growB, Bool.and_eq_true, decide_eq_true_eq] at hB
  obtain ⟨⟨⟨⟨hs, hn⟩, hC⟩, hd⟩, ho⟩ := hB
  have hn' : n ≤ l.length := by simpa using hn
  have hdl : (l.drop n).length = l.toArray.size - n := by simp
  refine Code.wp_mono Calm.imp (wp_region_any hm ?_)
  have H := tree_of_walk (P := P) (T := fun fs a' => ∀ w', pl.B w' → allSay fs w' → wpList P l.toArray (Calm Q) (l.drop n) a' w') (md := .any) (ops := l.toArray) (Q := Calm Q) (pl := pl) (n := n) (g := l.toArray.size - n) hok hs (fun c d v a w h => by cases h.1) hd
    (fun listed fs a' hB hT w' hw' => by
      have := wpAny_of_seq (P := P) (md := .any) (Q' := Calm Q) (l.drop n) n listed a' w' (fun j => by simp [List.getElem?_drop]) (by rw [hdl]; exact hB) (hT w' hw'.1 hw'.2)
      rwa [hdl] at this)
    C (Array.replicate l.toArray.size false) [] a (by simp) (fun f hf => by cases hf) (fun m hm x hx => by rw [getD_replicate_false] at hm; cases hm) (by simpa using ho) (by simpa using h)
  have := wpAny_of_tree hok C.length _ [] a _ (by simp) (fun f hf => by cases hf) ⟨hB0, trivial⟩ H
  rw [hC, show n + (l.toArray.size - n) = l.toArray.size by simp; omega] at this
  exact this
/-- the same, over the operations themselves, in the order of the text -/
def text (P : Program) (ops : Array Oper) (pl : Plan) (n : Nat) (T : List Fact → Act → Prop) : Nat → List Oper → Array Bool → List Fact → Act → Prop
  | _, [], _, fs, a => T fs a
  | i, o :: l, listed, fs, a =>
    (Region.wanted o (yielded ops a.tmps) = false ∧ text P ops pl n T (i + 1) l (listed.setIfInBounds i true) fs (a.put o.dst undef)) ∨
     (Region.wanted o (yielded ops a.tmps) = true ∧ ∃ v, (∀ w, pl.B w → meets (pl.deps i) fs w → (execOp a.eval o).run P w = .ok (.value v) w) ∧ (sinkB ops pl n i = true ∨ ∀ w, (execOp a.eval o).run P w = .ok (.value v) w) ∧ text P ops pl n T (i + 1) l (listed.setIfInBounds i true) fs (a.put o.dst v)) ∨
     (Region.wanted o (yielded ops a.tmps) = true ∧ sinkB ops pl n i = true ∧ ∃ (ι : Type) (shape : ι → Value) (F : ι → World → Prop), (∀ x y, shape x = shape y → x = y) ∧ (∀ x, pl.stable i (F x)) ∧ (lateB pl listed i = true ∨ ∃ x0, ∀ x : ι, x = x0) ∧
       (∀ w, pl.B w → meets (pl.deps i) fs w → gives P (pl.calls.contains i) o a w (fun v w' => pl.R i w w' ∧ ∃ x, v = shape x ∧ F x w')) ∧ ∀ x, text P ops pl n T (i + 1) l (listed.setIfInBounds i true) (⟨i, F x⟩ :: fs) (a.put o.dst (shape x)))
theorem walk_of_text {T : List Fact → Act → Prop} : ∀ (l : List Oper) (i : Nat) (listed : Array Bool) (fs : List Fact) (a : Act), (∀ j, j < l.length → l[j]? = ops[i + j]?) → text P ops pl n T i l listed fs a → walk P ops pl n T (List.range' i l.length) listed fs a
  | [], _, _, _, _, _, h => h
  | o :: l, i, listed, fs, a, hl, h => by
    have h0 : ops[i]? = some o := by simpa using (hl 0 (by simp)).symm
    have hl' : ∀ j, j < l.length → l[j]? = ops[i + 1 + j]? := fun j hj => by have := hl (j + 1) (by simp; omega); simpa [Nat.add_assoc, Nat.add_comm 1 j] using this
    rw [List.length_cons, List.range'_succ]
    refine ⟨o, h0, ?_⟩
    rcases h with ⟨hw, h⟩ | ⟨hw, v, hv, hp, h⟩ | ⟨hw, hs, ι, shape, F, h1, h2, h3, h4, h⟩
    · exact .inl ⟨hw, walk_of_text l _ _ _ _ hl' h⟩
    · exact .inr (.inl ⟨hw, v, hv, hp, walk_of_text l _ _ _ _ hl' h⟩)
    · exact .inr (.inr ⟨hw, hs, ι, shape, F, h1, h2, h3, h4, fun x => walk_of_text l _ _ _ _ hl' (h x)⟩)
section
variable {T : List Fact → Act → Prop} {i : Nat} {l : List Oper} {listed : Array Bool} {fs : List Fact} {a : Act} {o : Oper}
theorem text_nil (h : T fs a) : text P ops pl n T i [] listed fs a := h
theorem text_skip (hw : Region.wanted o (yielded ops a.tmps) = false) (h : text P ops pl n T (i + 1) l (listed.setIfInBounds i true) fs (a.put o.dst undef)) : text P ops pl n T i (o :: l) listed fs a := .inl ⟨hw, h⟩
/-- an operation that yields the same value in every world -/
theorem text_pure {v : Value} (hw : Region.wanted o (yielded ops a.tmps) = true) (hv : ∀ w, (execOp a.eval o).run P w = .ok (.value v) w) (h : text P ops pl n T (i + 1) l (listed.setIfInBounds i true) fs (a.put o.dst v)) : text P ops pl n T i (o :: l) listed fs a :=
  .inr (.inl ⟨hw, v, fun w _ _ => hv w, .inr hv, h⟩)
/-- an operation that reads what is known -/
theorem text_read {v : Value} (hw : Region.wanted o (yielded ops a.tmps) = true) (hs : sinkB ops pl n i = true) (hv : ∀ w, pl.B w → meets (pl.deps i) fs w → (execOp a.eval o).run P w = .ok (.value v) w) (h : text P ops pl n T (i + 1) l (listed.setIfInBounds i true) fs (a.put o.dst v)) : text P ops pl n T i (o :: l) listed fs a :=
  .inr (.inl ⟨hw, v, hv, .inl hs, h⟩)
/-- an operation whose value is new -/
theorem text_new {ι : Type} (shape : ι → Value) (F : ι → World → Prop) (hw : Region.wanted o (yielded ops a.tmps) = true) (hs : sinkB ops pl n i = true) (hl : lateB pl listed i = true) (hinj : ∀ x y, shape x = shape y → x = y) (hst : ∀ x, pl.stable i (F x))
    (hg : ∀ w, pl.B w → meets (pl.deps i) fs w → ∀ K : Value → World → Prop, (∀ x w', pl.R i w w' → F x w' → K (shape x) w') → gives P (pl.calls.contains i) o a w K) (h : ∀ x, text P ops pl n T (i + 1) l (listed.setIfInBounds i true) (⟨i, F x⟩ :: fs) (a.put o.dst (shape x))) : text P ops pl n T i (o :: l) listed fs a :=
  .inr (.inr ⟨hw, hs, ι, shape, F, hinj, hst, .inl hl, fun w hb hm => hg w hb hm _ fun x _ h1 h2 => ⟨h1, x, rfl, h2⟩, h⟩)
/-- an operation whose value is known, and which may change the world -/
theorem text_known (v : Value) (F : World → Prop) (hw : Region.wanted o (yielded ops a.tmps) = true) (hs : sinkB ops pl n i = true) (hst : pl.stable i F)
    (hg : ∀ w, pl.B w → meets (pl.deps i) fs w → ∀ K : Value → World → Prop, (∀ w', pl.R i w w' → F w' → K v w') → gives P (pl.calls.contains i) o a w K) (h : text P ops pl n T (i + 1) l (listed.setIfInBounds i true) (⟨i, F⟩ :: fs) (a.put o.dst v)) : text P ops pl n T i (o :: l) listed fs a :=
  .inr (.inr ⟨hw, hs, Unit, fun _ => v, fun _ => F, fun _ _ _ => rfl, fun _ => hst, .inr ⟨(), fun _ => rfl⟩, fun w hb hm => hg w hb hm _ fun _ h1 h2 => ⟨h1, (), rfl, h2⟩, fun _ => h⟩)
theorem gives_call {call : Bool} {post : Value → World → Prop} {w : World} {f : FuncId} {args : Array Value} (hc : call = true) (hr : (execOp a.eval o).run P w = .ok (.enter f args) w) (h : Calls P f args w fun e w' => ∃ v, e = .returned v ∧ post v w') : gives P call o a w post := by
  unfold gives; rw [hr]; exact ⟨hc, h⟩
/-- a call whose value is new -/
theorem text_call {ι : Type} (shape : ι → Value) (F : ι → World → Prop) {f : FuncId} {args : Array Value} (hw : Region.wanted o (yielded ops a.tmps) = true) (hs : sinkB ops pl n i = true) (hl : lateB pl listed i = true) (hcl : pl.calls.contains i = true) (hinj : ∀ x y, shape x = shape y → x = y) (hst : ∀ x, pl.stable i (F x))
    (hr : ∀ w, (execOp a.eval o).run P w = .ok (.enter f args) w) (hg : ∀ w, pl.B w → meets (pl.deps i) fs w → Calls P f args w fun e w' => ∃ x, e = .returned (shape x) ∧ pl.R i w w' ∧ F x w')
    (h : ∀ x, text P ops pl n T (i + 1) l (listed.setIfInBounds i true) (⟨i, F x⟩ :: fs) (a.put o.dst (shape x))) : text P ops pl n T i (o :: l) listed fs a :=
  text_new shape F hw hs hl hinj hst (fun w hb hm _ hK => gives_call hcl (hr w) ((hg w hb hm).mono fun _ _ ⟨x, he, h1, h2⟩ => ⟨shape x, he, hK x _ h1 h2⟩)) h
/-- a call whose value is known -/
theorem text_callk (v : Value) (F : World → Prop) {f : FuncId} {args : Array Value} (hw : Region.wanted o (yielded ops a.tmps) = true) (hs : sinkB ops pl n i = true) (hcl : pl.calls.contains i = true) (hst : pl.stable i F)
    (hr : ∀ w, (execOp a.eval o).run P w = .ok (.enter f args) w) (hg : ∀ w, pl.B w → meets (pl.deps i) fs w → Calls P f args w fun e w' => e = .returned v ∧ pl.R i w w' ∧ F w')
    (h : text P ops pl n T (i + 1) l (listed.setIfInBounds i true) (⟨i, F⟩ :: fs) (a.put o.dst v)) : text P ops pl n T i (o :: l) listed fs a :=
  text_known v F hw hs hst (fun w hb hm _ hK => gives_call hcl (hr w) ((hg w hb hm).mono fun _ _ ⟨he, h1, h2⟩ => ⟨v, he, hK _ h1 h2⟩)) h
end
/-- on which others each operation leans: all for which it waits, through others too -/
def closeD (l : List Oper) : List (List Nat) := l.foldl (fun acc o => acc ++ [(o.after.toList.filter (Region.binds .any)).foldl (fun s e => (e.on :: acc.getD e.on []).foldl (fun s x => if s.contains x then s else x :: s) s) []]) []
def plan (l : List Oper) (calls : List Nat) (R : Nat → World → World → Prop) (B : World → Prop) : Plan := ⟨closeD l, calls, R, B⟩
/-- where nothing that there is turns but for the blocks of S -/
def KeepR (S : Nat → Prop) (_ : Nat) (w w' : World) : Prop := Keeps S w w'
theorem keepOk {l : List Oper} {calls : List Nat} {S : Nat → Prop} {B : World → Prop} (h : ∀ w w', B w → Keeps S w w' → B w') : (plan l calls (KeepR S) B).Ok := ⟨fun _ w => Keeps.refl S w, fun _ w w' hb hk => h w w' hb hk⟩
theorem keepStable {l : List Oper} {calls : List Nat} {S : Nat → Prop} {B : World → Prop} {i : Nat} {F : World → Prop} (h : ∀ w w', F w → Keeps S w w' → F w') : (plan l calls (KeepR S) B).stable i F := fun _ w w' _ hf hk => h w w' hf hk
/-- the usual region: nothing that there is turns but for the blocks of S -/
theorem wp_region_keep {id : Nat} {Q : Exit → Act → World → Prop} {a : Act} {w : World} {l : List Oper} (calls : List Nat) (S : Nat → Prop) (B : World → Prop) (n : Nat) (C : List Nat) (hm : P.follows .mixedOrders = true) (hk : ∀ w w', B w → Keeps S w w' → B w')
    (hB : growB l.toArray (plan l calls (KeepR S) B) n C = true) (hB0 : B w.drew)
    (h : walk P l.toArray (plan l calls (KeepR S) B) n (fun fs a' => ∀ w', B w' → allSay fs w' → wpList P l.toArray (Calm Q) (l.drop n) a' w') C (Array.replicate l.length false) [] a) : (Code.region id l.toArray true).wp P Q a w :=
  wp_region_grow (plan l calls (KeepR S) B) n C hm (keepOk hk) hB hB0 h
/-- the usual region, in the order of the text -/
theorem wp_region_text {id : Nat} {Q : Exit → Act → World → Prop} {a : Act} {w : World} {l : List Oper} (calls : List Nat) (S : Nat → Prop) (B : World → Prop) (n : Nat) (hm : P.follows .mixedOrders = true) (hk : ∀ w w', B w → Keeps S w w' → B w')
    (hB : growB l.toArray (plan l calls (KeepR S) B) n (List.range' 0 (l.take n).length) = true) (hB0 : B w.drew)
    (h : text P l.toArray (plan l calls (KeepR S) B) n (fun fs a' => ∀ w', B w' → allSay fs w' → wpList P l.toArray (Calm Q) (l.drop n) a' w') 0 (l.take n) (Array.replicate l.length false) [] a) : (Code.region id l.toArray true).wp P Q a w :=
  wp_region_grow (plan l calls (KeepR S) B) n _ hm (keepOk hk) hB hB0 (walk_of_text (l.take n) 0 _ _ _ (fun j hj => by rw [List.length_take] at hj; simp [show j < n by omega]) h)
end
end Go.Proofs.Ytnficiohnhodiaa
