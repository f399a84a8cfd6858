import Derived.WalkKit
import Derived.WalkSpells
import Derived.WalkLawsBesides
import Derived.Deep.QuietTactic
import Derived.BigQuiet
import Derived.Lib.Hide
import Derived.ChangeMaps4
import Derived.Maps.RangeRun
import Derived.Maps.AppendAt
import Derived.Laws.AppendOwnNone
import Derived.Deep.AppendSrc
import Derived.Deep.Upon
import Derived.Deep.MidRow
/-
  Worlds and maps with int keys: what a step leaves alone; what a map holds, as a list of pairs.
-/
namespace Go.Proofs.Ytnficiohnhodiaa
open Go.RowKit
open Go.ChangeMaps (setBlock)
theorem ret_bool {a b : Bool} (h : a = b) : Ending.returned (.bool a) = .returned (.bool b) := by rw [h]
theorem ret_int {k : IntKind} {a b : Int} (h : a = b) : Ending.returned (.int k a) = .returned (.int k b) := by rw [h]
/-- all blocks that were there are as they were, but those of S -/
structure Keeps (S : Nat → Prop) (w w' : World) : Prop where
  os : w'.os = w.os
  tape : w'.tape = w.tape
  output : w'.output = w.output
  size : w.heap.size ≤ w'.heap.size
  block : ∀ k, k < w.heap.size → ¬ S k → w'.heap[k]? = w.heap[k]?
theorem Keeps.refl (S : Nat → Prop) (w : World) : Keeps S w w := ⟨rfl, rfl, rfl, Nat.le_refl _, fun _ _ _ => rfl⟩
theorem Keeps.trans {S : Nat → Prop} {a b c : World} (h : Keeps S a b) (k : Keeps S b c) : Keeps S a c :=
  ⟨k.os.trans h.os, k.tape.trans h.tape, k.output.trans h.output, Nat.le_trans h.size k.size, fun i hi hs => (k.block i (Nat.lt_of_lt_of_le hi h.size) hs).trans (h.block i hi hs)⟩
theorem Keeps.mono {S T : Nat → Prop} {a b : World} (h : Keeps S a b) (hs : ∀ k, k < a.heap.size → S k → T k) : Keeps T a b :=
  ⟨h.os, h.tape, h.output, h.size, fun i hi ht => h.block i hi (fun h' => ht (hs i hi h'))⟩
/-- two steps; the second one may also touch what is new since the first -/
theorem Keeps.trans' {S T : Nat → Prop} {a b c : World} (h : Keeps S a b) (k : Keeps T b c) (ht : ∀ i, i < a.heap.size → T i → S i) : Keeps S a c :=
  ⟨k.os.trans h.os, k.tape.trans h.tape, k.output.trans h.output, Nat.le_trans h.size k.size, fun i hi hs => (k.block i (Nat.lt_of_lt_of_le hi h.size) (fun h' => hs (ht i hi h'))).trans (h.block i hi hs)⟩
theorem Keeps.of_below {S : Nat → Prop} {a b : World} (h : Below a.heap.size a b) : Keeps S a b := ⟨h.os, h.tape, h.output, h.size, fun k hk _ => h.block k hk⟩
theorem Keeps.below {S : Nat → Prop} {B : Nat} {a b : World} (h : Keeps S a b) (hB : B ≤ a.heap.size) (hs : ∀ k, k < B → ¬ S k) : Below B a b :=
  ⟨h.os, h.tape, h.output, h.size, fun k hk => h.block k (Nat.lt_of_lt_of_le hk hB) (hs k hk)⟩
theorem Keeps.at {S : Nat → Prop} {a b : World} {k : Nat} {o : Obj} (h : Keeps S a b) (hk : a.heap[k]? = some o) (hs : ¬ S k) : b.heap[k]? = some o :=
  (h.block k (Array.getElem?_eq_some_iff.1 hk).1 hs).trans hk
theorem Keeps.cell {S : Nat → Prop} {a b : World} {p : Addr} {v : Value} (h : Keeps S a b) (hk : a.cell? p = some v) (hs : ¬ S p.block) : b.cell? p = some v :=
  (World.cell?_of_block (h.block p.block (World.block_lt_of_cell? a p hk) hs)).trans hk
theorem Keeps.drewN {S : Nat → Prop} {a b : World} (n : Nat) (h : Keeps S a b) : Keeps S a (b.drewN n) := ⟨h.os, h.tape, h.output, h.size, h.block⟩
theorem Keeps.drew {S : Nat → Prop} {a b : World} (h : Keeps S a b) : Keeps S a b.drew := ⟨h.os, h.tape, h.output, h.size, h.block⟩
theorem Keeps.alloc {S : Nat → Prop} {a b : World} (h : Keeps S a b) (o : Obj) : Keeps S a (b.alloc o) :=
  h.trans (Keeps.of_below ((Below.refl _ _).alloc (Nat.le_refl _) o))
theorem Keeps.setCell {S : Nat → Prop} {a b : World} (h : Keeps S a b) {p : Addr} (hp : S p.block ∨ a.heap.size ≤ p.block) (u : Value) : Keeps S a (b.setCell p u) :=
  ⟨h.os, h.tape, h.output, by simpa [World.setCell] using h.size, fun k hk hs => (Below.heap_setCell b p u k (by rcases hp with hp | hp; exact fun e => hs (e ▸ hp); omega)).trans (h.block k hk hs)⟩
theorem heap_setBlock_ne (w : World) (r : Nat) (o : Obj) (k : Nat) (h : k ≠ r) : (setBlock w r o).heap[k]? = w.heap[k]? := by
  simp only [setBlock, Array.getElem?_setIfInBounds]; rw [if_neg (by omega)]
theorem heap_setBlock (w : World) (r : Nat) (o o' : Obj) (h : w.heap[r]? = some o') : (setBlock w r o).heap[r]? = some o := by
  have := (Array.getElem?_eq_some_iff.1 h).1
  simp [setBlock, this]
theorem Keeps.setBlock {S : Nat → Prop} {a b : World} (h : Keeps S a b) {r : Nat} (hp : S r ∨ a.heap.size ≤ r) (o : Obj) : Keeps S a (setBlock b r o) :=
  ⟨h.os, h.tape, h.output, by simpa [ChangeMaps.setBlock] using h.size, fun k hk hs => (heap_setBlock_ne b r o k (by rcases hp with hp | hp; exact fun e => hs (e ▸ hp); omega)).trans (h.block k hk hs)⟩
theorem cell_in {W : World} {b o : Nat} {cs : Array Value} {e : TypeId} {fz : Nat × Nat} (h : W.heap[b]? = some (.cells cs e fz)) {u : Value} (hu : cs[o]? = some u) : W.cell? ⟨b, o, none⟩ = some u := by
  unfold World.cell?; simp only [h]; simpa using hu
theorem free_in {W : World} {b o : Nat} {cs : Array Value} {e : TypeId} (h : W.heap[b]? = some (.cells cs e (0, 0))) : W.frozen? ⟨b, o, none⟩ = false := by
  unfold World.frozen?; simp [h]
theorem heap_setCell (w : World) (b i : Nat) (v : Value) (cs : Array Value) (e : TypeId) (fz : Nat × Nat) (h : w.heap[b]? = some (.cells cs e fz)) : (w.setCell ⟨b, i, none⟩ v).heap[b]? = some (.cells (cs.setIfInBounds i v) e fz) := by
  simp [World.setCell, Array.getElem?_modify, h]
theorem alloc_at (W : World) (o : Obj) (b : Nat) (hb : W.heap.size = b) : (W.alloc o).heap[b]? = some o := by subst hb; exact heap_alloc_new W o
theorem lt_of {W : World} {b : Nat} {o : Obj} (h : W.heap[b]? = some o) : b < W.heap.size := (Array.getElem?_eq_some_iff.1 h).1
theorem at_alloc {W : World} {b : Nat} {o : Obj} (h : W.heap[b]? = some o) (o' : Obj) : (W.alloc o').heap[b]? = some o := (Below.heap_alloc W o' b (lt_of h)).trans h
theorem at_setCell {W : World} {b : Nat} {o : Obj} (h : W.heap[b]? = some o) (p : Addr) (hp : b ≠ p.block) (v : Value) : (W.setCell p v).heap[b]? = some o := (Below.heap_setCell W p v b hp).trans h
theorem at_setBlock {W : World} {b : Nat} {o : Obj} (h : W.heap[b]? = some o) (r : Nat) (hp : b ≠ r) (o' : Obj) : (setBlock W r o').heap[b]? = some o := (heap_setBlock_ne W r o' b hp).trans h
/-! maps with int keys -/
abbrev IM := List (Int × Value)
def IM.get (l : IM) (k : Int) : Option Value := (l.find? fun p => p.1 == k).map (·.2)
def IM.put (l : IM) (k : Int) (v : Value) : IM := if l.any (fun p => p.1 == k) then l.map (fun p => if p.1 = k then (k, v) else p) else l ++ [(k, v)]
def IM.del (l : IM) (k : Int) : IM := l.filter (fun p => !(p.1 == k))
/-- the entries of a map, and what they are -/
structure Ents (es : Array MapEntry) (clock : Nat) (l : IM) : Prop where
  same : es.toList.map (fun e => (e.key, e.val)) = l.map (fun p => (Value.int .i64 p.1, p.2))
  keys : (l.map (·.1)).Nodup
  born : (es.toList.map (·.born)).Pairwise (· < ·)
  late : ∀ e ∈ es.toList, e.born < clock
def IMap (w : World) (r : Nat) (l : IM) : Prop := ∃ es clock, w.heap[r]? = some (.map es clock) ∧ Ents es clock l
theorem imap_nil {w : World} {r clock : Nat} (h : w.heap[r]? = some (.map #[] clock)) : IMap w r [] := ⟨#[], clock, h, ⟨rfl, List.nodup_nil, List.Pairwise.nil, by simp⟩⟩
theorem IMap.kept {w w' : World} {r : Nat} {l : IM} (h : IMap w r l) (hb : w'.heap[r]? = w.heap[r]?) : IMap w' r l := by
  obtain ⟨es, c, h1, h2⟩ := h; exact ⟨es, c, hb.trans h1, h2⟩
theorem IMap.lt {w : World} {r : Nat} {l : IM} (h : IMap w r l) : r < w.heap.size := by obtain ⟨es, c, h1, _⟩ := h; exact lt_of h1
theorem IMap.keeps {S : Nat → Prop} {w w' : World} {r : Nat} {l : IM} (h : IMap w r l) (hk : Keeps S w w') (hs : ¬ S r) : IMap w' r l := h.kept (hk.block r h.lt hs)
def findIx (l : IM) (k : Int) (i : Nat) : Option (Nat × Value) :=
  match l with
  | [] => none
  | p :: l => if p.1 = k then some (i, p.2) else findIx l k (i + 1)
theorem findIx_get (l : IM) (k : Int) (i : Nat) : (findIx l k i).map (·.2) = l.get k := by
  induction l generalizing i with
  | nil => rfl
  | cons p l ih =>
    unfold findIx IM.get
    by_cases h : p.1 = k
    · rw [if_pos h, List.find?_cons_of_pos (by simpa using h)]; rfl
    · rw [if_neg h, List.find?_cons_of_neg (by simpa using h)]; exact ih _
theorem findNow_ents (es : List MapEntry) (l : IM) (k : Int) (i : Nat) (h : es.map (fun e => (e.key, e.val)) = l.map (fun p => (Value.int .i64 p.1, p.2))) :
    Instr.findNow (.int .i64) (.int .i64 k) es i = some (findIx l k i) := by
  induction es generalizing l i with
  | nil => cases l with
    | nil => rfl
    | cons p l => simp at h
  | cons e es ih =>
    cases l with
    | nil => simp at h
    | cons p l =>
      simp only [List.map_cons, List.cons.injEq, Prod.mk.injEq] at h
      obtain ⟨⟨h1, h2⟩, h3⟩ := h
      unfold Instr.findNow findIx
      rw [h1]
      simp only [Instr.sameNow, if_true]
      by_cases hk : p.1 = k
      · subst hk; simp [h2]
      · have : (k == p.1) = false := by simp; exact fun e => hk e.symm
        rw [this, if_neg hk]; exact ih l _ h3
section
variable {P : Program} {T K E : TypeId}
theorem run_findKey (hK : P.underlying K = some (.int .i64)) (w : World) (es : Array MapEntry) (clock : Nat) (l : IM) (k : Int) (h : Ents es clock l) :
    (Instr.findKey K (.int .i64 k) es.toList).run P w = .ok (findIx l k 0) w := by
  unfold Instr.findKey
  simp [run_underlying hK, findNow_ents _ l k 0 h.same]
theorem run_checkKey (hK : P.underlying K = some (.int .i64)) (w : World) (b : Bool) (n : Nat) (k : Int) : (Instr.checkKey b (n + 1) K (.int .i64 k)).run P w = .ok () w := by
  unfold Instr.checkKey
  simp [run_underlying hK]
theorem run_lookup_im (hT : P.underlying T = some (.map K E)) (hK : P.underlying K = some (.int .i64)) {w : World} {r : Nat} {l : IM} (h : IMap w r l) (z : Value) (hz : (zeroValue E).run P w = .ok z w) (k : Int) (ok : Bool) :
    (Instr.lookup T (.map (some r)) (.int .i64 k) ok).run P w = .ok (if ok then .tuple #[(l.get k).getD z, .bool (l.get k).isSome] else (l.get k).getD z) w := by
  obtain ⟨es, c, h1, h2⟩ := h
  have hf := run_findKey hK w es c l k h2
  have hg := findIx_get l k 0
  unfold Instr.lookup
  simp only [run_underlying hT, Sem.run_bind, Result.andThen, getObj, Sem.run, Sem.run_pure, h1, run_checkKey hK]
  rw [hf]
  cases hx : findIx l k 0 with
  | none =>
    rw [hx] at hg
    simp only [Option.map_none] at hg
    rw [← hg]
    cases ok <;> simp [hz]
  | some x =>
    rw [hx] at hg
    simp only [Option.map_some] at hg
    rw [← hg]
    cases ok <;> simp
theorem run_lookup_im_nil (hT : P.underlying T = some (.map K E)) (hK : P.underlying K = some (.int .i64)) {w : World} (z : Value) (hz : (zeroValue E).run P w = .ok z w) (k : Int) (ok : Bool) :
    (Instr.lookup T (.map none) (.int .i64 k) ok).run P w = .ok (if ok then .tuple #[z, .bool false] else z) w := by
  unfold Instr.lookup
  simp [run_underlying hT, run_checkKey hK, Instr.findKey, run_underlying hK, Instr.findNow, hz]
theorem sameBits_int (k : Int) : Instr.sameBits 10000 (.int .i64 k) (.int .i64 k) = true := by simp [Instr.sameBits]
theorem findIx_lt (l : IM) (k : Int) (i j : Nat) (v : Value) (h : findIx l k i = some (j, v)) : i ≤ j ∧ j < i + l.length ∧ l[j - i]? = some (k, v) := by
  induction l generalizing i with
  | nil => cases h
  | cons p l ih =>
    unfold findIx at h
    by_cases hk : p.1 = k
    · rw [if_pos hk] at h; cases h; simp; rw [← hk]
    · rw [if_neg hk] at h
      obtain ⟨h1, h2, h3⟩ := ih _ h
      refine ⟨by omega, by simp; omega, ?_⟩
      obtain ⟨d, rfl⟩ : ∃ d, j = i + 1 + d := ⟨j - (i + 1), by omega⟩
      rw [show i + 1 + d - i = d + 1 from by omega]
      simpa using h3
theorem findIx_none (l : IM) (k : Int) (i : Nat) (h : findIx l k i = none) : ∀ p ∈ l, p.1 ≠ k := by
  induction l generalizing i with
  | nil => simp
  | cons p l ih =>
    unfold findIx at h
    by_cases hk : p.1 = k
    · rw [if_pos hk] at h; cases h
    · rw [if_neg hk] at h
      intro q hq
      rcases List.mem_cons.1 hq with rfl | hq
      · exact hk
      · exact ih _ h q hq
theorem put_at (l : IM) (k : Int) (j : Nat) (v v' : Value) (hn : (l.map (·.1)).Nodup) (h : l[j]? = some (k, v)) : l.put k v' = l.set j (k, v') := by
  have hj := (List.getElem?_eq_some_iff.1 h)
  obtain ⟨hj1, hj2⟩ := hj
  unfold IM.put
  rw [if_pos (by rw [List.any_eq_true]; exact ⟨(k, v), by rw [← hj2]; exact List.getElem_mem hj1, by simp⟩)]
  apply List.ext_getElem?
  intro i
  rw [List.getElem?_map, List.getElem?_set]
  by_cases hi : j = i
  · subst hi; rw [if_pos rfl, h]; simp [hj1]
  · rw [if_neg hi]
    cases hl : l[i]? with
    | none => rfl
    | some p =>
      obtain ⟨hi1, hi2⟩ := List.getElem?_eq_some_iff.1 hl
      have : p.1 ≠ k := by
        intro e
        have h1 : (l.map (·.1))[i]'(by simpa using hi1) = (l.map (·.1))[j]'(by simpa using hj1) := by
          simp only [List.getElem_map, hi2, hj2, e]
        exact hi ((List.getElem_inj hn).1 h1).symm
      simp [this]
theorem put_new (l : IM) (k : Int) (v : Value) (h : ∀ p ∈ l, p.1 ≠ k) : l.put k v = l ++ [(k, v)] := by
  unfold IM.put
  rw [if_neg]
  rw [Bool.not_eq_true, List.any_eq_false]
  intro p hp; simpa using h p hp
theorem run_mapUpdate_im (hT : P.underlying T = some (.map K E)) (hK : P.underlying K = some (.int .i64)) {w : World} {r : Nat} {l : IM} (h : IMap w r l) (k : Int) (v : Value) :
    ∃ w', (Instr.mapUpdate T (.map (some r)) (.int .i64 k) v).run P w = .ok () w' ∧ IMap w' r (l.put k v) ∧ Keeps (· = r) w w' ∧ w'.heap.size = w.heap.size := by
  obtain ⟨es, c, h1, h2⟩ := h
  have hf := run_findKey hK w es c l k h2
  have hset : ∀ es' c', Ents es' c' (l.put k v) → ∃ w', (setObj r (.map es' c')).run P w = .ok () w' ∧ IMap w' r (l.put k v) ∧ Keeps (· = r) w w' ∧ w'.heap.size = w.heap.size := fun es' c' he =>
    ⟨setBlock w r (.map es' c'), by simp [setObj, Sem.run, h1, setBlock], ⟨es', c', heap_setBlock w r _ _ h1, he⟩, (Keeps.refl (· = r) w).setBlock (r := r) (.inl rfl) _, by simp [setBlock]⟩
  have hrun : (Instr.mapUpdate T (.map (some r)) (.int .i64 k) v).run P w = ((match findIx l k 0 with
      | some (i, _) => do
        let key ← Instr.keyThatStays (((es[i]?).map (·.key)).getD (.int .i64 k)) (.int .i64 k)
        setObj r (.map (es.modify i fun e => { e with key, val := v }) c)
      | none => setObj r (.map (es.push { key := .int .i64 k, val := v, born := c }) (c + 1))) : Sem Unit).run P w := by
    unfold Instr.mapUpdate
    simp only [run_underlying hT, Sem.run_bind, Result.andThen, getObj, Sem.run, h1, run_checkKey hK]
    rw [hf]
    cases findIx l k 0 with
    | none => rfl
    | some p => cases p; rfl
  rw [hrun]
  have hlen : es.size = l.length := by have := congrArg List.length h2.same; simpa using this
  cases hx : findIx l k 0 with
  | none =>
    refine hset _ _ ?_
    have hno := findIx_none l k 0 hx
    rw [put_new l k v hno]
    refine ⟨by simp [h2.same], ?_, ?_, ?_⟩
    · rw [List.map_append, List.nodup_append]
      refine ⟨h2.keys, by simp, ?_⟩
      intro a ha b hb
      simp at hb; subst hb
      obtain ⟨p, hp, rfl⟩ := List.mem_map.1 ha
      exact hno p hp
    · rw [Array.toList_push, List.map_append, List.pairwise_append]
      refine ⟨h2.born, by simp, ?_⟩
      intro a ha b hb
      simp at hb; subst hb
      obtain ⟨e, he, rfl⟩ := List.mem_map.1 ha
      exact h2.late e he
    · intro e he
      rw [Array.toList_push] at he
      rcases List.mem_append.1 he with he | he
      · have := h2.late e he; omega
      · simp at he; subst he; simp
  | some x =>
    obtain ⟨j, v0⟩ := x
    obtain ⟨_, hj2, hj3⟩ := findIx_lt l k 0 j v0 hx
    rw [Nat.sub_zero] at hj3
    have hjs : j < es.size := by omega
    have hkey : es[j].key = .int .i64 k := by
      have := congrArg (fun x => x[j]?) h2.same
      simp only [List.getElem?_map, hj3] at this
      rw [show es.toList[j]? = some es[j] from by simp [hjs]] at this
      simp at this; exact this.1
    have hst : (Instr.keyThatStays (((es[j]?).map (·.key)).getD (.int .i64 k)) (.int .i64 k)).run P w = .ok (.int .i64 k) w := by
      rw [Array.getElem?_eq_getElem hjs]
      simp only [Option.map_some, Option.getD_some, hkey]
      unfold Instr.keyThatStays
      rw [sameBits_int]; rfl
    simp only [Sem.run_bind, hst, Result.andThen]
    refine hset _ _ ?_
    rw [put_at l k j v0 v h2.keys hj3]
    have hes : (es.modify j fun e => { e with key := Value.int .i64 k, val := v }).toList = es.toList.set j { es[j] with key := .int .i64 k, val := v } := by
      apply List.ext_getElem?
      intro i
      rw [Array.toList_modify]
      rw [List.getElem?_modify, List.getElem?_set]
      by_cases hi : j = i
      · subst hi; simp [hjs]
      · simp [hi]
    refine ⟨?_, ?_, ?_, ?_⟩
    · rw [hes, List.map_set, h2.same, List.map_set]
    · rw [List.map_set]
      have : (l.map (·.1)).set j k = l.map (·.1) := by
        apply List.ext_getElem?
        intro i
        rw [List.getElem?_set]
        by_cases hi : j = i
        · subst hi; rw [if_pos rfl, List.getElem?_map, hj3]; simp; omega
        · rw [if_neg hi]
      rw [this]; exact h2.keys
    · rw [hes, List.map_set]
      have : (es.toList.map (·.born)).set j es[j].born = es.toList.map (·.born) := by
        apply List.ext_getElem?
        intro i
        rw [List.getElem?_set]
        by_cases hi : j = i
        · subst hi; rw [if_pos rfl, List.getElem?_map]; simp [hjs]
        · rw [if_neg hi]
      rw [this]; exact h2.born
    · intro e he
      rw [hes] at he
      rcases List.mem_or_eq_of_mem_set he with he | rfl
      · exact h2.late e he
      · exact h2.late es[j] (by simp)
theorem del_eraseIdx (l : IM) (k : Int) (j : Nat) (v : Value) (hn : (l.map (·.1)).Nodup) (h : l[j]? = some (k, v)) : l.del k = l.eraseIdx j := by
  induction l generalizing j with
  | nil => simp at h
  | cons p l ih =>
    simp only [List.map_cons, List.nodup_cons] at hn
    cases j with
    | zero =>
      simp at h; subst h
      unfold IM.del
      rw [List.filter_cons_of_neg (by simp), List.eraseIdx_cons_zero, List.filter_eq_self]
      intro q hq
      have : q.1 ≠ k := fun e => hn.1 (List.mem_map.2 ⟨q, hq, e⟩)
      simpa using this
    | succ j =>
      simp at h
      have hp : p.1 ≠ k := by
        intro e
        exact hn.1 (List.mem_map.2 ⟨(k, v), List.mem_of_getElem? h, e.symm⟩)
      have := ih j hn.2 h
      unfold IM.del at this ⊢
      rw [List.filter_cons_of_pos (by simpa using hp), List.eraseIdx_cons_succ, this]
theorem del_none (l : IM) (k : Int) (h : ∀ p ∈ l, p.1 ≠ k) : l.del k = l := by
  unfold IM.del; rw [List.filter_eq_self]; intro p hp; simpa using h p hp
theorem run_delete_im (hT : P.underlying T = some (.map K E)) (hK : P.underlying K = some (.int .i64)) {w : World} {r : Nat} {l : IM} (h : IMap w r l) (k : Int) (ty : TypeId) (x : TypeId) :
    ∃ w', (Builtin.delete_ #[T, x] ty #[.map (some r), .int .i64 k]).run P w = .ok (.tuple #[]) w' ∧ IMap w' r (l.del k) ∧ Keeps (· = r) w w' ∧ w'.heap.size = w.heap.size := by
  obtain ⟨es, c, h1, h2⟩ := h
  have hf := run_findKey hK w es c l k h2
  have hset : ∀ es', Ents es' c (l.del k) → ∃ w', (do setObj r (.map es' c); pure (Value.tuple #[]) : Sem Value).run P w = .ok (.tuple #[]) w' ∧ IMap w' r (l.del k) ∧ Keeps (· = r) w w' ∧ w'.heap.size = w.heap.size := fun es' he =>
    ⟨ChangeMaps.setBlock w r (.map es' c), by simp [setObj, Sem.run, h1, ChangeMaps.setBlock], ⟨es', c, heap_setBlock w r _ _ h1, he⟩, (Keeps.refl (· = r) w).setBlock (r := r) (.inl rfl) _, by simp [ChangeMaps.setBlock]⟩
  have hrun : (Builtin.delete_ #[T, x] ty #[.map (some r), .int .i64 k]).run P w = (match findIx l k 0 with
      | some (i, _) => (do setObj r (.map (es.eraseIdxIfInBounds i) c); pure (Value.tuple #[]) : Sem Value)
      | none => do setObj r (.map es c); pure (Value.tuple #[])).run P w := by
    unfold Builtin.delete_
    simp only [List.getElem?_toArray, List.getElem?_cons_zero, List.getElem?_cons_succ, run_underlying hT, Sem.run_bind, Result.andThen, getObj, Sem.run, h1, run_checkKey hK]
    rw [hf]
    cases findIx l k 0 with
    | none => simp
    | some p => cases p; simp
  rw [hrun]
  have hlen : es.size = l.length := by have := congrArg List.length h2.same; simpa using this
  cases hx : findIx l k 0 with
  | none =>
    have hno := findIx_none l k 0 hx
    refine hset _ ?_
    rw [del_none l k hno]; exact h2
  | some x =>
    obtain ⟨j, v0⟩ := x
    obtain ⟨_, hj2, hj3⟩ := findIx_lt l k 0 j v0 hx
    rw [Nat.sub_zero] at hj3
    refine hset _ ?_
    rw [del_eraseIdx l k j v0 h2.keys hj3]
    have hes : (es.eraseIdxIfInBounds j).toList = es.toList.eraseIdx j := by simp
    refine ⟨?_, ?_, ?_, ?_⟩
    · rw [hes, ChangeMaps.map_eraseIdx, h2.same, ChangeMaps.map_eraseIdx]
    · exact h2.keys.sublist ((List.eraseIdx_sublist l j).map _)
    · rw [hes]; exact h2.born.sublist ((List.eraseIdx_sublist es.toList j).map _)
    · intro e he; rw [hes] at he; exact h2.late e (List.mem_of_mem_eraseIdx he)
theorem run_clear_im (hT : P.underlying T = some (.map K E)) {w : World} {r : Nat} {l : IM} (h : IMap w r l) (ty : TypeId) :
    ∃ w', (Builtin.clear_ #[T] ty #[.map (some r)]).run P w = .ok (.tuple #[]) w' ∧ IMap w' r [] ∧ Keeps (· = r) w w' ∧ w'.heap.size = w.heap.size := by
  obtain ⟨es, c, h1, h2⟩ := h
  refine ⟨ChangeMaps.setBlock w r (.map #[] c), ?_, imap_nil (heap_setBlock w r _ _ h1), (Keeps.refl (· = r) w).setBlock (r := r) (.inl rfl) _, by simp [ChangeMaps.setBlock]⟩
  unfold Builtin.clear_
  simp [run_underlying hT, getObj, Sem.run, h1, setObj, ChangeMaps.setBlock]
theorem run_len_im (hT : P.underlying T = some (.map K E)) {w : World} {r : Nat} {l : IM} (h : IMap w r l) (ty : TypeId) :
    (Builtin.len_ #[T] ty #[.map (some r)]).run P w = .ok (.int .i64 l.length) w := by
  obtain ⟨es, c, h1, h2⟩ := h
  have hlen : es.size = l.length := by have := congrArg List.length h2.same; simpa using this
  unfold Builtin.len_
  simp [run_underlying hT, getObj, Sem.run, h1, goInt, hlen]
theorem nodup_inj {α β : Type} {f : α → β} {l : List α} (h : (l.map f).Nodup) {a b : α} (ha : a ∈ l) (hb : b ∈ l) (e : f a = f b) : a = b := by
  obtain ⟨i, hi, rfl⟩ := List.getElem_of_mem ha
  obtain ⟨j, hj, rfl⟩ := List.getElem_of_mem hb
  have h1 : (l.map f)[i]'(by simpa using hi) = (l.map f)[j]'(by simpa using hj) := by simpa using e
  have : i = j := (List.getElem_inj h).1 h1
  subst this; rfl
theorem nodup_map_inj {α β : Type} {l : List α} (f : α → β) (hf : ∀ a b, f a = f b → a = b) (h : l.Nodup) : (l.map f).Nodup := by
  induction l with
  | nil => exact List.nodup_nil
  | cons x l ih =>
    rw [List.nodup_cons] at h
    rw [List.map_cons, List.nodup_cons]
    refine ⟨?_, ih h.2⟩
    intro hm
    obtain ⟨y, hy, e⟩ := List.mem_map.1 hm
    exact h.1 (hf _ _ e ▸ hy)
theorem filter_map_pairs (L : List MapEntry) (todo : IM) (P : MapEntry → Bool) (Q : Int × Value → Bool) (h : L.map (fun e => (e.key, e.val)) = todo.map (fun p => (Value.int .i64 p.1, p.2)))
    (hpq : ∀ x ∈ L, ∀ q : Int × Value, (x.key, x.val) = (Value.int .i64 q.1, q.2) → P x = Q q) : (L.filter P).map (fun e => (e.key, e.val)) = (todo.filter Q).map (fun p => (Value.int .i64 p.1, p.2)) := by
  induction L generalizing todo with
  | nil => cases todo with
    | nil => rfl
    | cons q t => simp at h
  | cons x L ih =>
    cases todo with
    | nil => simp at h
    | cons q t =>
      rw [List.map_cons, List.map_cons] at h
      obtain ⟨h0, ht⟩ := List.cons.inj h
      have h1 := hpq x (List.mem_cons_self ..) q h0
      have h2 := ih t ht (fun y hy => hpq y (List.mem_cons_of_mem _ hy))
      cases hq : Q q with
      | true => rw [List.filter_cons_of_pos (by rw [h1, hq]), List.filter_cons_of_pos hq, List.map_cons, List.map_cons, h2, h0]
      | false => rw [List.filter_cons_of_neg (by rw [h1, hq]; decide), List.filter_cons_of_neg (by rw [hq]; decide), h2]
/-- an iterator in block it over the map in block m, which holds l; todo: what is still to come -/
def Rng (w : World) (it m : Nat) (l todo : IM) : Prop := ∃ es clock since seen c0, w.heap[it]? = some (.mapIter (some m) since seen c0) ∧ w.heap[m]? = some (.map es clock) ∧ Ents es clock l ∧
  (∀ x ∈ es.toList, x.born < since) ∧ since ≤ c0 ∧ since ≤ clock ∧ (leftOf es seen).toList.map (fun e => (e.key, e.val)) = todo.map (fun p => (Value.int .i64 p.1, p.2))
theorem Rng.kept {w w' : World} {it m : Nat} {l todo : IM} (h : Rng w it m l todo) (h1 : w'.heap[it]? = w.heap[it]?) (h2 : w'.heap[m]? = w.heap[m]?) : Rng w' it m l todo := by
  obtain ⟨es, c, s, se, c0, a, b, r⟩ := h; exact ⟨es, c, s, se, c0, h1.trans a, h2.trans b, r⟩
theorem Rng.lt {w : World} {it m : Nat} {l todo : IM} (h : Rng w it m l todo) : it < w.heap.size ∧ m < w.heap.size := by
  obtain ⟨es, c, s, se, c0, a, b, r⟩ := h; exact ⟨lt_of a, lt_of b⟩
theorem Rng.keeps {S : Nat → Prop} {w w' : World} {it m : Nat} {l todo : IM} (h : Rng w it m l todo) (hk : Keeps S w w') (h1 : ¬ S it) (h2 : ¬ S m) : Rng w' it m l todo :=
  h.kept (hk.block it h.lt.1 h1) (hk.block m h.lt.2 h2)
theorem Rng.imap {w : World} {it m : Nat} {l todo : IM} (h : Rng w it m l todo) : IMap w m l := by
  obtain ⟨es, c, s, se, c0, a, b, r, _⟩ := h; exact ⟨es, c, b, r⟩
theorem run_range_im (hT : P.underlying T = some (.map K E)) {w : World} {m : Nat} {l : IM} (h : IMap w m l) :
    ∃ w', (Instr.range T (.map (some m))).run P w = .ok (.pointer (some ⟨w.heap.size, 0, none⟩)) w' ∧ Rng w' w.heap.size m l l ∧ Below w.heap.size w w' ∧ w'.heap.size = w.heap.size + 1 := by
  obtain ⟨es, c, h1, h2⟩ := h
  refine ⟨_, run_range_map w T K E m es c hT h1, ⟨es, c, c, #[], c, heap_alloc_new _ _, at_alloc h1 _, h2, h2.late, Nat.le_refl _, Nat.le_refl _, ?_⟩, (Below.refl _ _).alloc (Nat.le_refl _) _, by simp⟩
  have : leftOf es #[] = es := by unfold leftOf; simp
  rw [this]; exact h2.same
theorem run_next_im {w : World} {it m : Nat} {l todo : IM} (h : Rng w it m l todo) (ty : TypeId) :
    (todo = [] ∧ (Instr.next (.pointer (some ⟨it, 0, none⟩)) false ty).run P w = .ok (.tuple #[.bool false]) w) ∨
    ∃ p ∈ todo, ∃ w', (Instr.next (.pointer (some ⟨it, 0, none⟩)) false ty).run P w = .ok (.tuple #[.bool true, .int .i64 p.1, p.2]) w' ∧ Rng w' it m l (todo.del p.1) ∧ Keeps (· = it) w w' ∧ w'.heap.size = w.heap.size ∧
      ∀ w'', w''.heap[it]? = w'.heap[it]? → w''.heap[m]? = w'.heap[m]? → (Instr.entry (.pointer (some ⟨it, 0, none⟩))).run P w'' = .ok (.tuple #[.int .i64 p.1, p.2]) w'' := by
  obtain ⟨es, c, s, se, c0, a, b, he, hb, hs, hsc, hl⟩ := h
  rcases run_next_at (P := P) w ty it m s c0 se es c a b hb hs with ⟨h0, hr⟩ | ⟨e, hmem, w1, hw1, hr⟩
  · left
    refine ⟨?_, hr⟩
    have : (leftOf es se).toList = [] := List.eq_nil_of_length_eq_zero (by simpa using h0)
    rw [this] at hl; simpa using hl.symm
  · right
    have hbn : (es.toList.map (·.born)).Nodup := he.born.imp (fun h => Nat.ne_of_lt h)
    have hemem : e ∈ es.toList := by unfold leftOf at hmem; simp at hmem ⊢; exact hmem.1
    have hp : (e.key, e.val) ∈ todo.map (fun p => (Value.int .i64 p.1, p.2)) := by rw [← hl]; exact List.mem_map.2 ⟨e, hmem, rfl⟩
    obtain ⟨p, hpm, hpe⟩ := List.mem_map.1 hp
    simp only [Prod.mk.injEq] at hpe
    have hit : it ≠ m := by intro e; rw [e, b] at a; cases a
    have hw1h : ∀ k : Nat, w1.heap[k]? = w.heap[k]? := by intro k; rcases hw1 with rfl | rfl <;> rfl
    have hw1s : w1.heap.size = w.heap.size := by rcases hw1 with rfl | rfl <;> rfl
    have hK1 : Keeps (· = it) w w1 := by rcases hw1 with rfl | rfl; exact Keeps.refl _ _; exact (Keeps.refl _ _).drew
    have hset : (ChangeMaps.setBlock w1 it (.mapIter (some m) s (se.push e.born) c)).heap[it]? = some (.mapIter (some m) s (se.push e.born) c) := heap_setBlock w1 it _ _ ((hw1h it).trans a)
    have hsetm : (ChangeMaps.setBlock w1 it (.mapIter (some m) s (se.push e.born) c)).heap[m]? = some (.map es c) := (heap_setBlock_ne w1 it _ m (Ne.symm hit)).trans ((hw1h m).trans b)
    refine ⟨p, hpm, _, by rw [hr, ← hpe.1, ← hpe.2], ⟨es, c, s, se.push e.born, c, hset, hsetm, he, hb, hsc, hsc, ?_⟩, hK1.setBlock (r := it) (.inl rfl) _, by simp [ChangeMaps.setBlock, hw1s], ?_⟩
    · have hkn : (es.toList.map (·.key)).Nodup := by
        have h1 : es.toList.map (·.key) = l.map (fun p => Value.int .i64 p.1) := by
          have := congrArg (List.map Prod.fst) he.same; simpa [List.map_map, Function.comp_def] using this
        rw [h1, show l.map (fun p => Value.int .i64 p.1) = (l.map (·.1)).map (Value.int .i64) from by simp [List.map_map]]
        exact nodup_map_inj _ (fun a b h => by cases h; rfl) he.keys
      have hpq : ∀ x ∈ es.toList, (x.born = e.born ↔ x.key = e.key) := fun x hx => ⟨fun h => by rw [nodup_inj hbn hx hemem h], fun h => by rw [nodup_inj hkn hx hemem h]⟩
      have h1 : (leftOf es (se.push e.born)).toList = (leftOf es se).toList.filter (fun x => !(x.born == e.born)) := by
        unfold leftOf
        simp only [Array.toList_filter, List.filter_filter]
        apply List.filter_congr
        intro x hx
        by_cases g1 : x.born = e.born <;> by_cases g2 : x.born ∈ se <;> simp [g1, g2, Array.mem_push, Array.contains_eq_mem]
      rw [h1]
      unfold IM.del
      rw [filter_map_pairs (leftOf es se).toList todo (fun x => !(x.born == e.born)) (fun q => !(q.1 == p.1)) hl]
      intro x hx q hq
      have hx2 : x ∈ es.toList := by unfold leftOf at hx; simp at hx ⊢; exact hx.1
      have e1 : x.key = .int .i64 q.1 := (Prod.mk.inj hq).1
      have e2 := hpq x hx2
      rw [e1, ← hpe.1] at e2
      rw [Bool.eq_iff_iff]; simp [e2]
    · intro w'' h1 h2
      rw [run_entry_at (P := P) w'' it m s se es c e (h1.trans hset) (h2.trans hsetm) hemem hbn, ← hpe.1, ← hpe.2]
end
/-- 'append(own, row...)', the second one a row of somebody's, or nil -/
theorem wpList_append_own_row {P : Program} (w : World) {ops : Array Oper} {rest : List Oper} {o : Oper} {a : Act} {Q : Exit → Act → World → Prop} (hgd : o.guard = none) (s x : Operand) (t : TypeId)
    (ho : o.op = .call { callee := .builtin .append, args := #[s, x], argTypes := #[t, t] })
    (base : Nat) (e : TypeId) (i : TypeInfo) (z : Value) (size bytes : Nat) (ht : P.underlying t = some (.slice e)) (hi : P.info? e = some i) (hz : i.zero = some z)
    (hsize : i.size = size) (hby : i.bytes = bytes) (hzs : z.cells.size = size) (hsz : 0 < size)
    (v : Value) (n : Nat) (xs : List Value) (hs : a.eval s = v) (hown : w.ownsRow base e size v n xs)
    (base2 : Nat) (v2 : Value) (m : Nat) (news : List Value) (hx : a.eval x = v2) (hown2 : w.ownsRow base2 e size v2 m news) (h1 : ∀ u ∈ news, u.oneCell' = true)
    (h63 : n + m ≤ maxLen) (hbytes : (n + m) * bytes ≤ 140737488355328) (hbase : base ≤ w.heap.size)
    (h : ∀ v' w', w'.ownsRow base e size v' (n + m) (xs ++ news) → w.grownBy w' v.ownBlock → (v'.ownBlock = v.ownBlock ∨ v'.ownBlock = some w.heap.size) → wpList P ops Q rest (a.put o.dst v') w') :
    wpList P ops Q (o :: rest) a w := by
  obtain ⟨hl, ⟨rfl, rfl⟩ | ⟨g, cap, cur, rfl, hg, hb, h3, h4, h5, h6⟩⟩ := id hown2
  · have : news = [] := List.eq_nil_of_length_eq_zero (by simpa using hl)
    subst this
    exact wpList_append_own_none hgd s x t ho base e i size ht hi v n xs hs hown hx (h v w (by simpa using hown) (World.grownBy.refl _ _) (.inl rfl))
  · exact wpList_append_own_at w hgd s x t ho base e i z size bytes ht hi hz hsize hby hzs hsz v n xs hs hown ⟨g, 0, none⟩ m cap news hx hl (hown2.cells rfl) h1 h63 hbytes hbase (fun v' w' a b _ d => h v' w' a b d)
end Go.Proofs.Ytnficiohnhodiaa


/-
  Rows of one-cell elements that may begin inside their block: what 's = s[1:]' makes of a row of the call's own, and appends to such rows.
-/
namespace Go.Proofs.Ytnficiohnhodiaa
open Go.RowKit
/-- a row in a block from B on; its elements are xs; whoever holds it may write all its capacity -/
def SubRow (w : World) (B : Nat) (v : Value) (xs : List Value) : Prop :=
  (v = .slice none 0 0 ∧ xs = []) ∨
  ∃ g off cap, v = .slice (some ⟨g, off, none⟩) xs.length cap ∧ B ≤ g ∧ g < w.heap.size ∧ xs.length ≤ cap ∧ cap ≤ maxLen ∧
    (∀ j, j < cap → (w.cell? ⟨g, off + j, none⟩).isSome = true ∧ w.frozen? ⟨g, off + j, none⟩ = false) ∧ ∀ j u, xs[j]? = some u → w.cell? ⟨g, off + j, none⟩ = some u
theorem SubRow.block_keeps {S : Nat → Prop} {w w' : World} {B : Nat} {v : Value} {xs : List Value} (h : SubRow w B v xs) (hk : Keeps S w w') (hs : ∀ k, v.ownBlock = some k → ¬ S k) : SubRow w' B v xs := by
  rcases h with h | ⟨g, off, cap, rfl, h1, h2, h3, h4, h5, h6⟩
  · exact .inl h
  · have hb := hk.block g h2 (hs g rfl)
    refine .inr ⟨g, off, cap, rfl, h1, Nat.lt_of_lt_of_le h2 hk.size, h3, h4, fun j hj => ?_, fun j u hu => ?_⟩
    · rw [World.cell?_of_block (a := ⟨g, off + j, none⟩) hb, World.frozen?_of_block (a := ⟨g, off + j, none⟩) hb]; exact h5 j hj
    · rw [World.cell?_of_block (a := ⟨g, off + j, none⟩) hb]; exact h6 j u hu
theorem SubRow.keeps {S : Nat → Prop} {w w' : World} {B : Nat} {v : Value} {xs : List Value} (h : SubRow w B v xs) (hk : Keeps S w w') (hs : ∀ k, S k → k < B) : SubRow w' B v xs := by
  refine h.block_keeps hk fun k hk' hS => ?_
  rcases h with ⟨rfl, _⟩ | ⟨g, off, cap, rfl, h1, _⟩
  · cases hk'
  · cases hk'; have := hs _ hS; simp at this; omega
theorem SubRow.below {w w' : World} {B : Nat} {v : Value} {xs : List Value} (h : SubRow w B v xs) (hb : Below w.heap.size w w') : SubRow w' B v xs := h.keeps (S := fun _ => False) (Keeps.of_below hb) (fun _ hf => hf.elim)
theorem SubRow.drewN {w : World} {B : Nat} {v : Value} {xs : List Value} (h : SubRow w B v xs) (n : Nat) : SubRow (w.drewN n) B v xs := h.keeps (S := fun _ => False) ((Keeps.refl _ _).drewN n) (fun _ hf => hf.elim)
theorem SubRow.weaken {w : World} {B B' : Nat} {v : Value} {xs : List Value} (h : SubRow w B v xs) (hb : B' ≤ B) : SubRow w B' v xs := by
  rcases h with h | ⟨g, off, cap, h0, h1, h2⟩
  · exact .inl h
  · exact .inr ⟨g, off, cap, h0, Nat.le_trans hb h1, h2⟩
theorem SubRow.of_owns {w : World} {B : Nat} {e : TypeId} {v : Value} {n : Nat} {xs : List Value} (h : w.ownsRow B e 1 v n xs) : SubRow w B v xs := by
  have hl : xs.length = n := by have := h.1; omega
  rcases h.2 with ⟨rfl, h0⟩ | ⟨g, cap, cur, rfl, h1, h2, h3, h4, h5, h6⟩
  · exact .inl ⟨rfl, List.eq_nil_of_length_eq_zero (by omega)⟩
  · refine .inr ⟨g, 0, cap, by rw [hl], h1, lt_of h2, by omega, h4, fun j hj => ?_, fun j u hu => ?_⟩
    · rw [cell_in (u := cur[j]'(by omega)) h2 (by rw [Nat.zero_add]; exact Array.getElem?_eq_getElem _)]
      exact ⟨rfl, free_in h2⟩
    · have hj := (List.getElem?_eq_some_iff.1 hu).1
      rw [Nat.zero_add, h.cellAt j (by omega)]; exact hu
theorem SubRow.lt {w : World} {B : Nat} {v : Value} {xs : List Value} (h : SubRow w B v xs) : ∀ k, v.ownBlock = some k → B ≤ k ∧ k < w.heap.size := by
  intro k hk
  rcases h with ⟨rfl, _⟩ | ⟨g, off, cap, rfl, h1, h2, _⟩
  · cases hk
  · cases hk; exact ⟨h1, h2⟩
/-- its shape, for the walk -/
theorem SubRow.form {w : World} {B : Nat} {v : Value} {xs : List Value} (h : SubRow w B v xs) : ∃ q cap, v = .slice q xs.length cap ∧ xs.length ≤ cap ∧ cap ≤ maxLen := by
  rcases h with ⟨rfl, rfl⟩ | ⟨g, off, cap, rfl, _, _, h3, h4, _⟩
  · exact ⟨none, 0, rfl, Nat.le_refl _, Nat.zero_le _⟩
  · exact ⟨_, cap, rfl, h3, h4⟩
theorem SubRow.at0 {w : World} {B : Nat} {v x : Value} {xs : List Value} (h : SubRow w B v (x :: xs)) : ∃ g off cap, v = .slice (some ⟨g, off, none⟩) (xs.length + 1) cap ∧ xs.length + 1 ≤ cap ∧ cap ≤ maxLen ∧ B ≤ g ∧ w.cell? ⟨g, off, none⟩ = some x := by
  rcases h with ⟨_, h0⟩ | ⟨g, off, cap, rfl, h1, h2, h3, h4, h5, h6⟩
  · cases h0
  · exact ⟨g, off, cap, rfl, h3, h4, h1, h6 0 x rfl⟩
/-- 's[1:]' -/
theorem SubRow.tail {w : World} {B g off cap : Nat} {x : Value} {xs : List Value} (h : SubRow w B (.slice (some ⟨g, off, none⟩) (xs.length + 1) cap) (x :: xs)) :
    SubRow w B (.slice (some (if cap = 1 then ⟨g, off, none⟩ else ⟨g, off + 1, none⟩)) xs.length (cap - 1)) xs := by
  rcases h with ⟨h0, _⟩ | ⟨g', off', cap', e, h1, h2, h3, h4, h5, h6⟩
  · cases h0
  · cases e
    rw [List.length_cons] at h3
    split
    · rename_i hc; subst hc
      have : xs.length = 0 := by omega
      exact .inr ⟨g, off, 0, rfl, h1, h2, by omega, by omega, fun j hj => by omega, fun j u hu => by rw [List.eq_nil_of_length_eq_zero this] at hu; simp at hu⟩
    · refine .inr ⟨g, off + 1, cap - 1, rfl, h1, h2, by omega, by omega, fun j hj => ?_, fun j u hu => ?_⟩
      · have := h5 (j + 1) (by omega); rwa [show off + (j + 1) = off + 1 + j from by omega] at this
      · have := h6 (j + 1) u (by simpa using hu); rwa [show off + (j + 1) = off + 1 + j from by omega] at this
theorem Keeps.setCells {w : World} (g o : Nat) (vs : List Value) : Keeps (· = g) w (w.setCells g o vs) := by
  have hk := World.keptBut_setCells g (may := fun p => p.block = g) vs o w (fun _ _ => rfl)
  refine ⟨hk.1, ?_, hk.2.1, ?_, fun k hk1 hk2 => World.heap_setCells_other w g o vs hk1 hk2⟩
  · clear hk
    induction vs generalizing w o with
    | nil => rfl
    | cons v r ih => rw [World.setCells, ih]; rfl
  · clear hk
    induction vs generalizing w o with
    | nil => exact Nat.le_refl _
    | cons v r ih => rw [World.setCells]; exact Nat.le_trans ((Keeps.refl (fun _ => True) w).setCell (.inl trivial) v).size (ih _)
section
variable {P : Program}
/-- 'append(s, news...)', or 'append(s, x)', of a row of the call's own -/
theorem run_append_sub (w : World) (t ty e : TypeId) (i : TypeInfo) (z : Value) (bytes : Nat) (ht : P.underlying t = some (.slice e)) (hi : P.info? e = some i) (hz : i.zero = some z)
    (hsize : i.size = 1) (hby : i.bytes = bytes) (hzs : z.cells.size = 1) (B : Nat) (v : Value) (xs : List Value) (h : SubRow w B v xs) (x : Value) (news : List Value) (hs : Src P 1 t x news.length news w)
    (hm : xs.length + news.length ≤ maxLen) (hb : (xs.length + news.length) * bytes ≤ 140737488355328) (hB : B ≤ w.heap.size) :
    ∃ v' w', (Builtin.append_ #[t, t] ty #[v, x]).run P w = .ok v' w' ∧ SubRow w' B v' (xs ++ news) ∧ Keeps (fun k => v.ownBlock = .some k) w w' ∧ (v'.ownBlock = v.ownBlock ∨ v'.ownBlock = .some w.heap.size) := by
  have hmx := hm
  unfold maxLen at hm
  have grow : ∀ (base : Option Addr) (cap : Nat), cap < xs.length + news.length → (Builtin.firstCells 1 xs.length (.slice base xs.length cap)).run P w.drew = .ok xs.toArray w.drew →
      ∃ v' w', (Builtin.append_ #[t, t] ty #[.slice base xs.length cap, x]).run P w = .ok v' w' ∧ SubRow w' B v' (xs ++ news) ∧ Keeps (fun k => (Value.slice base xs.length cap).ownBlock = .some k) w w' ∧ (v'.ownBlock = (Value.slice base xs.length cap).ownBlock ∨ v'.ownBlock = .some w.heap.size) := by
    intro base cap hc hold
    have hr := run_append_grow_src (P := P) w t t ty e i z ht hi hz base xs.length cap xs (by rw [hsize]; exact hold) x news.length news (by rw [hsize]; exact hs) hc (by omega) (by rw [hby]; exact growslice_fits hc hb)
    refine ⟨_, _, hr, .inr ⟨w.heap.size, 0, _, by rw [List.length_append], hB, by simp, ?_, ?_, ?_, ?_⟩, ?_, .inr rfl⟩
    · rw [List.length_append]; exact grownCap_ge w _ _ _
    · exact grownCap_le_maxLen w _ _ _ hmx
    · intro j hj
      have hge := grownCap_ge w (xs.length + news.length) cap e
      have hh := heap_alloc_new w.drew (.cells ((xs ++ news).toArray ++ Builtin.zeroCells z.cells (grownCap w (xs.length + news.length) cap e - (xs.length + news.length))) e)
      have hsz : ((xs ++ news).toArray ++ Builtin.zeroCells z.cells (grownCap w (xs.length + news.length) cap e - (xs.length + news.length))).size = grownCap w (xs.length + news.length) cap e := by
        rw [Array.size_append, size_zeroCells, hzs]; simp; omega
      have hc2 := cell_in (o := j) (u := ((xs ++ news).toArray ++ Builtin.zeroCells z.cells (grownCap w (xs.length + news.length) cap e - (xs.length + news.length)))[j]'(by rw [hsz]; exact hj)) hh (Array.getElem?_eq_getElem _)
      rw [Nat.zero_add]
      refine ⟨by rw [show w.drew.heap.size = w.heap.size from rfl] at hc2; rw [hc2]; rfl, free_in (o := j) hh⟩
    · intro j u hu
      have hh := heap_alloc_new w.drew (.cells ((xs ++ news).toArray ++ Builtin.zeroCells z.cells (grownCap w (xs.length + news.length) cap e - (xs.length + news.length))) e)
      rw [Nat.zero_add]
      refine cell_in (o := j) (u := u) hh ?_
      rw [Array.getElem?_append_left (by have := (List.getElem?_eq_some_iff.1 hu).1; simpa using this)]
      simpa using hu
    · exact ((Keeps.refl _ w).drew).alloc _
  rcases h with ⟨rfl, rfl⟩ | ⟨g, off, cap, rfl, h1, h2, h3, h4, h5, h6⟩
  · by_cases hn : news = []
    · subst hn
      refine ⟨.slice none 0 0, w, ?_, .inl ⟨rfl, rfl⟩, Keeps.refl _ _, .inl rfl⟩
      have h1 := hs.len; have h2 := hs.cells
      simp only [List.length_nil] at h1 h2
      simp [Builtin.append_, run_underlying ht, sizeOf, typeInfo, hi, hsize, h1, h2]
    · exact grow none 0 (by have := List.length_pos_iff.2 hn; omega) (run_firstCells_none _ _ _ _ _)
  · by_cases hroom : xs.length + news.length ≤ cap
    · have hr := run_append_room_src (P := P) w t t ty e i ht hi g off xs.length cap x news.length news (by rw [hsize]; exact hs) hroom
        (fun j hj => by rw [hsize, Nat.mul_one, Nat.add_assoc]; exact (h5 _ (by omega)).1) (fun j hj => by rw [hsize, Nat.mul_one, Nat.add_assoc]; exact (h5 _ (by omega)).2)
      rw [hsize, Nat.mul_one] at hr
      have hK := Keeps.setCells (w := w) g (off + xs.length) news
      refine ⟨_, _, hr, .inr ⟨g, off, cap, by rw [List.length_append], h1, Nat.lt_of_lt_of_le h2 hK.size, by rw [List.length_append]; exact hroom, h4, fun j hj => ?_, fun j u hu => ?_⟩, hK.mono (fun k _ e => by subst e; rfl), .inl rfl⟩
      · exact ⟨World.isSome_setCells _ _ _ _ _ (h5 j hj).1, by rw [World.frozen?_setCells]; exact (h5 j hj).2⟩
      · by_cases hj : j < xs.length
        · rw [List.getElem?_append_left hj] at hu
          rw [World.cell?_setCells_out _ _ _ _ _ (fun _ _ => .inl (by simp; omega))]
          exact h6 j u hu
        · have hj2 := (List.getElem?_eq_some_iff.1 hu).1
          rw [List.length_append] at hj2
          rw [List.getElem?_append_right (by omega)] at hu
          have hin := World.cell?_setCells_in g news (off + xs.length) w (fun i hi => by rw [Nat.add_assoc]; exact (h5 _ (by omega)).1) (j - xs.length) (by omega)
          rw [show off + xs.length + (j - xs.length) = off + j from by omega] at hin
          rw [hin, ← hu, List.getElem?_eq_getElem (by omega)]
    · exact grow _ cap (by omega) (run_firstCells_some w.drew 1 xs.length ⟨g, off, none⟩ xs.length cap xs (by omega) (fun j u hu => by
        have := h6 j u hu
        unfold Addr.add; split
        · rename_i h0; subst h0; simpa using this
        · simpa using this))
theorem wpList_append_sub (w : World) {ops : Array Oper} {rest : List Oper} {o : Oper} {a : Act} {Q : Exit → Act → World → Prop} (hgd : o.guard = none) (s x : Operand) (t : TypeId)
    (ho : o.op = .call { callee := .builtin .append, args := #[s, x], argTypes := #[t, t] }) (e : TypeId) (i : TypeInfo) (z : Value) (bytes : Nat) (ht : P.underlying t = some (.slice e)) (hi : P.info? e = some i) (hz : i.zero = some z)
    (hsize : i.size = 1) (hby : i.bytes = bytes) (hzs : z.cells.size = 1) (B : Nat) (v : Value) (xs : List Value) (hv : a.eval s = v) (h : SubRow w B v xs) (x' : Value) (hx : a.eval x = x') (news : List Value) (hs : Src P 1 t x' news.length news w)
    (hm : xs.length + news.length ≤ maxLen) (hb : (xs.length + news.length) * bytes ≤ 140737488355328) (hB : B ≤ w.heap.size)
    (hK : ∀ v' w', SubRow w' B v' (xs ++ news) → Keeps (fun k => v.ownBlock = some k) w w' → (v'.ownBlock = v.ownBlock ∨ v'.ownBlock = some w.heap.size) → wpList P ops Q rest (a.put o.dst v') w') : wpList P ops Q (o :: rest) a w := by
  obtain ⟨v', w', hr, h1, h2, h3⟩ := run_append_sub (P := P) w t o.type e i z bytes ht hi hz hsize hby hzs B v xs h x' news hs hm hb hB
  refine wpList_plain hgd fun _ hKK => ?_
  unfold Oper.wp execOp
  simp only [ho, resolve, invoke, builtin, Sem.run_bind, Sem.run_pure, Result.andThen_ok, List.map_toArray, List.map_cons, List.map_nil, hv, hx, hr]
  exact hKK _ _ (hK v' w' h1 h2 h3)
end
/-- a source: a row of one-cell elements -/
theorem SubRow.src {P : Program} {w : World} {B : Nat} {v : Value} {xs : List Value} {t e : TypeId} (ht : P.underlying t = some (.slice e)) (h : SubRow w B v xs) (h1 : ∀ u ∈ xs, u.oneCell' = true) : Src P 1 t v xs.length xs w := by
  rcases h with ⟨rfl, rfl⟩ | ⟨g, off, cap, rfl, _, _, _, _, _, h6⟩
  · exact Src.ofNil (P := P) w ht 0
  · exact Src.ofSlice w ht _ _ _ _ (by omega) (fun j u hu => by
      have := h6 j u hu
      unfold Addr.add; split
      · rename_i h0; subst h0; simpa using this
      · simpa using this) h1
end Go.Proofs.Ytnficiohnhodiaa
