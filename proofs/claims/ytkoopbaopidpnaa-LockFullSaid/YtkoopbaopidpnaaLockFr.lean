import Derived.Test.YtkoopbaopidpnaaLockZ
import Derived.Test.YtkoopbaopidpnaaLockT
import Derived.Test.YtkoopbaopidpnaaOps
/-
  LockFrees.
-/
namespace Go.Proofs.Ytkoopbaopidpnaa
open Go.RowKit
theorem lt_of_cell {w : World} {p : Addr} {v : Value} (h : w.cell? p = some v) : p.block < w.heap.size := by
  unfold World.cell? at h
  cases hb : w.heap[p.block]? with
  | none => rw [hb] at h; cases h
  | some o => exact (Array.getElem?_eq_some_iff.1 hb).1
theorem ops_at {w w' : World} {x : Addr} {len cap : Nat} {zs : List OpL} (h : IsOps w (some x) len cap zs) (hb : Below w.heap.size w w') (k : Nat) (o : OpL) (ho : zs[k]? = some o) :
    w'.cell? (x.add (k * 4)) = some (.int .i64 o.kind) ∧ w'.cell? ⟨(x.add (k * 4)).block, (x.add (k * 4)).off + 1, none⟩ = some (.int .i64 o.txn) ∧ w'.cell? ⟨(x.add (k * 4)).block, (x.add (k * 4)).off + 2, none⟩ = some (.int .i64 o.page) ∧ w'.cell? ⟨(x.add (k * 4)).block, (x.add (k * 4)).off + 3, none⟩ = some (.int .i64 o.mode) := by
  rcases h with ⟨h, _⟩ | ⟨y, e, _, _, _, hc, _⟩
  · cases h
  · cases e
    have hh : ∀ j v, o.vals[j]? = some v → w'.cell? (x.add (k * 4 + j)) = some v := fun j v hv => by
      have hc := hc k o ho j v hv
      exact (hb.cell (p := x.add (k * 4 + j)) (lt_of_cell hc)).trans hc
    have e : ∀ j, 0 < j → x.add (k * 4 + j) = ⟨(x.add (k * 4)).block, (x.add (k * 4)).off + j, none⟩ := fun j hj => by
      have e2 : ∀ y : Addr, y.add j = ⟨y.block, y.off + j, none⟩ := fun y => by unfold Addr.add; rw [if_neg (by omega)]
      rw [← Go.Deep.add_add]; exact e2 _
    exact ⟨hh 0 _ rfl, e 1 (by omega) ▸ hh 1 _ rfl, e 2 (by omega) ▸ hh 2 _ rfl, e 3 (by omega) ▸ hh 3 _ rfl⟩
/-- a row of ints of the call's own, in blocks from B on -/
def IntRow (w : World) (q : Option Addr) (L : List Int) (B : Nat) : Prop := ∀ j x, L[j]? = some x → ∃ g, q = some ⟨g, 0, none⟩ ∧ B ≤ g ∧ w.cell? ⟨g, j, none⟩ = some (.int .i64 x)
theorem intRow_of {w : World} {B : Nat} {v : Value} {L : List Int} {n : Nat} (hn : n = L.length) (h : w.ownsRow B 3 1 v n (L.map (Value.int .i64))) : ∃ q cap, v = .slice q L.length cap ∧ L.length ≤ cap ∧ cap ≤ maxLen ∧ IntRow w q L B := by
  subst hn
  have h' := h
  rcases h.2 with ⟨rfl, h0⟩ | ⟨g, cap, cur, rfl, hb, hg, hc, hm, hs, ht⟩
  · exact ⟨none, 0, by rw [h0], by omega, by omega, fun j x hx => by rw [List.eq_nil_of_length_eq_zero h0] at hx; simp at hx⟩
  · refine ⟨some ⟨g, 0, none⟩, cap, rfl, hc, hm, fun j x hx => ⟨g, rfl, hb, ?_⟩⟩
    have hj := (List.getElem?_eq_some_iff.1 hx).1
    rw [h'.cellAt j (by omega), List.getElem?_map, hx]; rfl
theorem IntRow.keeps {S : Nat → Prop} {w w' : World} {q : Option Addr} {L : List Int} {B : Nat} (h : IntRow w q L B) (hk : Keeps S w w') (hs : ∀ k, S k → k < B) : IntRow w' q L B := fun j x hx => by
  obtain ⟨g, h1, h2, h3⟩ := h j x hx
  exact ⟨g, h1, h2, hk.cell h3 (fun e => by have := hs _ e; simp at this; omega)⟩
theorem sortI_perm_self (l : List Int) : (sortI l).Perm l := by unfold sortI; exact List.mergeSort_perm _ _
theorem keys_adel {α : Type} {l : List (Int × α)} {k y : Int} : y ∈ (adel l k).map (·.1) ↔ y ∈ l.map (·.1) ∧ y ≠ k := by
  unfold adel
  simp only [List.mem_map, List.mem_filter]
  constructor
  · rintro ⟨p, ⟨h1, h2⟩, rfl⟩; exact ⟨⟨p, h1, rfl⟩, by simpa using h2⟩
  · rintro ⟨⟨p, h1, rfl⟩, h2⟩; exact ⟨p, ⟨h1, by simpa using h2⟩, rfl⟩
theorem left_step {t : LT} {n : Nat} (g : t.Good n) {page : Int} {L : List Int} (nd : L.Nodup) {k : Nat} {o : Int} (hk : L[k]? = some o) (h : ∀ y, y ∈ (t.holders page).map (·.1) ↔ y ∈ L.drop k) :
    ∀ y, y ∈ ((t.release o).holders page).map (·.1) ↔ y ∈ L.drop (k + 1) := by
  intro y
  obtain ⟨hlt, hv⟩ := List.getElem?_eq_some_iff.1 hk
  have e : L.drop k = o :: L.drop (k + 1) := by rw [List.drop_eq_getElem_cons hlt, hv]
  have nd' : (o :: L.drop (k + 1)).Nodup := e ▸ (nd.sublist (List.drop_sublist _ _))
  rw [holders_release g, keys_adel, h, e, List.mem_cons]
  constructor
  · rintro ⟨h1, h2⟩; exact h1.resolve_left h2
  · exact fun hy => ⟨.inr hy, fun e => (List.nodup_cons.1 nd').1 (e ▸ hy)⟩
theorem take_free {t : LT} {page mode : Int} (txn : Int) (m : Nat) (h : t.holders page = []) (h1 : 1 ≤ mode) (h3 : mode ≤ 3) : t.take txn page mode m = if 256 ≤ t.count then (15, t.unwait txn) else (0, (t.unwait txn).set txn page mode m) := by
  have hh : (t.unwait txn).holders page = [] := h
  have h0 : (t.unwait txn).holds txn page = 0 := by unfold LT.holds; rw [hh]; rfl
  have hj : joinI 0 mode = mode := by simp [joinI]
  unfold LT.take
  rw [if_neg (by omega)]
  simp only [h0, hj]
  rw [if_neg (by omega), if_neg (by simp [LT.others, oth, hh])]
  show (if True ∧ 256 ≤ t.count then _ else _) = _
  simp
theorem x7' (txn page md : Int) (h : md < 1 ∨ 3 < md) (m : Nat) (t : LT) : (t.take txn page md m).1 = 2 := by unfold LT.take; rw [if_pos h]
theorem holds_set_same (t : LT) (txn page md : Int) (m : Nat) : (t.set txn page md m).holds txn page = md := by
  unfold LT.holds; rw [holders_set, if_pos rfl, aget_aput, if_pos rfl]; rfl
theorem release_tbk {w0 w : World} {p mp mw : Nat} {t : LT} (txn : Int) (h : TB w0 w p mp mw t) (hf : t.fit) : Calls Try.prog 12 #[.pointer (some ⟨p, 0, none⟩), .int .i64 txn] w fun e w' => e = .returned (.int .i64 (t.locksOf txn)) ∧ TB w0 w' p mp mw (t.release txn) ∧ Keeps (LTFoot p mp mw t) w w' ∧ ∀ k, LTFoot p mp mw (t.release txn) k → LTFoot p mp mw t k :=
  (release_any w p mp mw t txn h.lay hf).mono fun _ _ ⟨he, hl, hk, hf⟩ => ⟨he, h.step hl hk (fun k hk => .inl (hf k hk)), hk, hf⟩
theorem ops_some {w : World} {a : Option Addr} {len cap : Nat} {zs : List OpL} (h : IsOps w a len cap zs) {k : Nat} {o : OpL} (ho : zs[k]? = some o) : ∃ x, a = some x := by
  rcases h with ⟨_, _, _, rfl⟩ | ⟨y, e, _⟩
  · simp at ho
  · exact ⟨y, e⟩
theorem ops_len {w : World} {a : Option Addr} {len cap : Nat} {zs : List OpL} (h : IsOps w a len cap zs) : zs.length = len := by
  rcases h with ⟨_, rfl, _, rfl⟩ | ⟨y, _, h, _⟩
  · rfl
  · exact h
theorem wf_ops {w : World} {x : Addr} {len cap : Nat} {zs : List OpL} (h : IsOps w (some x) len cap zs) {k : Nat} {o : OpL} (ho : zs[k]? = some o) : o.wf := by
  rcases h with ⟨h, _⟩ | ⟨y, e, _, _, _, _, hw⟩
  · cases h
  · exact hw o (List.mem_of_getElem? ho)
set_option maxRecDepth 100000 in
set_option maxHeartbeats 8000000 in
theorem lockFrees_ok (a : Option Addr) (len cap : Nat) (zs : List OpL) (page mode : Int) (w : World) (hz : IsOps w a len cap zs) (hlen : len ≤ 200) (hl : zs.length = len) :
    Calls Try.prog 9 #[.slice a len cap, .int .i64 page, .int .i64 mode] w fun e w' => e = .returned (.bool true) ∧ Below w.heap.size w w' := by
  have hal := alive_any w
  have e2 : errV 2 = .iface 32 (.int .i64 2) := rfl
  have e15 : errV 15 = .iface 32 (.int .i64 15) := rfl
  have q2 : ∀ w, (binOp .eql 30 (.iface 32 (.int .i64 2)) (.iface 32 (.int .i64 2))).run Try.prog w = .ok (.bool true) w := fun w => errEqK w 2 2 (by decide)
  have q15 : ∀ w, (binOp .eql 30 (.iface 32 (.int .i64 15)) (.iface 32 (.int .i64 15))).run Try.prog w = .ok (.bool true) w := fun w => errEqK w 15 15 (by decide)
  go_enter Try.func9, Try.ntmps9
  go_wp2_with (first
    | (go_at_call 10; (with_reducible refine hal.mono ?_); rintro _ w1 ⟨rfl, hb1⟩; clear hal; have hn := new_tb w w1 hb1)
    | (go_at_call 11; (with_reducible refine hn.mono ?_); rintro _ w2 ⟨p, mp, mw, rfl, h2, _, _⟩; clear hn))
  have Hz := Lib.hid hz; clear hz
  have Hl := Lib.hid hl; clear hl
  go_loopw [24] (fun i wr => ∃ k : Nat, ∃ t : LT, k ≤ len ∧ i = .int .i64 k ∧ TB w wr p mp mw t ∧ t.Good k) (fun i _ => len - (intOf i).toNat)
  case atStart => exact ⟨0, LT.empty, by omega, rfl, h2, good_empty⟩
  case round =>
    obtain ⟨k, t, hk, rfl, ht, hg⟩ := hrel
    by_cases hlt : k < len
    · obtain ⟨o, ho⟩ : ∃ o, zs[k]? = some o := ⟨_, List.getElem?_eq_getElem (by rw [Hl.out]; exact hlt)⟩
      obtain ⟨x, rfl⟩ := ops_some Hz.out ho
      obtain ⟨c0, c1, c2, c3⟩ := ops_at Hz.out ht.bel k o ho
      have hw := (wf_ops Hz.out ho).2.1
      have Hw : Hid (wfI o.txn) := hw
      clear ho hw
      have h3 := ht.below ((Below.refl _ _).alloc (Nat.le_refl _) (.cells #[.int .i64 o.kind, .int .i64 o.txn, .int .i64 o.page, .int .i64 o.mode] 27))
      have hc := take_tb o.txn o.page o.mode h3 (hg.fit (by omega))
      go_wp2_with (go_at_call 13; (with_reducible refine hc.mono ?_); rintro _ w4 ⟨m, rfl, h4⟩; clear hc)
      go_roundw
      case rel => exact ⟨k + 1, _, by omega, by go_num, h4, hg.take ht.lay.wkeys _ _ _ Hw.out⟩
      case measure => simp [intOf]; omega
    · obtain rfl : len = k := by omega
      have hlen5 := len_tb ht
      have hfit := hg.fit (by omega)
      have hhold := holders_any wr p mp mw t page ht.lay hfit hg.wfs
      have Hnd : Hid ((sortI ((t.holders page).map (·.1))).Nodup) := ((sortI_perm_self _).nodup_iff).2 (hg.ndi page)
      have Hmem : Hid (∀ y, y ∈ (t.holders page).map (·.1) ↔ y ∈ sortI ((t.holders page).map (·.1))) := fun y => ((sortI_perm_self _).mem_iff).symm
      have Hln : Hid ((t.holders page).length = (sortI ((t.holders page).map (·.1))).length) := by rw [(sortI_perm_self _).length_eq, List.length_map]; exact rfl
      have hL : (sortI ((t.holders page).map (·.1))).length ≤ 1000000 := by rw [← Hln.out]; exact hfit.small.holders page
      generalize sortI ((t.holders page).map (·.1)) = L at hhold Hnd Hmem Hln hL
      have Hhf := Lib.hid ht.lay.lt
      have Hg := Lib.hid hg; clear hg
      have ht' := ht
      go_wp2_with (first
        | (go_at_call 16; (with_reducible refine hlen5.mono ?_); rintro _ _ ⟨rfl, rfl⟩; clear hlen5)
        | (go_at_call 18; (with_reducible refine hhold.mono ?_); rintro _ w5 ⟨v, rfl, ho, hb5⟩; clear hhold; (obtain ⟨q, cap2, rfl, _, _, hrow⟩ := intRow_of Hln.out ho); clear ho; have ht5 := ht.below hb5; have hgd5 := Hg.out))
      have hrow5 := hrow
      have hf5 := Hhf.out
      have hm5 := Hmem.out
      clear hrow Hmem Hhf ht ht' Hln
      generalize wr.heap.size = B at *
      go_loopw [10, 44] (fun n i w' => ∃ k : Nat, ∃ t' : LT, k ≤ L.length ∧ i = .int .i64 k ∧ n = .int .i64 t'.count ∧ TB w w' p mp mw t' ∧ t'.Good len ∧ IntRow w' q L B ∧ (∀ j, LTFoot p mp mw t' j → j < B) ∧ (∀ y, y ∈ (t'.holders page).map (·.1) ↔ y ∈ L.drop k)) (fun _ i _ => L.length - (intOf i).toNat)
      case atStart => exact ⟨0, t, by omega, rfl, rfl, ht5, hgd5, hrow5, hf5, by simpa using hm5⟩
      case round =>
        rename_i w6
        clear hrow5 hf5 hm5 ht5 hgd5
        obtain ⟨k, t', hk, rfl, rfl, ht6, hg6, hrow6, hf6, hm6⟩ := hrel
        have hfit6 := hg6.fit (by omega)
        have Hg6 := Lib.hid hg6
        by_cases hlt : k < L.length
        · obtain ⟨o, ho⟩ : ∃ o, L[k]? = some o := ⟨_, List.getElem?_eq_getElem hlt⟩
          obtain ⟨g, rfl, hgB, hcell⟩ := hrow6 k o ho
          have hin : o ∈ (t'.holders page).map (·.1) := (hm6 o).2 (by rw [List.drop_eq_getElem_cons hlt]; simp [(List.getElem?_eq_some_iff.1 ho).2])
          have hc1 := locks_pos hg6 hin
          have hc2 := locks_le hg6 o
          have Hm7 := Lib.hid (left_step hg6 Hnd.out ho hm6)
          have Hho := Lib.hid (holds_release hg6 o page)
          have Hrow := Lib.hid hrow6
          have Hf6 := Lib.hid hf6
          clear ho hm6 hin hrow6 hf6
          have hrel := release_tbk o ht6 hfit6
          have Hg7 := Lib.hid (hg6.release o)
          have hb0 := hg6.le
          have hb1' := hg6.cnt
          have hb2 : 0 ≤ t'.count := by omega
          clear hg6 hb1'
          have Hcnt : Hid ((t'.release o).count = t'.count - (t'.locksOf o : Int)) := rfl
          have Hwt := Lib.hid (wait_release t' o)
          generalize hlk : t'.locksOf o = lk at hrel hc1 hc2 Hcnt
          clear hlk
          have d1 : decide ((lk : Int) < 1) = false := by simp; omega
          have d2 : decide (t'.count < (lk : Int)) = false := by simp; omega
          go_wp2_with (first
            | (go_at_call 12; (with_reducible refine hrel.mono ?_); rintro _ w7 ⟨rfl, h7, hk7, hf7⟩; clear hrel; have hld := holds_tb o page h7; rw [Hho.out] at hld; have hwt := waits_any w7 p mp mw (t'.release o) o h7.lay (Hg7.out.fit (by omega)).small; rw [Hwt.out] at hwt)
            | (go_at_call 17; (with_reducible refine hld.mono ?_); rintro _ _ ⟨rfl, rfl⟩; clear hld)
            | (go_at_call 14; (with_reducible refine hwt.mono ?_); rintro _ w8 ⟨v8, rfl, hown8, hb8⟩; clear hwt; (obtain ⟨q8, cap8, rfl⟩ := owned_nil hown8); clear hown8))
          have hk78 : Keeps (LTFoot p mp mw t') wr w8 := hk7.trans' (Keeps.of_below (S := fun _ => False) hb8) (fun _ _ hf => hf.elim)
          go_roundw
          case rel => exact ⟨k + 1, t'.release o, by omega, by go_num, by rw [Hcnt.out], h7.below hb8, Hg7.out, Hrow.out.keeps hk78 Hf6.out, fun j hj => Hf6.out j (hf7 j hj), Hm7.out⟩
          case measure => simp [intOf]; omega
        · obtain rfl : k = L.length := by omega
          have hemp : t'.holders page = [] := by
            rw [List.drop_length] at hm6
            cases hx : t'.holders page with
            | nil => rfl
            | cons a l => have := (hm6 a.1).1 (by rw [hx]; simp); cases this
          clear hm6 hrow6 hf6
          have Hemp := Lib.hid hemp
          have hlen6 := len_tb ht6
          have hhold6 := holders_any wr p mp mw t' page ht6.lay hfit6 hg6.wfs
          rw [hemp] at hhold6
          clear hemp
          change Calls _ _ _ _ (fun e w' => ∃ v, e = .returned v ∧ w'.ownsRow wr.heap.size 3 1 v 0 _ ∧ Below wr.heap.size wr w') at hhold6
          have Ht6 := Lib.hid ht6
          have Hgg := Lib.hid hg6
          clear ht6 hg6
          have htk : ∀ w7, TB w w7 p mp mw t' → _ := fun w7 (h7 : TB w w7 p mp mw t') => take_tb (-7) page mode h7 hfit6
          by_cases hmd : mode < 1 ∨ 3 < mode
          · have hx7 := fun m => x7' (-7) page mode hmd m t'
            rcases hmd with hmd | hmd
            all_goals
              go_wp2_with (first
                | (go_at_call 16; (with_reducible refine hlen6.mono ?_); rintro _ _ ⟨rfl, rfl⟩; clear hlen6)
                | (go_at_call 18; (with_reducible refine hhold6.mono ?_); rintro _ w8 ⟨v8, rfl, hown8, hb8⟩; clear hhold6; (obtain ⟨q8, cap8, rfl⟩ := owned_nil hown8); clear hown8; have htk8 := htk w8 (Ht6.out.below hb8))
                | (go_at_call 13; (with_reducible refine htk8.mono ?_); rintro _ w9 ⟨m9, rfl, h9⟩; clear htk8; have hb9 := h9.bel; clear h9; rw [hx7 m9]))
              go_ret
              exact ⟨rfl, hb9⟩
          · have hmd1 : 1 ≤ mode := by omega
            have hmd3 : mode ≤ 3 := by omega
            clear hmd
            have hx := fun m => take_free (-7) m Hemp.out hmd1 hmd3
            by_cases hcn : 256 ≤ t'.count
            · have hx15 : ∀ m, (t'.take (-7) page mode m).1 = 15 := fun m => by rw [hx, if_pos hcn]
              clear hx
              go_wp2_with (first
                | (go_at_call 16; (with_reducible refine hlen6.mono ?_); rintro _ _ ⟨rfl, rfl⟩; clear hlen6)
                | (go_at_call 18; (with_reducible refine hhold6.mono ?_); rintro _ w8 ⟨v8, rfl, hown8, hb8⟩; clear hhold6; (obtain ⟨q8, cap8, rfl⟩ := owned_nil hown8); clear hown8; have htk8 := htk w8 (Ht6.out.below hb8))
                | (go_at_call 13; (with_reducible refine htk8.mono ?_); rintro _ w9 ⟨m9, rfl, h9⟩; clear htk8; have hb9 := h9.bel; clear h9; rw [hx15 m9]))
              go_ret
              exact ⟨rfl, hb9⟩
            · have hx0 : ∀ m, (t'.take (-7) page mode m).1 = 0 := fun m => by rw [hx, if_neg hcn]
              have hxh : ∀ m, (t'.take (-7) page mode m).2.holds (-7) page = mode := fun m => by rw [hx, if_neg hcn]; exact holds_set_same _ _ _ _ _
              clear hx
              go_wp2_with (first
                | (go_at_call 16; (with_reducible refine hlen6.mono ?_); rintro _ _ ⟨rfl, rfl⟩; clear hlen6)
                | (go_at_call 18; (with_reducible refine hhold6.mono ?_); rintro _ w8 ⟨v8, rfl, hown8, hb8⟩; clear hhold6; (obtain ⟨q8, cap8, rfl⟩ := owned_nil hown8); clear hown8; have htk8 := htk w8 (Ht6.out.below hb8))
                | (go_at_call 13; (with_reducible refine htk8.mono ?_); rintro _ w9 ⟨m9, rfl, h9⟩; clear htk8; have hb9 := h9.bel; have hld9 := holds_tb (-7) page h9; rw [hxh m9] at hld9; clear h9 hxh; rw [hx0 m9]; rw [errV_zero])
                | (go_at_call 17; (with_reducible refine hld9.mono ?_); rintro _ _ ⟨rfl, rfl⟩; clear hld9))
              go_ret
              exact ⟨rfl, hb9⟩
set_option maxRecDepth 100000 in
theorem lockFrees_long (a : Option Addr) (len cap : Nat) (page mode : Int) (w : World) (hlen : 200 < len) :
    Calls Try.prog 9 #[.slice a len cap, .int .i64 page, .int .i64 mode] w fun e w' => e = .returned (.bool true) ∧ Below w.heap.size w w' := by
  have hal := alive_any w
  go_enter Try.func9, Try.ntmps9
  go_wp2_with (go_at_call 10; (with_reducible refine hal.mono ?_); rintro _ w1 ⟨rfl, hb1⟩; clear hal)
  go_ret
  exact ⟨rfl, hb1⟩
theorem lockFrees_walk (a : Option Addr) (len cap : Nat) (zs : List OpL) (page mode : Int) (w : World) (hz : IsOps w a len cap zs) (_ : (Lit.int .i64 page).wf = true) (_ : (Lit.int .i64 mode).wf = true) :
    Calls Try.prog 9 #[.slice a len cap, .int .i64 page, .int .i64 mode] w fun e w' => e = .returned (.bool true) ∧ Below w.heap.size w w' := by
  by_cases h : len ≤ 200
  · exact lockFrees_ok a len cap zs page mode w hz h (ops_len hz)
  · exact lockFrees_long a len cap page mode w (by omega)
end Go.Proofs.Ytkoopbaopidpnaa
