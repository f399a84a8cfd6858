import Derived.Test.YtnficiohnhodiaaLockF
namespace Go.Proofs.Ytnficiohnhodiaa
open Go.RowKit
open Go.ChangeMaps (setBlock)
def errV (k : Int) : Value := if k = 0 then Value.nilIface else .iface 74 (.int .i64 k)
def LT.unwait (t : LT) (txn : Int) : LT := { t with waits := adel t.waits txn }
/-- a mode is set: the page's map is in block m, if it is a new one -/
def LT.set (t : LT) (txn page mode : Int) (m : Nat) : LT :=
  { t with pages := aput t.pages page (match aget t.pages page with | none => (m, [(txn, mode)]) | some x => (x.1, aput x.2 txn mode)), count := t.count + (if t.holds txn page = 0 then 1 else 0) }
open Classical in
noncomputable def LT.take (t : LT) (txn page mode : Int) (m : Nat) : Int × LT :=
  if mode < 1 ∨ 3 < mode then (2, t) else
  let t1 := t.unwait txn
  let md := joinI (t1.holds txn page) mode
  if md = t1.holds txn page then (0, t1) else
  if t1.others txn ⟨page, md⟩ ≠ [] then
    if ∃ o ∈ t1.others txn ⟨page, md⟩, Reach t1 o txn then (18, t1) else (17, { t1 with waits := aput t1.waits txn ⟨page, md⟩ })
  else if t1.holds txn page = 0 ∧ 256 ≤ t1.count then (15, t1) else (0, t1.set txn page md m)
structure LT.fit (t : LT) : Prop where
  small : t.small
  waits : t.waits.length ≤ 1000000
  pages : t.pages.length ≤ 1000000
  low : -1000000 ≤ t.count
  high : t.count ≤ 1000000
theorem take_form (w : World) (v : Value) (txn page mode : Int) (h : mode < 1 ∨ 3 < mode) :
    Calls Try.prog 11 #[v, .int .i64 txn, .int .i64 page, .int .i64 mode] w fun e w' => e = .returned (errV 2) ∧ w = w' := by
  have hmi : ∀ w, (Instr.makeInterface 74 (.int .i64 2)).run Try.prog w = .ok (.iface 74 (.int .i64 2)) w := fun w => by kernel_rfl
  go_enter Try.func11, Try.ntmps11
  rcases h with h | h
  · go_wp2
    go_ret
    exact ⟨rfl, rfl⟩
  · have : ¬ mode < 1 := by omega
    go_wp2
    go_ret
    exact ⟨rfl, rfl⟩
theorem owned_form {W : World} {base e size n : Nat} {v : Value} {xs : List Value} (h : W.ownsRow base e size v n xs) (hn : 0 < n) : ∃ g cap, v = .slice (some ⟨g, 0, none⟩) n cap := by
  rcases h.2 with ⟨_, h0⟩ | ⟨g, cap, _, hv, _⟩
  · omega
  · exact ⟨g, cap, hv⟩
theorem clone_own (w : World) (base g cap : Nat) (zs : List Int) (hl : zs.length ≤ 1000000) (hown : w.ownsRow base 3 1 (.slice (some ⟨g, 0, none⟩) zs.length cap) zs.length (zs.map (Value.int .i64))) :
    Calls Try.prog 40 #[.slice (some ⟨g, 0, none⟩) zs.length cap] w fun e w' => ∃ v', e = .returned v' ∧ w'.ownsRow w.heap.size 3 1 v' zs.length (zs.map (Value.int .i64)) ∧ Below w.heap.size w w' := by
  refine (Try.slices_Clone_int g 0 zs.length cap zs w (by omega) (by omega) (fun j hj => ?_)).mono ?_
  · have e := hown.cellAt j (by simpa using hj)
    rw [Nat.zero_add, e, List.getElem?_map, List.getElem?_eq_getElem hj, List.getD_eq_getElem?_getD, List.getElem?_eq_getElem hj]; rfl
  · rintro e w' ⟨v', rfl, h1, _, h2⟩
    rw [List.take_of_length_le (by omega)] at h1
    exact ⟨v', rfl, h1, h2⟩
end Go.Proofs.Ytnficiohnhodiaa
