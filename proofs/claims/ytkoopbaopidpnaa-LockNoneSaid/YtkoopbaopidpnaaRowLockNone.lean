/-
  The statement LockNone of this seat, proved: for every input the call returns true, and each argument reads afterwards as it read before. No conditions.
-/
import Derived.Test.YtkoopbaopidpnaaRows
import Derived.Test.YtkoopbaopidpnaaLockW
import Derived.WalkKit
import Derived.ProofKit
import Derived.OpenShut
import Derived.ShutString
import Derived.ChangeOld
import Derived.Below
import Derived.SizedLaws
import Derived.Lib.SmallJoins
namespace Go.Proofs.Ytkoopbaopidpnaa.LockNoneRowNs
open Go.ChangeShapes Go.WideShapes Go.ChangeAt Go.RowKit
open Go.ChangeMaps (open_string shut_string)
set_option linter.unusedVariables false
theorem own : ownKnob Try.prog.godebug = none := by kernel_rfl
set_option maxRecDepth 100000 in
theorem lifted (os : Os) (started : os.Started) (H : Type) (enc : TypeId × Value → H) :
    ReturnsInHanded {} Try.checked os 8 .any (Rows.lockNoneSpec.pre6 enc Try.prog Try.f8 Rows.lockNoneRow.domain false) (Rows.lockNoneSpec.post enc Try.prog Try.f8 false true false false) := by
  refine returnsInHanded_of_change_sized (C := Try.checked) own started (by kernel_rfl) Try.func8
    (ChangeSpec.witness6 (enc := enc) (C := Try.checked) false ⟨#[], #[.agg #[.int .i64 0, .int .i64 0, .int .i64 0, .int .i64 0]], []⟩ 8 (by kernel_rfl) (by kernel_rfl) (by kernel_rfl) (by kernel_rfl)) ?_
  intro W base args ds gs before hval0 hW hcnd hsz0 _
  have hsz : (DataW.weightsEach Try.prog (Try.f8.params.toList ++ Rows.lockNoneSpec.plain.varTypes Try.prog) (ds ++ gs)).all (· ≤ reachBytes) = true := hsz0
  have hval : ∀ (j : Nat) t v, Try.f8.params[j]? = some t → args[j]? = some v → Value.okWide Try.prog W .any base t v := hval0
  have hW' := hW
  obtain ⟨p, q, hA0, hV, rfl, hfz, hnd⟩ := hW
  have hA : DataW.TrodAll enc Try.prog W 0 (fun _ => true) true Try.f8.params.toList args.toList ds p := hA0
  rw [Try.params8] at hA hval hsz
  obtain ⟨v0, vs0, d0, ds0, p0, q0, hargs, rfl, rfl, h0, r0⟩ := trodAll_cons hA
  obtain ⟨rfl, rfl, rfl⟩ := trodAll_nil r0
  obtain rfl : args = #[v0] := by cases args; simp_all
  obtain ⟨rfl, rfl⟩ := trodVars_none hV
  obtain ⟨c00, c01, c02, c03, y00, y01, y02, y03, n0, rfl, rfl, rfl, g00, g01, g02, g03⟩ := Go.Joins.open_agg4 Try.underlying27 (by kernel_rfl) (by kernel_rfl : Try.prog.cellsOf 27 = 4) (hval 0 27 v0 rfl rfl) h0
  obtain ⟨a00, e00, rfl, w00⟩ := DataW.trod_int Try.underlying3 g00
  obtain ⟨a01, e01, rfl, w01⟩ := DataW.trod_int Try.underlying3 g01
  obtain ⟨a02, e02, rfl, w02⟩ := DataW.trod_int Try.underlying3 g02
  obtain ⟨a03, e03, rfl, w03⟩ := DataW.trod_int Try.underlying3 g03
  simp at e00; subst e00
  simp at e01; subst e01
  simp at e02; subst e02
  simp at e03; subst e03
  clear hA0 hval0 hsz0 hsz
  refine (lockNone_walk a00 a01 a02 a03 W w00 w01 w02 w03).mono fun e W' ⟨he, bel⟩ => ?_
  subst he
  exact ⟨_, rfl, _, _, _, [], _, [], hW', trodAll_mk1 (shut_bool Try.underlying4 _), (trodAll_cons_mk (Go.Joins.shut_agg4 (y0 := (.lit (.int .i64 a00), [])) (y1 := (.lit (.int .i64 a01), [])) (y2 := (.lit (.int .i64 a02), [])) (y3 := (.lit (.int .i64 a03), [])) Try.underlying27 (by kernel_rfl) (by kernel_rfl : Try.prog.cellsOf 27 = 4) (shut_int Try.underlying3 w00) (shut_int Try.underlying3 w01) (shut_int Try.underlying3 w02) (shut_int Try.underlying3 w03)) trodAll_mk0), rfl, bel.frame _, fun h => by cases h⟩
theorem over : Rows.lockNoneRow.holds Try.pinned (OpenSpec.ofChange Rows.lockNoneSpec) :=
  OpenClaim.holds_of_wide 8 Try.f8 rfl rfl rfl rfl rfl rfl rfl ⟨rfl, rfl, rfl, rfl, rfl⟩ rfl rfl rfl rfl rfl (by kernel_rfl) Try.func8 (by kernel_rfl)
    (of_decide_eq_true (by kernel_rfl)) (by unfold Func.isWrapper; first | (rw [if_pos (by decide +kernel)]; kernel_rfl) | (rw [if_neg (by decide +kernel)]; exact ⟨rfl, rfl⟩))
    (fun os started H enc _ => lifted os started H enc)
theorem proved : Rows.LockNoneSaid := over
end Go.Proofs.Ytkoopbaopidpnaa.LockNoneRowNs
namespace Go.Proofs.Ytkoopbaopidpnaa
/-- The statement, under a short name, for the claim. -/
theorem lockNone_holds : Rows.LockNoneSaid := LockNoneRowNs.proved
#print axioms lockNone_holds
end Go.Proofs.Ytkoopbaopidpnaa
