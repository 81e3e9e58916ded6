/- The given statement TenantBusySaid, proved: the walk over the law and the row. -/
import Derived.Test.YtckokpmljhhhcaaL3
import Derived.Test.YtckokpmljhhhcaaRows
import Derived.WalkKit
import Derived.ProofKit
import Derived.OpenShut
set_option linter.unusedVariables false
set_option linter.unusedSimpArgs false
namespace Go.Proofs.Ytckokpmljhhhcaa
open Go Go.H Go.Proofs.Try
set_option linter.unusedSimpArgs false
set_option linter.unusedVariables false
set_option maxRecDepth 100000
set_option maxHeartbeats 2000000
open Go.ChangeShapes Go.WideShapes Go.ChangeAt Go.RowKit
theorem Keep.below {H' : Hp} {w w' : World} (k : Keep Hp.emp H' w w') : Below w.heap.size w w' := ⟨k.os, k.tape, k.output, k.size, fun b hb => k.same b hb rfl⟩
theorem fits_of {x : Int} (h : (Lit.int .i64 x).wf = true) : fitsI x := by
  simp [Lit.wf, IntKind.min, IntKind.max, IntKind.signed, IntKind.bits] at h
  exact ⟨by omega, by omega⟩
theorem own : ownKnob prog.godebug = none := by kernel_rfl
theorem walk_Busy (x y : Int) (wx : (Lit.int .i64 x).wf = true) (wy : (Lit.int .i64 y).wf = true) (w : World) : Calls prog 5 #[.int .i64 x, .int .i64 y] w fun e w' => e = .returned (.bool true) ∧ Below w.heap.size w w' := by
  refine (law_Busy (H0 := Hp.emp) (fits_of wx) (fits_of wy) w (fun b o h => by cases h)).mono ?_
  rintro e w' ⟨v, H', rfl, rfl, _, k⟩
  exact ⟨rfl, Keep.below k⟩
theorem lifted_Busy (os : Os) (started : os.Started) (H : Type) (enc : TypeId × Value → H) :
    ReturnsInHanded {} checked os 5 .any (Rows.tenantBusySpec.pre6 enc prog f5 Rows.tenantBusyRow.domain false) (Rows.tenantBusySpec.post enc prog f5 false true false false) := by
  refine returnsInHanded_of_change (C := checked) own started (by kernel_rfl) func5
    (ChangeSpec.witness6 (enc := enc) (C := checked) false ⟨#[], #[.int .i64 0, .int .i64 0], []⟩ 8 (by kernel_rfl) (by kernel_rfl) (by kernel_rfl) (by kernel_rfl)) ?_
  intro W base args ds gs before hval0 hW hcnd _
  have hval : ∀ (j : Nat) t v, f5.params[j]? = some t → args[j]? = some v → Value.okWide prog W .any base t v := hval0
  have hW' := hW
  obtain ⟨p, q, hA0, hV, rfl, hfz, hnd⟩ := hW
  have hA : DataW.TrodAll enc prog W 0 (fun _ => true) true f5.params.toList args.toList ds p := hA0
  rw [params5] at hA hval
  obtain ⟨v0, vs0, d0, ds0, p0, q0, hargs, rfl, rfl, h0, r0⟩ := trodAll_cons hA
  obtain ⟨v1, vs1, d1, ds1, p1, q1, rfl, rfl, rfl, h1, r1⟩ := trodAll_cons r0
  obtain ⟨rfl, rfl, rfl⟩ := trodAll_nil r1
  obtain rfl : args = #[v0, v1] := by cases args; simp_all
  obtain ⟨rfl, rfl⟩ := trodVars_none hV
  obtain ⟨a0, rfl, rfl, rfl, w0⟩ := open_int underlying3 (hval 0 3 v0 rfl rfl) h0
  obtain ⟨a1, rfl, rfl, rfl, w1⟩ := open_int underlying3 (hval 1 3 v1 rfl rfl) h1
  clear hA0 hval0
  refine (walk_Busy a0 a1 w0 w1 W).mono fun e W' ⟨he, bel⟩ => ?_
  subst he
  exact ⟨_, rfl, _, _, _, [], _, [], hW', trodAll_mk1 (shut_bool underlying4 _), (trodAll_cons_mk (shut_int underlying3 w0) (trodAll_cons_mk (shut_int underlying3 w1) trodAll_mk0)), rfl, bel.frame _, fun h => by cases h⟩
theorem TenantBusy_holds : Rows.TenantBusySaid :=
  OpenClaim.holds_of_wide 5 f5 rfl rfl rfl rfl rfl rfl rfl ⟨rfl, rfl, rfl, rfl, rfl⟩ rfl rfl rfl rfl rfl (by kernel_rfl) func5 (by kernel_rfl)
    (of_decide_eq_true (by kernel_rfl)) (by unfold Func.isWrapper; first | (rw [if_pos (by decide +kernel)]; kernel_rfl) | (rw [if_neg (by decide +kernel)]; exact ⟨rfl, rfl⟩))
    (fun os started H enc _ => lifted_Busy os started H enc)
end Go.Proofs.Ytckokpmljhhhcaa
