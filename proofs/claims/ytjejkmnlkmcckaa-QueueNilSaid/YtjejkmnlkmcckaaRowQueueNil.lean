/- The law QueueNil holds for every input: its row, out of the walk; conditions: those of the given row alone. -/
import Derived.Test.YtjejkmnlkmcckaaRows
import Derived.Test.YtjejkmnlkmcckaaQuA
import Derived.WalkKit
import Derived.ProofKit
import Derived.OpenShut
import Derived.ShutString
import Derived.ChangeOld
import Derived.Below
import Derived.SizedLaws
import Derived.Test.YtjejkmnlkmcckaaShp
namespace Go.Proofs.Ytjejkmnlkmcckaa.queueNil
open Go.ChangeShapes Go.WideShapes Go.ChangeAt Go.RowKit
open Go.ChangeMaps (open_string shut_string)
theorem own : ownKnob Try.prog.godebug = none := by kernel_rfl
theorem laidOut : laidOutB Try.prog = true := by kernel_rfl
set_option maxRecDepth 100000 in
theorem lifted (os : Os) (started : os.Started) (H : Type) (enc : TypeId × Value → H) :
    ReturnsInHanded {} Try.checked os 5 .any (Rows.queueNilSpec.pre6 enc Try.prog Try.f5 Rows.queueNilRow.domain false) (Rows.queueNilSpec.post enc Try.prog Try.f5 false true false false) := by
  refine returnsInHanded_of_change_sized (C := Try.checked) own started (by kernel_rfl) Try.func5
    (ChangeSpec.witness6 (enc := enc) (C := Try.checked) false ⟨#[], #[.agg #[.int .i64 0, .int .i64 0, .int .i64 0]], []⟩ 8 (by kernel_rfl) (by kernel_rfl) (by kernel_rfl) (by kernel_rfl)) ?_
  intro W base args ds gs before hval0 hW _ _ _
  have hval : ∀ (j : Nat) t v, Try.f5.params[j]? = some t → args[j]? = some v → Value.okWide Try.prog W .any base t v := hval0
  have hW' := hW
  obtain ⟨p, q, hA0, hV, rfl, hfz, hnd⟩ := hW
  have hA : DataW.TrodAll enc Try.prog W 0 (fun _ => true) true Try.f5.params.toList args.toList ds p := hA0
  rw [Try.params5] at hA hval
  obtain ⟨v0, vs0, d0, ds0, p0, q0, hargs, rfl, rfl, h0, r0⟩ := trodAll_cons hA
  obtain ⟨rfl, rfl, rfl⟩ := trodAll_nil r0
  obtain rfl : args = #[v0] := by cases args; simp_all
  obtain ⟨rfl, rfl⟩ := trodVars_none hV
  have k0 := h0
  have lt0 : ∀ x ∈ p0, x.block < W.heap.size := by obtain ⟨m, hm⟩ := k0; exact DataW.trod_lt m _ _ _ hm
  obtain ⟨c0, rfl, _⟩ := okWide_struct Try.underlying28 (hval 0 28 v0 rfl rfl)
  obtain ⟨hz0, hf0⟩ := fits_arg (l := [.int .i64, .int .i64, .int .i64]) 12 (by kernel_rfl) h0
  obtain ⟨b0_0, b0_1, b0_2, rfl⟩ := arr_of3 c0 hz0
  obtain ⟨a0_0, rfl, w0_0⟩ := (hf0 0 _ _ rfl rfl).int_inv
  obtain ⟨a0_1, rfl, w0_1⟩ := (hf0 1 _ _ rfl rfl).int_inv
  obtain ⟨a0_2, rfl, w0_2⟩ := (hf0 2 _ _ rfl rfl).int_inv
  clear hA0 hval0
  refine (queueNil_walk a0_0 a0_1 a0_2 W w0_0 w0_1 w0_2).mono fun e W' ⟨he, bel⟩ => ?_
  subst he
  exact ⟨_, rfl, _, _, _, [], _, [], hW', trodAll_mk1 (shut_bool Try.underlying4 _), (trodAll_cons_mk (Below.trod laidOut (by kernel_rfl) (of_decide_eq_true (by kernel_rfl)) k0 bel lt0) trodAll_mk0), rfl, bel.frame _, fun h => by cases h⟩
theorem over : Rows.queueNilRow.holds Try.pinned (OpenSpec.ofChange Rows.queueNilSpec) :=
  OpenClaim.holds_of_wide 5 Try.f5 rfl rfl rfl rfl rfl rfl rfl ⟨rfl, rfl, rfl, rfl, rfl⟩ rfl rfl rfl rfl rfl (by kernel_rfl) Try.func5 (by kernel_rfl)
    (of_decide_eq_true (by kernel_rfl)) (by unfold Func.isWrapper; first | (rw [if_pos (by decide +kernel)]; kernel_rfl) | (rw [if_neg (by decide +kernel)]; exact ⟨rfl, rfl⟩))
    (fun os started H enc _ => lifted os started H enc)
theorem proved : Rows.QueueNilSaid := over
end Go.Proofs.Ytjejkmnlkmcckaa.queueNil
namespace Go.Proofs.Ytjejkmnlkmcckaa
/-- The row, under a short name, for the claim. -/
theorem queueNil_holds : Rows.QueueNilSaid := queueNil.proved
#print axioms queueNil_holds
end Go.Proofs.Ytjejkmnlkmcckaa
