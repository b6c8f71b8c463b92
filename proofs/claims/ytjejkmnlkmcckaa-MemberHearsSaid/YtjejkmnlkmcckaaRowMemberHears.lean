/- The law MemberHears holds for every input: its row, out of the walk; conditions: those of the given row alone. -/
import Derived.Test.YtjejkmnlkmcckaaRows
import Derived.Test.YtjejkmnlkmcckaaMemP
import Derived.WalkKit
import Derived.ProofKit
import Derived.OpenShut
import Derived.ShutString
import Derived.ChangeOld
import Derived.Below
import Derived.SizedLaws
import Derived.Test.YtjejkmnlkmcckaaShp
namespace Go.Proofs.Ytjejkmnlkmcckaa.memberHears
open Go.ChangeShapes Go.WideShapes Go.ChangeAt Go.RowKit
open Go.ChangeMaps (open_string shut_string)
theorem own : ownKnob Try.prog.godebug = none := by kernel_rfl
theorem laidOut : laidOutB Try.prog = true := by kernel_rfl
set_option maxRecDepth 100000 in
theorem lifted (os : Os) (started : os.Started) (H : Type) (enc : TypeId × Value → H) :
    ReturnsInHanded {} Try.checked os 10 .any (Rows.memberHearsSpec.pre6 enc Try.prog Try.f10 Rows.memberHearsRow.domain false) (Rows.memberHearsSpec.post enc Try.prog Try.f10 false true false false) := by
  refine returnsInHanded_of_change_sized (C := Try.checked) own started (by kernel_rfl) Try.func10
    (ChangeSpec.witness6 (enc := enc) (C := Try.checked) false ⟨#[], #[.agg #[.int .u32 0, .int .u8 0], .bool false, .slice none 0 0], []⟩ 8 (by kernel_rfl) (by kernel_rfl) (by kernel_rfl) (by kernel_rfl)) ?_
  intro W base args ds gs before hval0 hW _ hsz0 _
  have hsz : (DataW.weightsEach Try.prog (Try.f10.params.toList ++ Rows.memberHearsSpec.plain.varTypes Try.prog) (ds ++ gs)).all (· ≤ reachBytes) = true := hsz0
  have hval : ∀ (j : Nat) t v, Try.f10.params[j]? = some t → args[j]? = some v → Value.okWide Try.prog W .any base t v := hval0
  have hW' := hW
  obtain ⟨p, q, hA0, hV, rfl, hfz, hnd⟩ := hW
  have hA : DataW.TrodAll enc Try.prog W 0 (fun _ => true) true Try.f10.params.toList args.toList ds p := hA0
  rw [Try.params10] at hA hval hsz
  obtain ⟨v0, vs0, d0, ds0, p0, q0, hargs, rfl, rfl, h0, r0⟩ := trodAll_cons hA
  obtain ⟨v1, vs1, d1, ds1, p1, q1, rfl, rfl, rfl, h1, r1⟩ := trodAll_cons r0
  obtain ⟨v2, vs2, d2, ds2, p2, q2, rfl, rfl, rfl, h2, r2⟩ := trodAll_cons r1
  obtain ⟨rfl, rfl, rfl⟩ := trodAll_nil r2
  obtain rfl : args = #[v0, v1, v2] := by cases args; simp_all
  obtain ⟨rfl, rfl⟩ := trodVars_none hV
  have k0 := h0
  have lt0 : ∀ x ∈ p0, x.block < W.heap.size := by obtain ⟨m, hm⟩ := k0; exact DataW.trod_lt m _ _ _ hm
  obtain ⟨c0, rfl, _⟩ := okWide_struct Try.underlying50 (hval 0 50 v0 rfl rfl)
  obtain ⟨hz0, hf0⟩ := fits_arg (l := [.int .u32, .int .u8]) 12 (by kernel_rfl) h0 hsz 0 rfl rfl
  obtain ⟨b0_0, b0_1, rfl⟩ := arr_of2 c0 hz0
  obtain ⟨a0_0, rfl, w0_0⟩ := (hf0 0 _ _ rfl rfl).int_inv
  obtain ⟨a0_1, rfl, w0_1⟩ := (hf0 1 _ _ rfl rfl).int_inv
  obtain ⟨a1, rfl, rfl, rfl⟩ := open_bool Try.underlying4 (hval 1 4 v1 rfl rfl) h1
  have k2 := h2
  have lt2 : ∀ x ∈ p2, x.block < W.heap.size := by obtain ⟨m, hm⟩ := k2; exact DataW.trod_lt m _ _ _ hm
  obtain ⟨_, hf2⟩ := fits_arg (l := [.sl 80 [.int .i64, .int .u8, .int .u32, .int .u8, .sl 32 [.int .i64, .sl 1 [.int .u8]], .int .u8, .int .u8, .int .u16, .int .u16, .sl 8 [.int .u32, .int .u8, .int .u8, .int .u8, .int .u8]]]) 12 (by kernel_rfl) h2 hsz 2 rfl rfl
  obtain ⟨a2, len2, cap2, rfl⟩ := okWide_slice Try.underlying74 (hval 2 74 v2 rfl rfl)
  obtain ⟨_, _, _, z2, e2, w2⟩ := (hf2 0 _ _ rfl rfl).sl_inv
  injection e2 with e12 e22 e32
  subst e12 e22 e32
  clear hA0 hval0 hsz0 hsz
  refine (memberHears_walk a0_0 a0_1 a1 a2 len2 cap2 z2 W w0_0 w0_1 w2).mono fun e W' ⟨he, bel⟩ => ?_
  subst he
  exact ⟨_, rfl, _, _, _, [], _, [], hW', trodAll_mk1 (shut_bool Try.underlying4 _), (trodAll_cons_mk (Below.trod laidOut (by kernel_rfl) (of_decide_eq_true (by kernel_rfl)) k0 bel lt0) (trodAll_cons_mk (shut_bool Try.underlying4 _) (trodAll_cons_mk (Below.trod laidOut (by kernel_rfl) (of_decide_eq_true (by kernel_rfl)) k2 bel lt2) trodAll_mk0))), rfl, bel.frame _, fun h => by cases h⟩
theorem over : Rows.memberHearsRow.holds Try.pinned (OpenSpec.ofChange Rows.memberHearsSpec) :=
  OpenClaim.holds_of_wide 10 Try.f10 rfl rfl rfl rfl rfl rfl rfl ⟨rfl, rfl, rfl, rfl, rfl⟩ rfl rfl rfl rfl rfl (by kernel_rfl) Try.func10 (by kernel_rfl)
    (of_decide_eq_true (by kernel_rfl)) (by unfold Func.isWrapper; first | (rw [if_pos (by decide +kernel)]; kernel_rfl) | (rw [if_neg (by decide +kernel)]; exact ⟨rfl, rfl⟩))
    (fun os started H enc _ => lifted os started H enc)
theorem proved : Rows.MemberHearsSaid := over
end Go.Proofs.Ytjejkmnlkmcckaa.memberHears
namespace Go.Proofs.Ytjejkmnlkmcckaa
/-- The row, under a short name, for the claim. -/
theorem memberHears_holds : Rows.MemberHearsSaid := memberHears.proved
#print axioms memberHears_holds
end Go.Proofs.Ytjejkmnlkmcckaa
