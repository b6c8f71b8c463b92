/- The law MemberNil holds for every input: its row, out of the walk; conditions: those of the given row alone. -/
import Derived.Test.YtjejkmnlkmcckaaRows
import Derived.Test.YtjejkmnlkmcckaaMemE
import Derived.WalkKit
import Derived.ProofKit
import Derived.OpenShut
import Derived.ShutString
import Derived.ChangeOld
import Derived.Below
import Derived.SizedLaws
import Derived.Test.YtjejkmnlkmcckaaShp
namespace Go.Proofs.Ytjejkmnlkmcckaa.memberNil
open Go.ChangeShapes Go.WideShapes Go.ChangeAt Go.RowKit
open Go.ChangeMaps (open_string shut_string)
theorem own : ownKnob Try.prog.godebug = none := by kernel_rfl
theorem laidOut : laidOutB Try.prog = true := by kernel_rfl
set_option maxRecDepth 100000 in
theorem lifted (os : Os) (started : os.Started) (H : Type) (enc : TypeId × Value → H) :
    ReturnsInHanded {} Try.checked os 11 .any (Rows.memberNilSpec.pre6 enc Try.prog Try.f11 Rows.memberNilRow.domain false) (Rows.memberNilSpec.post enc Try.prog Try.f11 false true false false) := by
  refine returnsInHanded_of_change_sized (C := Try.checked) own started (by kernel_rfl) Try.func11
    (ChangeSpec.witness6 (enc := enc) (C := Try.checked) false ⟨#[], #[.int .i64 0, .agg #[.int .u8 0, .int .u32 0, .int .u8 0, .slice none 0 0, .int .u8 0, .int .u8 0, .int .u16 0, .int .u16 0, .slice none 0 0]], []⟩ 8 (by kernel_rfl) (by kernel_rfl) (by kernel_rfl) (by kernel_rfl)) ?_
  intro W base args ds gs before hval0 hW _ _ _
  have hval : ∀ (j : Nat) t v, Try.f11.params[j]? = some t → args[j]? = some v → Value.okWide Try.prog W .any base t v := hval0
  have hW' := hW
  obtain ⟨p, q, hA0, hV, rfl, hfz, hnd⟩ := hW
  have hA : DataW.TrodAll enc Try.prog W 0 (fun _ => true) true Try.f11.params.toList args.toList ds p := hA0
  rw [Try.params11] at hA hval
  obtain ⟨v0, vs0, d0, ds0, p0, q0, hargs, rfl, rfl, h0, r0⟩ := trodAll_cons hA
  obtain ⟨v1, vs1, d1, ds1, p1, q1, rfl, rfl, rfl, h1, r1⟩ := trodAll_cons r0
  obtain ⟨rfl, rfl, rfl⟩ := trodAll_nil r1
  obtain rfl : args = #[v0, v1] := by cases args; simp_all
  obtain ⟨rfl, rfl⟩ := trodVars_none hV
  obtain ⟨a0, rfl, rfl, rfl, w0⟩ := open_int Try.underlying3 (hval 0 3 v0 rfl rfl) h0
  have k1 := h1
  have lt1 : ∀ x ∈ p1, x.block < W.heap.size := by obtain ⟨m, hm⟩ := k1; exact DataW.trod_lt m _ _ _ hm
  obtain ⟨c1, rfl, _⟩ := okWide_struct Try.underlying59 (hval 1 59 v1 rfl rfl)
  obtain ⟨hz1, hf1⟩ := fits_arg (l := [.int .u8, .int .u32, .int .u8, .sl [.int .i64, .sl [.int .u8]], .int .u8, .int .u8, .int .u16, .int .u16, .sl [.int .u32, .int .u8, .int .u8, .int .u8, .int .u8]]) 12 (by kernel_rfl) h1
  obtain ⟨b1_0, b1_1, b1_2, b1_3, b1_4, b1_5, b1_6, b1_7, b1_8, rfl⟩ := arr_of9 c1 hz1
  obtain ⟨a1_0, rfl, w1_0⟩ := (hf1 0 _ _ rfl rfl).int_inv
  obtain ⟨a1_1, rfl, w1_1⟩ := (hf1 1 _ _ rfl rfl).int_inv
  obtain ⟨a1_2, rfl, w1_2⟩ := (hf1 2 _ _ rfl rfl).int_inv
  obtain ⟨a1_3, len1_3, cap1_3, z1_3, rfl, w1_3⟩ := (hf1 3 _ _ rfl rfl).sl_inv
  obtain ⟨a1_4, rfl, w1_4⟩ := (hf1 4 _ _ rfl rfl).int_inv
  obtain ⟨a1_5, rfl, w1_5⟩ := (hf1 5 _ _ rfl rfl).int_inv
  obtain ⟨a1_6, rfl, w1_6⟩ := (hf1 6 _ _ rfl rfl).int_inv
  obtain ⟨a1_7, rfl, w1_7⟩ := (hf1 7 _ _ rfl rfl).int_inv
  obtain ⟨a1_8, len1_8, cap1_8, z1_8, rfl, w1_8⟩ := (hf1 8 _ _ rfl rfl).sl_inv
  clear hA0 hval0
  refine (memberNil_walk a0 a1_0 a1_1 a1_2 a1_3 len1_3 cap1_3 z1_3 a1_4 a1_5 a1_6 a1_7 a1_8 len1_8 cap1_8 z1_8 W w0 w1_0 w1_1 w1_2 w1_3 w1_4 w1_5 w1_6 w1_7 w1_8).mono fun e W' ⟨he, bel⟩ => ?_
  subst he
  exact ⟨_, rfl, _, _, _, [], _, [], hW', trodAll_mk1 (shut_bool Try.underlying4 _), (trodAll_cons_mk (shut_int Try.underlying3 w0) (trodAll_cons_mk (Below.trod laidOut (by kernel_rfl) (of_decide_eq_true (by kernel_rfl)) k1 bel lt1) trodAll_mk0)), rfl, bel.frame _, fun h => by cases h⟩
theorem over : Rows.memberNilRow.holds Try.pinned (OpenSpec.ofChange Rows.memberNilSpec) :=
  OpenClaim.holds_of_wide 11 Try.f11 rfl rfl rfl rfl rfl rfl rfl ⟨rfl, rfl, rfl, rfl, rfl⟩ rfl rfl rfl rfl rfl (by kernel_rfl) Try.func11 (by kernel_rfl)
    (of_decide_eq_true (by kernel_rfl)) (by unfold Func.isWrapper; first | (rw [if_pos (by decide +kernel)]; kernel_rfl) | (rw [if_neg (by decide +kernel)]; exact ⟨rfl, rfl⟩))
    (fun os started H enc _ => lifted os started H enc)
theorem proved : Rows.MemberNilSaid := over
end Go.Proofs.Ytjejkmnlkmcckaa.memberNil
namespace Go.Proofs.Ytjejkmnlkmcckaa
/-- The row, under a short name, for the claim. -/
theorem memberNil_holds : Rows.MemberNilSaid := memberNil.proved
#print axioms memberNil_holds
end Go.Proofs.Ytjejkmnlkmcckaa
