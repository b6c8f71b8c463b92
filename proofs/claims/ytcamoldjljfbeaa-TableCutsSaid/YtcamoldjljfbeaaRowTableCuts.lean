/- The law TableCuts holds for every input: its row, out of the walk; conditions: those of the given row alone. -/
import Derived.Test.YtcamoldjljfbeaaRows
import Derived.Test.YtcamoldjljfbeaaTbN
import Derived.WalkKit
import Derived.ProofKit
import Derived.OpenShut
import Derived.ShutString
import Derived.ChangeOld
import Derived.Below
import Derived.SizedLaws
import Derived.Test.YtcamoldjljfbeaaWSized
import Derived.Test.YtcamoldjljfbeaaShp
namespace Go.Proofs.Ytcamoldjljfbeaa.tableCuts
open Go.ChangeShapes Go.WideShapes Go.ChangeAt Go.RowKit
open Go.ChangeMaps (open_string shut_string)
theorem own : ownKnob Try.prog.godebug = none := by kernel_rfl
theorem laidOut : laidOutB Try.prog = true := by kernel_rfl
set_option maxRecDepth 100000 in
theorem lifted (os : Os) (started : os.Started) (H : Type) (enc : TypeId × Value → H) :
    ReturnsInHanded {} Try.checked os 16 .any (Rows.tableCutsSpec.pre6 enc Try.prog Try.f16 Rows.tableCutsRow.domain false) (Rows.tableCutsSpec.post enc Try.prog Try.f16 false true false false) := by
  refine returnsInHanded_of_change_sized (C := Try.checked) own started (by kernel_rfl) Try.func16
    (ChangeSpec.witness6 (enc := enc) (C := Try.checked) false ⟨#[], #[.agg #[.int .i64 0, .int .i64 0, .int .i64 0, .int .i64 0, .int .i64 0, .int .i64 0, .int .i64 0, .int .i64 0, .slice none 0 0, .slice none 0 0, .slice none 0 0], .int .i64 0, .slice none 0 0, .int .u8 0], []⟩ 8 (by kernel_rfl) (by kernel_rfl) (by kernel_rfl) (by kernel_rfl)) ?_
  intro W base args ds gs before hval0 hW _ hsz0 _
  have hsz : (DataW.weightsEach Try.prog (Try.f16.params.toList ++ Rows.tableCutsSpec.plain.varTypes Try.prog) (ds ++ gs)).all (· ≤ reachBytes) = true := hsz0
  have hval : ∀ (j : Nat) t v, Try.f16.params[j]? = some t → args[j]? = some v → Value.okWide Try.prog W .any base t v := hval0
  have hW' := hW
  obtain ⟨p, q, hA0, hV, rfl, hfz, hnd⟩ := hW
  have hA : DataW.TrodAll enc Try.prog W 0 (fun _ => true) true Try.f16.params.toList args.toList ds p := hA0
  rw [Try.params16] at hA hval hsz
  obtain ⟨v0, vs0, d0, ds0, p0, q0, hargs, rfl, rfl, h0, r0⟩ := trodAll_cons hA
  obtain ⟨v1, vs1, d1, ds1, p1, q1, rfl, rfl, rfl, h1, r1⟩ := trodAll_cons r0
  obtain ⟨v2, vs2, d2, ds2, p2, q2, rfl, rfl, rfl, h2, r2⟩ := trodAll_cons r1
  obtain ⟨v3, vs3, d3, ds3, p3, q3, rfl, rfl, rfl, h3, r3⟩ := trodAll_cons r2
  obtain ⟨rfl, rfl, rfl⟩ := trodAll_nil r3
  obtain rfl : args = #[v0, v1, v2, v3] := by cases args; simp_all
  obtain ⟨rfl, rfl⟩ := trodVars_none hV
  have k0 := h0
  have lt0 : ∀ x ∈ p0, x.block < W.heap.size := by obtain ⟨m, hm⟩ := k0; exact DataW.trod_lt m _ _ _ hm
  obtain ⟨c0, rfl, _⟩ := okWide_struct Try.underlying26 (hval 0 26 v0 rfl rfl)
  obtain ⟨hz0, hf0⟩ := fits_arg (l := [.int .i64, .int .i64, .int .i64, .int .i64, .int .i64, .int .i64, .int .i64, .int .i64, .sl 48 [.int .i64, .int .i64, .int .i64, .int .i64, .int .i64, .int .u8, .int .u8, .int .u8, .int .u8], .sl 40 [.int .i64, .int .u8, .bool, .int .i64, .int .i64, .int .i64], .sl 16 [.int .i64, .int .i64]]) 12 (by kernel_rfl) h0 hsz 0 rfl rfl
  obtain ⟨b0_0, b0_1, b0_2, b0_3, b0_4, b0_5, b0_6, b0_7, b0_8, b0_9, b0_10, rfl⟩ := arr_of11 c0 hz0
  obtain ⟨a0_0, rfl, w0_0⟩ := (hf0 0 _ _ rfl rfl).int_inv
  obtain ⟨a0_1, rfl, w0_1⟩ := (hf0 1 _ _ rfl rfl).int_inv
  obtain ⟨a0_2, rfl, w0_2⟩ := (hf0 2 _ _ rfl rfl).int_inv
  obtain ⟨a0_3, rfl, w0_3⟩ := (hf0 3 _ _ rfl rfl).int_inv
  obtain ⟨a0_4, rfl, w0_4⟩ := (hf0 4 _ _ rfl rfl).int_inv
  obtain ⟨a0_5, rfl, w0_5⟩ := (hf0 5 _ _ rfl rfl).int_inv
  obtain ⟨a0_6, rfl, w0_6⟩ := (hf0 6 _ _ rfl rfl).int_inv
  obtain ⟨a0_7, rfl, w0_7⟩ := (hf0 7 _ _ rfl rfl).int_inv
  obtain ⟨a0_8, len0_8, cap0_8, z0_8, rfl, w0_8⟩ := (hf0 8 _ _ rfl rfl).sl_inv
  obtain ⟨a0_9, len0_9, cap0_9, z0_9, rfl, w0_9⟩ := (hf0 9 _ _ rfl rfl).sl_inv
  obtain ⟨a0_10, len0_10, cap0_10, z0_10, rfl, w0_10⟩ := (hf0 10 _ _ rfl rfl).sl_inv
  obtain ⟨a1, rfl, rfl, rfl, w1⟩ := open_int Try.underlying3 (hval 1 3 v1 rfl rfl) h1
  obtain ⟨a2, len2, cap2, rfl⟩ := okWide_slice Try.underlying50 (hval 2 50 v2 rfl rfl)
  have k2 := h2
  have lt2 : ∀ x ∈ p2, x.block < W.heap.size := by obtain ⟨m, hm⟩ := k2; exact DataW.trod_lt m _ _ _ hm
  obtain ⟨z2, w2⟩ : ∃ zs, IsRow .u8 W a2 len2 cap2 zs := by
    obtain ⟨fuel, hf⟩ := h2
    rcases open_ints Try.underlying50 Try.underlying5 (by kernel_rfl) hf with ⟨hcs, _⟩ | ⟨x, l, c, zs, hcs, _, hl, hm, hz, _, hcell, hwz⟩
    · simp [Value.cells] at hcs
      obtain ⟨rfl, rfl, rfl⟩ := hcs
      exact ⟨[], .inl ⟨rfl, rfl, rfl, rfl⟩⟩
    · simp [Value.cells] at hcs
      obtain ⟨rfl, rfl, rfl⟩ := hcs
      exact ⟨zs, .inr ⟨_, rfl, hl, hm, by simpa using hz, hcell, hwz⟩⟩
  have y2 : len2 * 1 ≤ 140737488351232 := YtcamoldjljfbeaaW.PrintWords.sized_ints hsz (j := 2) (t := 50) rfl rfl Try.underlying50 Try.underlying5 (by kernel_rfl) (by kernel_rfl) h2
  obtain ⟨a3, rfl, rfl, rfl, w3⟩ := open_int Try.underlying5 (hval 3 5 v3 rfl rfl) h3
  clear hA0 hval0 hsz0 hsz
  refine (tableCuts_walk a0_0 a0_1 a0_2 a0_3 a0_4 a0_5 a0_6 a0_7 a0_8 len0_8 cap0_8 z0_8 a0_9 len0_9 cap0_9 z0_9 a0_10 len0_10 cap0_10 z0_10 a1 a2 len2 cap2 z2 a3 W w0_0 w0_1 w0_2 w0_3 w0_4 w0_5 w0_6 w0_7 w0_8 w0_9 w0_10 w1 w2 y2 w3).mono fun e W' ⟨he, bel⟩ => ?_
  subst he
  exact ⟨_, rfl, _, _, _, [], _, [], hW', trodAll_mk1 (shut_bool Try.underlying4 _), (trodAll_cons_mk (Below.trod laidOut (by kernel_rfl) (of_decide_eq_true (by kernel_rfl)) k0 bel lt0) (trodAll_cons_mk (shut_int Try.underlying3 w1) (trodAll_cons_mk (Below.trod laidOut (by kernel_rfl) (of_decide_eq_true (by kernel_rfl)) k2 bel lt2) (trodAll_cons_mk (shut_int Try.underlying5 w3) trodAll_mk0)))), rfl, bel.frame _, fun h => by cases h⟩
theorem over : Rows.tableCutsRow.holds Try.pinned (OpenSpec.ofChange Rows.tableCutsSpec) :=
  OpenClaim.holds_of_wide 16 Try.f16 rfl rfl rfl rfl rfl rfl rfl ⟨rfl, rfl, rfl, rfl, rfl⟩ rfl rfl rfl rfl rfl (by kernel_rfl) Try.func16 (by kernel_rfl)
    (of_decide_eq_true (by kernel_rfl)) (by unfold Func.isWrapper; first | (rw [if_pos (by decide +kernel)]; kernel_rfl) | (rw [if_neg (by decide +kernel)]; exact ⟨rfl, rfl⟩))
    (fun os started H enc _ => lifted os started H enc)
theorem proved : Rows.TableCutsSaid := over
end Go.Proofs.Ytcamoldjljfbeaa.tableCuts
namespace Go.Proofs.Ytcamoldjljfbeaa
/-- The row, under a short name, for the claim. -/
theorem tableCuts_holds : Rows.TableCutsSaid := tableCuts.proved
#print axioms tableCuts_holds
end Go.Proofs.Ytcamoldjljfbeaa
