/- HealthSeals walked. -/
import Derived.Test.YtpiahnecpbalhaaHeH
namespace Go.Proofs.Ytpiahnecpbalhaa
open Go.RowKit

theorem min_three (ats : Array TypeId) (ty : TypeId) (a b c m : Nat) (hm : m = min (min a b) c) :
    Builtin.min_ ats ty #[.int .i64 a, .int .i64 b, .int .i64 c] = (pure (.int .i64 m) : Sem Value) := by
  subst hm
  simp only [Builtin.min_, List.foldlM_cons, List.foldlM_nil, Builtin.min2]
  by_cases h1 : (b : Int) < a
  · rw [if_pos h1]
    simp only [pure_bind]
    by_cases h2 : (c : Int) < b
    · rw [if_pos h2]; show pure _ = pure _; congr 2; omega
    · rw [if_neg h2]; show pure _ = pure _; congr 2; omega
  · rw [if_neg h1]
    simp only [pure_bind]
    by_cases h2 : (c : Int) < a
    · rw [if_pos h2]; show pure _ = pure _; congr 2; omega
    · rw [if_neg h2]; show pure _ = pure _; congr 2; omega
def p0 : Pt := ⟨0, 0, 0, 0, 0, 0, 0, 0, 0⟩
def kd (xs : List Int) (j : Nat) : Nat := (IntKind.u64.wrap (xs.getD j 0) % 4).toNat
def sealR (xs : List Int) (j : Nat) : Rec5 := ⟨j, 3, 0, kd xs j, 0⟩
def sealO (xs : List Int) (n : Nat) : List Rec5 := (List.range n).map (sealR xs)
theorem sealO_succ (xs : List Int) (n : Nat) : sealO xs n ++ [sealR xs n] = sealO xs (n + 1) := by simp [sealO, List.range_succ]
theorem sealO_get {xs : List Int} {n j : Nat} (h : j < n) : (sealO xs n)[j]? = some (sealR xs j) := by simp [sealO, h]
theorem repS_plain {a : Nat} {l g : Int} {round : Nat} (h : a ≠ 1) : repS a l g round = (a, l, g) := by unfold repS; rw [if_neg h]
theorem rec_cells {w : World} {g : Nat} {out : List Rec5} {j : Nat} {x : Rec5} (h : Cells w (some ⟨g, 0, none⟩) (out.flatMap Rec5.cells)) (hx : out[j]? = some x) :
    w.cell? ⟨g, j * 5, none⟩ = some (.int .u32 x.r) ∧ w.cell? ⟨g, j * 5 + 1, none⟩ = some (.int .u8 x.n) ∧ w.cell? ⟨g, j * 5 + 2, none⟩ = some (.int .u8 x.p) ∧ w.cell? ⟨g, j * 5 + 3, none⟩ = some (.int .u8 x.k) ∧ w.cell? ⟨g, j * 5 + 4, none⟩ = some (.int .u8 x.d) :=
  ⟨cells_at h ((flat_get rcells_len out j 0 x hx (by decide)).trans rfl), cells_at h ((flat_get rcells_len out j 1 x hx (by decide)).trans rfl), cells_at h ((flat_get rcells_len out j 2 x hx (by decide)).trans rfl), cells_at h ((flat_get rcells_len out j 3 x hx (by decide)).trans rfl), cells_at h ((flat_get rcells_len out j 4 x hx (by decide)).trans rfl)⟩
set_option maxRecDepth 100000
set_option maxHeartbeats 8000000
theorem healthSeals_walk (a0 : Option Addr) (len0 cap0 : Nat) (z0 : List Int) (w : World) (h1 : IsRow .i64 w a0 len0 cap0 z0) (_ : len0 * 8 ≤ 140737488351232) :
    Calls Try.prog 5 #[.slice a0 len0 cap0] w fun e w' => e = .returned (.bool true) ∧ Below w.heap.size w w' := by
  obtain ⟨xs, hxl, hlc, hcm, hxc, hxw⟩ := h1.open_
  clear h1
  replace hxc := Hidd.mk hxc
  replace hxl := Hidd.mk hxl
  unfold maxLen at hcm
  clear hxw
  go_enter Try.func5, Try.ntmps5
  go_wp2_with (first
    | (go_at_call 14; refine (awake_any _).mono ?_; rintro e w1 ⟨rfl, hb1⟩; have hb1 := Hidd.mk hb1)
    | (go_at_call 15; have hq := hb1.out; clear hq; refine (new_own 3 _ 1 1 [p0] _ (Cells.new _ _ _ _ rfl) rfl (by decide)).mono ?_; rintro e w3 ⟨b, M, rfl, hn3⟩; have hb3 := below_alloc hb1.out (.cells (Pt.cells p0).toArray 31 (0, 0)); have ho3 : Hidd (Own w (fun _ => False) w3 [Res.pack (monL b (3 : Nat) 1 M none 0 0 [p0] [0] [0] (sealO xs 0))]) := Hidd.mk (((Own.nil w (fun _ => False)).ext hb3).made hn3); clear hn3 hb1 hb3))
  go_loopw [4] (fun v4 wr => ∃ (i : Nat) (OA : Option Addr) (on oc : Nat), v4 = .int .i64 i ∧ i ≤ 30 ∧ i ≤ len0 ∧ Hidd (on = min i 4) ∧ Hidd (Own w (fun _ => False) wr [Res.pack (monL b (3 : Nat) 1 M OA on oc [p0] [0] [0] (sealO xs on))])) (fun v4 _ => 30 - (intOf v4).toNat)
  case atStart => exact ⟨0, none, 0, 0, rfl, by omega, by omega, ⟨rfl⟩, ho3⟩
  case round =>
    clear ho3
    obtain ⟨i, OA, on, oc, rfl, hi, hil, hon, ho⟩ := hrel
    by_cases hlt : i < len0 ∧ i < 30
    · obtain ⟨hlt, h60⟩ := hlt
      have d1 : decide (i < len0) = true := by simpa using hlt
      have d2 : decide ((i : Int) < 30) = true := by rw [decide_eq_true_eq]; omega
      obtain ⟨ad, rfl, hc⟩ := (hxc.out.below (ho.out.below fun _ => id)).at i (by rw [hxl.out]; exact hlt)
      have bi0 : (0 : Int) ≤ (i : Int) := by omega
      have bi1 : (i : Int) < (len0 : Int) := by omega
      obtain ⟨f, hf, hf1, hf2⟩ := u64_mod (xs.getD i 0) 4 (by decide)
      rw [show ((4 : Nat) : Int) = 4 from rfl] at hf1 hf2
      have hkd : Hidd (kd xs i = f) := ⟨by unfold kd; rw [hf2]; rfl⟩
      generalize xs.getD i 0 = z at hc hf1 hf2
      have hrc : Hidd (p0.rc[f]? = some 0) := ⟨by obtain rfl | rfl | rfl | rfl : f = 0 ∨ f = 1 ∨ f = 2 ∨ f = 3 := by omega
                                                  all_goals rfl⟩
      go_wp2_with (go_at_call 20; refine (report_at _ _ _ 3 0 ho.out rfl i f 0 rfl rfl rfl (by decide) hf (by omega) (by decide) (by decide) p0 rfl 0 hrc.out 0 0 rfl rfl (by decide) (by decide) (by decide) (by decide) (by have := hon.out; omega) 0 0 0 (repS_plain (by decide)) 0 rfl).mono ?_; rintro e w4 ⟨OA4, oc4, rfl, ho4⟩; have ho4 := Hidd.mk ho4; clear ho)
      go_roundw
      case rel =>
        refine ⟨i + 1, OA4, if on < 4 then on + 1 else on, oc4, by go_num, by omega, by omega, ⟨?_⟩, ⟨?_⟩⟩
        rotate_left
        · have h4 := ho4.out
          by_cases h5 : on < 4
          · have e1 : i = on := by have := hon.out; omega
            simp only [if_pos h5] at h4 ⊢
            rw [← sealO_succ, ← e1] at *
            have e2 : sealR xs i = ⟨i, 3, 0, f, 0⟩ := by unfold sealR; rw [hkd.out]
            rw [e2]
            exact h4
          · simp only [if_neg h5] at h4 ⊢
            exact h4
        · have := hon.out
          split <;> omega
      case measure => simp [intOf]; omega
    · have hT : Hidd (on = min (min len0 30) 4) := ⟨by have := hon.out; omega⟩
      have hmin : ∀ ats ty, Builtin.min_ ats ty #[.int .i64 (len0 : Int), .int .i64 30, .int .i64 4] = (pure (.int .i64 (on : Int)) : Sem Value) := fun ats ty => min_three ats ty len0 30 4 on hT.out
      have hcase : decide (i < len0) = false ∨ (decide (i < len0) = true ∧ decide ((i : Int) < 30) = false) := by
        by_cases h2 : i < len0
        · exact .inr ⟨by simpa using h2, by rw [decide_eq_false_iff_not]; omega⟩
        · exact .inl (by simpa using h2)
      have hon4 : on ≤ 4 := by have := hT.out; omega
      have honi : on ≤ i := by have := hon.out; omega
      replace hmin := Hidd.mk hmin
      clear hon hlt
      rcases hcase with d1 | ⟨d1, d2⟩
      all_goals go_wp2_with (go_at_call 18; refine (seal_own 0 ho.out rfl).mono ?_; rintro e w4 ⟨rfl, ho4⟩; have ho4 := Hidd.mk ho4; clear ho)
      all_goals go_loopw [46] (fun v46 wr => ∃ (j : Nat), v46 = .int .i64 j ∧ j ≤ on ∧ Hidd (Own w (fun _ => False) wr [row 54 5 (.slice OA on oc) on ((sealO xs on).flatMap Rec5.cells), Res.pack (monL b (3 : Nat) 1 M none 0 0 [p0] [0] [0] [])])) (fun v46 _ => on - (intOf v46).toNat)
      all_goals first
        | (case atStart => exact ⟨0, rfl, by omega, ho4⟩)
        | skip
      all_goals (case round =>
        clear ho4
        obtain ⟨j, rfl, hj, ho⟩ := hrel
        by_cases hjt : j < on
        · obtain ⟨g, rfl, _⟩ := head_any (show World.ownsRow _ 0 54 5 (.slice OA on oc) on ((sealO xs on).flatMap Rec5.cells) from ho.out.get 0 rfl) (by omega)
          obtain ⟨x0, x1, x2, x3, x4⟩ := rec_cells (row_cells ho.out 0 rfl) (sealO_get (xs := xs) hjt)
          simp only [sealR] at x0 x1 x2 x3 x4
          have bi0 : (0 : Int) ≤ (j : Int) := by omega
          have bi1 : (j : Int) < (len0 : Int) := by omega
          have bi2 : (j : Int) < (on : Int) := by omega
          have hnb := World.block_lt_of_cell? wr _ x0
          have hoA := Hidd.mk (ho.out.alloc (.cells #[.int .u32 (j : Int), .int .u8 3, .int .u8 0, .int .u8 (kd xs j : Int), .int .u8 0] 54))
          go_wp2
          generalize wr.heap.size = p9 at hoA ⊢
          generalize World.alloc wr _ = wa at hoA ⊢
          obtain ⟨W0, hW0⟩ : ∃ zz, zz = World.drew wa := ⟨_, rfl⟩
          refine wp_region_flow [([0, 1, 3, 4, 2, 5, 6, 7, 8, 9, 10, 11], none)] (by kernel_rfl) (by kernel_rfl) ?_
          rw [show ({ wa with drawn := wa.drawn + 1 } : World) = W0 from hW0.symm]
          replace hW0 := Hidd.mk hW0
          simp only [opsF, List.map_cons, List.map_nil, List.getD_cons_succ, List.getD_cons_zero, Option.map_some, Option.map_none]
          have ho2 := Hidd.mk (show Own w (fun _ => False) W0 _ by rw [hW0.out]; exact hoA.out.drew)
          clear hW0 hoA x0 x1 x2 x3 x4 ho hnb
          obtain ⟨x0, x1, x2, x3, x4⟩ := cells5 ho2.out 0 rfl
          obtain ⟨ad, rfl, hc⟩ := (hxc.out.below (ho2.out.below fun _ => id)).at j (by rw [hxl.out]; omega)
          obtain ⟨f, hf, hf1, hf2⟩ := u64_mod (xs.getD j 0) 4 (by decide)
          rw [show ((4 : Nat) : Int) = 4 from rfl] at hf1 hf2
          have hkd : kd xs j = f := by unfold kd; rw [hf2]; rfl
          rw [hkd] at x3
          clear hkd
          generalize xs.getD j 0 = z at hc hf1 hf2
          replace ho2 := Hidd.mk ho2.out.tail
          have wj : IntKind.u32.wrap (j : Int) = j := by unfold IntKind.wrap; simp [IntKind.signed, IntKind.bits]; omega
          have wf : IntKind.u8.wrap (f : Int) = f := by unfold IntKind.wrap; simp [IntKind.signed, IntKind.bits]; omega
          refine FlW.heads (fun zz => zz = _) rfl ?_
          repeat (first | (refine StQ.skip (by rfl) ?_; simp only [Act.put, List.setIfInBounds_toArray, List.set_cons_zero, List.set_cons_succ]) | (refine StQ.go' (by rfl) (Exists.intro ?_ (And.intro (fun w' hS => ?_) ?_)); rotate_left; (focus (rw [hS]; go_simp; try with_reducible rfl)); simp only [Act.put, List.setIfInBounds_toArray, List.set_cons_zero, List.set_cons_succ]))
          refine StQ.nil ?_
          refine FlW.nil (Calm.normal ?_)
          go_wp2
          go_roundw
          case rel => exact ⟨j + 1, by go_num, by omega, ho2⟩
          case measure => simp [intOf]; omega
        · obtain rfl : j = on := by omega
          replace hmin := hmin.out
          go_wp2_with (first
            | (go_at_call 18; have hq := ho.out; clear hq; refine (seal_own 1 ho.out rfl).mono ?_; rintro e w5 ⟨rfl, ho5⟩; have ho5 := Hidd.mk (show Own w (fun _ => False) w5 [row 54 5 (.slice OA j oc) j ((sealO xs j).flatMap Rec5.cells), Res.pack (monL b (3 : Nat) 1 M none 0 0 [p0] [0] [0] [])] from ho5.tail); clear ho)
            | (go_at_call 20; have hq := ho5.out; clear hq; refine (report_at _ _ _ 3 1 ho5.out rfl 9 0 0 rfl rfl rfl (by decide) (by decide) (by decide) (by decide) (by decide) p0 rfl 0 rfl 0 0 rfl rfl (by decide) (by decide) (by decide) (by decide) (by decide) 0 0 0 (repS_plain (by decide)) 0 rfl).mono ?_; rintro e w6 ⟨OA6, oc6, rfl, ho6⟩; have ho6 := Hidd.mk (show Own w (fun _ => False) w6 [row 54 5 (.slice OA j oc) j ((sealO xs j).flatMap Rec5.cells), Res.pack (monL b (3 : Nat) 1 M OA6 1 oc6 [p0] [0] [0] _)] from ho6); clear ho5)
            | (go_at_call 18; have hq := ho6.out; clear hq; refine (seal_own 1 ho6.out rfl).mono ?_; rintro e w7 ⟨rfl, ho7⟩; have ho7 := Hidd.mk ho7; clear ho6))
          go_ret
          exact ⟨rfl, ho7.out.below fun _ => id⟩)
end Go.Proofs.Ytpiahnecpbalhaa
