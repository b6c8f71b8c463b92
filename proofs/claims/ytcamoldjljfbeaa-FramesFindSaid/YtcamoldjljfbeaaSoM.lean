/- SoundWider walked. -/
import Derived.Test.YtcamoldjljfbeaaSoL
namespace Go.Proofs.Ytcamoldjljfbeaa
open Go.RowKit

theorem u64_mod (z : Int) (m : Nat) (hm : 0 < m) : ∃ f : Nat, f < m ∧ (IntKind.u64.wrap z).tmod (m : Int) = f ∧ IntKind.u64.wrap z % (m : Int) = f := by
  have h0 : 0 ≤ IntKind.u64.wrap z := by unfold IntKind.wrap; simp [IntKind.signed, IntKind.bits]; omega
  have h1 : 0 ≤ IntKind.u64.wrap z % (m : Int) := Int.emod_nonneg _ (by omega)
  have h2 : IntKind.u64.wrap z % (m : Int) < m := Int.emod_lt_of_pos _ (by omega)
  exact ⟨(IntKind.u64.wrap z % (m : Int)).toNat, by omega, by rw [Int.tmod_eq_emod_of_nonneg h0]; omega, by omega⟩
theorem min_two (ats : Array TypeId) (ty : TypeId) (a b : Int) : Builtin.min_ ats ty #[.int .i64 a, .int .i64 b] = (pure (.int .i64 (min a b)) : Sem Value) := by
  simp only [Builtin.min_, List.foldlM_cons, List.foldlM_nil, Builtin.min2]
  by_cases h1 : b < a
  · rw [if_pos h1, show min a b = b by omega]
    rfl
  · rw [if_neg h1, show min a b = a by omega]
    rfl
theorem drf_mono {a b R : Int} (h : a ≤ b) (hR : 0 ≤ R) : drf a R ≤ drf b R := by
  have h1 : a * R ≤ b * R := Int.mul_le_mul_of_nonneg_right h hR
  unfold drf
  have h2 : 2 * a * R = 2 * (a * R) := Int.mul_assoc ..
  have h3 : 2 * b * R = 2 * (b * R) := Int.mul_assoc ..
  rw [h2, h3]
  omega
theorem work_tab {n f sl gp rh d0 d1 mg : Int} {ps : List Pt} {qs : List Qt} {rs : List Rt} (h : workB n f sl gp rh d0 d1 mg ps qs rs = true) : soundE n f sl gp rh d0 d1 mg ps qs rs = none := by
  unfold workB at h
  rw [Bool.and_eq_true] at h
  exact Option.isNone_iff_eq_none.1 h.2
/-- What tables that work are. -/
structure Snd (n f sl gp rh d0 d1 mg : Int) (ps : List Pt) (qs : List Qt) (rs : List Rt) : Prop where
  tab : Tab n f sl gp rh d0 d1 mg ps qs rs
  nodes : 3 * f + 1 ≤ n
  margin : prc d0 d1 (drf rh (rnd n sl gp)) + (d1 - d0) + drf rh (rnd n sl gp) ≤ mg
  slot : 2 * mg + d1 + prc d0 d1 (drf rh (rnd n sl gp)) ≤ sl
  gap : 2 * (mg + prc d0 d1 (drf rh (rnd n sl gp))) ≤ gp
  win : winF (nsl n sl) [] ps 0 = none
  rou : rouF qs [] rs 0 = none
theorem Snd.of {n f sl gp rh d0 d1 mg : Int} {ps : List Pt} {qs : List Qt} {rs : List Rt} (h : soundE n f sl gp rh d0 d1 mg ps qs rs = none) : Snd n f sl gp rh d0 d1 mg ps qs rs := by
  unfold soundE at h
  split at h
  · cases h
  · rename_i he
    split at h
    · cases h
    split at h
    · cases h
    split at h
    · cases h
    split at h
    · cases h
    split at h
    · cases h
    · rename_i hw
      split at h
      · cases h
      · rename_i hr
        exact ⟨Tab.of he, by omega, by omega, by omega, by omega, hw, hr⟩
theorem Snd.to {n f sl gp rh d0 d1 mg : Int} {ps : List Pt} {qs : List Qt} {rs : List Rt} (h : Snd n f sl gp rh d0 d1 mg ps qs rs) : soundE n f sl gp rh d0 d1 mg ps qs rs = none := by
  have h1 := h.nodes
  have h2 := h.margin
  have h3 := h.slot
  have h4 := h.gap
  unfold soundE
  rw [h.tab.to]
  simp only
  rw [if_neg (by omega), if_neg (by omega), if_neg (by omega), if_neg (by omega), h.win, h.rou]
theorem wider {n f sl gp rh d0 d1 mg : Int} {ps : List Pt} {qs : List Qt} {rs : List Rt} (h : Snd n f sl gp rh d0 d1 mg ps qs rs) (u : Nat) (h1 : sl + 3 * (u : Int) ≤ 16777216) (h2 : gp + 3 * (u : Int) ≤ 16777216) (h3 : mg + (u : Int) ≤ 16777216) :
    soundE n f (sl + 3 * (u : Int)) (gp + 3 * (u : Int)) 0 d0 d1 (mg + (u : Int)) [] [] [] = none := by
  have hs := h.tab.sc
  have hd := hs.drf
  have e0 : drf 0 (rnd n (sl + 3 * (u : Int)) (gp + 3 * (u : Int))) = 2 := by
    unfold drf
    rw [show (2 : Int) * 0 = 0 from rfl, Int.zero_mul]
    rfl
  have m1 := h.margin
  have m2 := h.slot
  have m3 := h.gap
  have s1 := hs.s1
  have g0 := hs.g0
  have m0 := hs.m0
  unfold prc at m1 m2 m3
  refine Snd.to ⟨⟨⟨hs.n1, hs.n7, hs.f0, hs.f2, by omega, h1, by omega, h2, by decide, by decide, hs.d1a, hs.d1b, hs.d0a, hs.d0b, by omega, h3⟩, by decide, by decide, by decide, by simp, by simp, by simp⟩, h.nodes, ?_, ?_, ?_, rfl, rfl⟩
  all_goals rw [e0]
  all_goals unfold prc
  all_goals omega
set_option maxRecDepth 100000
set_option maxHeartbeats 8000000
theorem soundWider_walk (n f sl gp rh d0 d1 mg : Int) (PA : Option Addr) (pn pc : Nat) (pz : List (List Value)) (OA : Option Addr) (on oc : Nat) (oz : List (List Value)) (RA : Option Addr) (rn rc : Nat) (rz : List (List Value)) (z : Int) (w : World) (_h0 : (Lit.int .i64 n).wf = true) (_h1 : (Lit.int .i64 f).wf = true) (_h2 : (Lit.int .i64 sl).wf = true) (_h3 : (Lit.int .i64 gp).wf = true) (_h4 : (Lit.int .i64 rh).wf = true) (_h5 : (Lit.int .i64 d0).wf = true) (_h6 : (Lit.int .i64 d1).wf = true) (_h7 : (Lit.int .i64 mg).wf = true) (h8 : Rows' w 48 [.int .i64, .int .i64, .int .i64, .int .i64, .int .i64, .int .u8, .int .u8, .int .u8, .int .u8] PA pn pc pz) (h9 : Rows' w 40 [.int .i64, .int .u8, .bool, .int .i64, .int .i64, .int .i64] OA on oc oz) (hA : Rows' w 16 [.int .i64, .int .i64] RA rn rc rz) (_ : (Lit.int .i64 z).wf = true) :
    Calls Try.prog 5 #[.agg #[.int .i64 n, .int .i64 f, .int .i64 sl, .int .i64 gp, .int .i64 rh, .int .i64 d0, .int .i64 d1, .int .i64 mg, .slice PA pn pc, .slice OA on oc, .slice RA rn rc], .int .i64 z] w fun e w' => e = .returned (.bool true) ∧ Below w.heap.size w w' := by
  obtain ⟨ps, hP, oP⟩ := parts_of h8
  obtain ⟨qs, hQ, oQ⟩ := ports_of h9
  obtain ⟨rs, hR, _⟩ := routes_of hA
  have hpw := h8.wt
  have hqw := h9.wt
  have hrw := hA.wt
  unfold reachBytes at hpw hqw hrw
  clear _h0 _h1 _h2 _h3 _h4 _h5 _h6 _h7 h8 h9 hA
  have ho := Hidd.mk ((Own.nil w (fun _ => False)).alloc (.cells #[.int .i64 n, .int .i64 f, .int .i64 sl, .int .i64 gp, .int .i64 rh, .int .i64 d0, .int .i64 d1, .int .i64 mg, .slice PA pn pc, .slice OA on oc, .slice RA rn rc] 26))
  replace hP := Hidd.mk hP
  replace hQ := Hidd.mk hQ
  replace hR := Hidd.mk hR
  replace oP := Hidd.mk oP
  replace oQ := Hidd.mk oQ
  rcases hw : workB n f sl gp rh d0 d1 mg ps qs rs with _ | _
  · replace hw := Hidd.mk hw
    go_enter Try.func5, Try.ntmps5
    go_wp2_with (first
      | (go_at_call 18; refine (awake6_any _).mono ?_; rintro e w1 ⟨rfl, hb⟩; have ho1 := Hidd.mk (ho.out.ext hb); clear hb ho; obtain ⟨x0, x1, x2, x3, x4, x5, x6, x7, x8, x9, xA⟩ := cells11 ho1.out 0 rfl)
      | (go_at_call 25; refine (works_any n f sl gp rh d0 d1 mg PA pn pc OA on oc RA rn rc ps qs rs _ (hP.out.below (ho1.out.below fun _ => id)) (hQ.out.below (ho1.out.below fun _ => id)) (hR.out.below (ho1.out.below fun _ => id)) oP.out oQ.out _ hw.out).mono ?_; rintro e w2 ⟨rfl, hb⟩; have ho2 := Hidd.mk (ho1.out.ext hb); clear hb ho1))
    go_ret
    exact ⟨rfl, ho2.out.below fun _ => id⟩
  · have hS := Snd.of (work_tab hw)
    replace hw := Hidd.mk hw
    have hs := hS.tab.sc
    obtain ⟨u, hu, hu1, hu2⟩ := u64_mod z 1000 (by decide)
    rw [show ((1000 : Nat) : Int) = 1000 from rfl] at hu1 hu2
    have r0 := hs.r0
    have r2 := hs.r2
    have da := hs.d1a
    have db := hs.d1b
    have m0 := hs.m0
    have m2 := hs.m2
    have s1 := hs.s1
    have s2 := hs.s2
    have g0 := hs.g0
    have g2 := hs.g2
    obtain ⟨rh2, hrh2⟩ : ∃ r : Int, min (rh + (u : Int) % 50) 200 = r := ⟨_, rfl⟩
    obtain ⟨d2, hd2⟩ : ∃ r : Int, min (d1 + (u : Int)) 1048576 = r := ⟨_, rfl⟩
    have hm1 : ∀ ats ty, Builtin.min_ ats ty #[.int .i64 (rh + (u : Int) % 50), .int .i64 200] = (pure (.int .i64 rh2) : Sem Value) := fun ats ty => by rw [min_two, hrh2]
    have hm2 : ∀ ats ty, Builtin.min_ ats ty #[.int .i64 (d1 + (u : Int)), .int .i64 1048576] = (pure (.int .i64 d2) : Sem Value) := fun ats ty => by rw [min_two, hd2]
    have q1 : rh ≤ rh2 := by omega
    have q2 : rh2 ≤ 200 := by omega
    have q3 : d1 ≤ d2 := by omega
    have q4 : d2 ≤ 1048576 := by omega
    have hs2 : Sc n f sl gp rh2 d0 d2 mg := ⟨hs.n1, hs.n7, hs.f0, hs.f2, hs.s1, hs.s2, hs.g0, hs.g2, by omega, q2, by omega, q4, hs.d0a, by have := hs.d0b; omega, hs.m0, hs.m2⟩
    have hge : prc d0 d1 (drf rh (rnd n sl gp)) ≤ prc d0 d2 (drf rh2 (rnd n sl gp)) := by
      have := drf_mono q1 hs.rnd.1
      unfold prc
      omega
    have hpb := hs.prc
    have hpb2 := hs2.prc
    obtain ⟨P1, hP1⟩ : ∃ P, prc d0 d1 (drf rh (rnd n sl gp)) = P := ⟨_, rfl⟩
    obtain ⟨P2, hP2⟩ : ∃ P, prc d0 d2 (drf rh2 (rnd n sl gp)) = P := ⟨_, rfl⟩
    rw [hP1] at hge hpb
    rw [hP2] at hge hpb2
    have dge : decide (P1 ≤ P2) = true := by simpa using hge
    have ht50 : ((u : Int)).tmod 50 = (u : Int) % 50 := Int.tmod_eq_emod_of_nonneg (by omega)
    have v0 : IntKind.i64.wrap (u : Int) = (u : Int) := IntWalk.i64_in _ (by omega)
    have v1 : IntKind.i64.wrap ((u : Int) % 50) = (u : Int) % 50 := IntWalk.i64_in _ (by omega)
    have v2 : IntKind.i64.wrap (rh + (u : Int) % 50) = rh + (u : Int) % 50 := IntWalk.i64_in _ (by omega)
    have v3 : IntKind.i64.wrap (d1 + (u : Int)) = d1 + (u : Int) := IntWalk.i64_in _ (by omega)
    have v4 : IntKind.i64.wrap (mg + (u : Int)) = mg + (u : Int) := IntWalk.i64_in _ (by omega)
    have v5 : IntKind.i64.wrap (3 * (u : Int)) = 3 * (u : Int) := IntWalk.i64_in _ (by omega)
    have v6 : IntKind.i64.wrap (sl + 3 * (u : Int)) = sl + 3 * (u : Int) := IntWalk.i64_in _ (by omega)
    have v7 : IntKind.i64.wrap (gp + 3 * (u : Int)) = gp + 3 * (u : Int) := IntWalk.i64_in _ (by omega)
    replace hP1 := Hidd.mk hP1
    replace hP2 := Hidd.mk hP2
    replace hS := Hidd.mk hS
    replace hs := Hidd.mk hs
    replace hs2 := Hidd.mk hs2
    clear hrh2 hd2 q1 q2 q3 q4 hpb hpb2 hge
    go_enter Try.func5, Try.ntmps5
    go_wp2_with (first
      | (go_at_call 18; refine (awake6_any _).mono ?_; rintro e w1 ⟨rfl, hb⟩; have ho1 := Hidd.mk (ho.out.ext hb); clear hb ho; obtain ⟨x0, x1, x2, x3, x4, x5, x6, x7, x8, x9, xA⟩ := cells11 ho1.out 0 rfl)
      | (go_at_call 25; refine (works_any n f sl gp rh d0 d1 mg PA pn pc OA on oc RA rn rc ps qs rs _ (hP.out.below (ho1.out.below fun _ => id)) (hQ.out.below (ho1.out.below fun _ => id)) (hR.out.below (ho1.out.below fun _ => id)) oP.out oQ.out _ hw.out).mono ?_; rintro e w2 ⟨rfl, hb⟩; have ho2 := Hidd.mk (ho1.out.ext hb); clear hb ho1; clear x0 x1 x2 x3 x4 x5 x6 x7 x8 x9 xA; obtain ⟨x0, x1, x2, x3, x4, x5, x6, x7, x8, x9, xA⟩ := cells11 ho2.out 0 rfl)
      | (go_at_call 22; have hq := ho2.out; clear hq; refine (copied_any n f sl gp rh d0 d1 mg PA pn pc OA on oc RA rn rc ps qs rs _ (hP.out.below (ho2.out.below fun _ => id)) (hQ.out.below (ho2.out.below fun _ => id)) (hR.out.below (ho2.out.below fun _ => id)) hpw hqw hrw).mono ?_; rintro e w3 ⟨A1, a1, B1, b1, C1, c1, rfl, hn⟩; have hmd := Hidd.mk (ho2.out.madeL hn); clear hn ho2; clear x0 x1 x2 x3 x4 x5 x6 x7 x8 x9 xA; have hA := Hidd.mk (hmd.out.alloc (.cells #[.int .i64 n, .int .i64 f, .int .i64 sl, .int .i64 gp, .int .i64 rh, .int .i64 d0, .int .i64 d1, .int .i64 mg, .slice A1 pn a1, .slice B1 on b1, .slice C1 rn c1] 26)); have hM := Hidd.mk (hmd.out.alloc (.cells #[.int .i64 n, .int .i64 f, .int .i64 sl, .int .i64 gp, .int .i64 rh2, .int .i64 d0, .int .i64 d1, .int .i64 mg, .slice A1 pn a1, .slice B1 on b1, .slice C1 rn c1] 26)); have ho4 := Hidd.mk (hmd.out.alloc (.cells #[.int .i64 n, .int .i64 f, .int .i64 sl, .int .i64 gp, .int .i64 rh2, .int .i64 d0, .int .i64 d2, .int .i64 mg, .slice A1 pn a1, .slice B1 on b1, .slice C1 rn c1] 26)); obtain ⟨y0, y1, y2, y3, y4, y5, y6, y7, y8, y9, yA⟩ := cells11 hA.out 4 rfl; obtain ⟨z0, z1, z2, z3, z4, z5, z6, z7, z8, z9, zA⟩ := cells11 hM.out 4 rfl; obtain ⟨x0, x1, x2, x3, x4, x5, x6, x7, x8, x9, xA⟩ := cells11 ho4.out 4 rfl; clear hA hM hmd)
      | (go_at_call 22; have hq := ho4.out; clear hq; refine (copied_any n f sl gp rh d0 d1 mg PA pn pc OA on oc RA rn rc ps qs rs _ (hP.out.below (ho4.out.below fun _ => id)) (hQ.out.below (ho4.out.below fun _ => id)) (hR.out.below (ho4.out.below fun _ => id)) hpw hqw hrw).mono ?_; rintro e w4 ⟨A2, a2, B2, b2, C2, c2, rfl, hn⟩; have ho5 := Hidd.mk ((ho4.out.madeL hn).alloc (.cells #[.int .i64 n, .int .i64 f, .int .i64 sl, .int .i64 gp, .int .i64 rh, .int .i64 d0, .int .i64 d1, .int .i64 mg, .slice A2 pn a2, .slice B2 on b2, .slice C2 rn c2] 26)); clear hn ho4; clear x0 x1 x2 x3 x4 x5 x6 x7 x8 x9 xA; clear y0 y1 y2 y3 y4 y5 y6 y7 y8 y9 yA; clear z0 z1 z2 z3 z4 z5 z6 z7 z8 z9 zA))
    have hne1 : ¬ w.heap.size = w4.heap.size := fun e => ho5.out.apart 0 8 rfl rfl (by decide) w.heap.size e rfl
    generalize w4.heap.size = p6 at ho5 hne1 ⊢
    generalize w.heap.size = p1 at ho5 hne1 ⊢
    generalize World.alloc _ _ = w5 at ho5 ⊢
    obtain ⟨W0, hW0⟩ : ∃ zz, zz = World.drew w5 := ⟨_, rfl⟩
    refine wp_region_flow [([0, 2, 4, 6, 9, 11, 1, 5, 7, 10, 12, 3, 8, 13, 14], some (15, [true])), ([16], some (17, [false, true])), ([18], some (19, [false, false, false]))] (by kernel_rfl) (by kernel_rfl) ?_
    rw [show ({ w5 with drawn := w5.drawn + 1 } : World) = W0 from hW0.symm]
    replace hW0 := Hidd.mk hW0
    simp only [opsF, List.map_cons, List.map_nil, List.getD_cons_succ, List.getD_cons_zero, Option.map]
    replace ho5 := Hidd.mk (show Own w (fun _ => False) W0 _ by rw [hW0.out]; exact ho5.out.drew)
    clear hW0
    obtain ⟨x0, x1, x2, x3, x4, x5, x6, x7, x8, x9, xA⟩ := cells11 ho5.out 8 rfl
    obtain ⟨y0, y1, y2, y3, y4, y5, y6, y7, y8, y9, yA⟩ := cells11 ho5.out 0 rfl
    have f7 := ho5.out.frozen 0 rfl 7
    have f2 := ho5.out.frozen 0 rfl 2
    have f3 := ho5.out.frozen 0 rfl 3
    have hpl := ho5.out.lt 8 rfl
    obtain ⟨T, hT⟩ : ∃ T : Nat → Prop, T = fun q => q = p6 := ⟨_, rfl⟩
    have hTb : ¬ T p1 := by rw [hT]; exact hne1
    have hTs : T p6 := by rw [hT]
    replace hT := Hidd.mk hT
    refine FlW.stage (fun zz => Kept T W0 zz) (Kept.refl _ _) ?_
    repeat (first | (refine StQ.skip (by rfl) ?_; simp only [Act.put, List.setIfInBounds_toArray, List.set_cons_zero, List.set_cons_succ]) | (refine StQ.go' (by rfl) (Exists.intro ?_ (And.intro (fun w' hS => ?_) ?_)); rotate_left; (focus (have hc := Kept.cellAt hS; go_simp; try with_reducible rfl)); simp only [Act.put, List.setIfInBounds_toArray, List.set_cons_zero, List.set_cons_succ]))
    refine StQ.nil ?_
    refine FlO.go (by rfl) (fun K hK => ?_); go_simp; refine hK.out _ _ (.inr ⟨Kept.setCell _ _ _ hTs, trivial⟩) ?_; clear hK K
    refine FlW.stage (fun zz => zz = _) rfl ?_
    repeat (first | (refine StQ.skip (by rfl) ?_; simp only [Act.put, List.setIfInBounds_toArray, List.set_cons_zero, List.set_cons_succ]) | (refine StQ.go' (by rfl) (Exists.intro ?_ (And.intro (fun w' hS => ?_) ?_)); rotate_left; (focus (rw [hS]; go_simp; try with_reducible rfl)); simp only [Act.put, List.setIfInBounds_toArray, List.set_cons_zero, List.set_cons_succ]))
    refine StQ.nil ?_
    refine FlO.go (by rfl) (fun K hK => ?_); go_simp; refine hK.out _ _ (.inr ⟨(Kept.setCell _ _ _ hTs).trans' (Kept.setCell _ _ _ hTs) (fun _ _ h => h), trivial⟩) ?_; clear hK K
    refine FlW.stage (fun zz => zz = _) rfl ?_
    repeat (first | (refine StQ.skip (by rfl) ?_; simp only [Act.put, List.setIfInBounds_toArray, List.set_cons_zero, List.set_cons_succ]) | (refine StQ.go' (by rfl) (Exists.intro ?_ (And.intro (fun w' hS => ?_) ?_)); rotate_left; (focus (rw [hS]; go_simp; try with_reducible rfl)); simp only [Act.put, List.setIfInBounds_toArray, List.set_cons_zero, List.set_cons_succ]))
    refine StQ.nil ?_
    refine FlO.go (by rfl) (fun K hK => ?_); go_simp; refine hK.out _ _ (.inr trivial) ?_; clear hK K
    refine FlW.nil (Calm.normal ?_)
    have ho6 := ((ho5.out.set 0 rfl 7 (.int .i64 (mg + (u : Int)))).set 0 rfl 2 (.int .i64 (sl + 3 * (u : Int)))).set 0 rfl 3 (.int .i64 (gp + 3 * (u : Int)))
    simp only [List.set_cons_zero, List.set_cons_succ, List.setIfInBounds_toArray] at ho6
    generalize ((W0.setCell _ _).setCell _ _).setCell _ _ = w6 at ho6 ⊢
    clear f7 f2 f3 hTb hTs hT T hpl ho5
    clear x0 x1 x2 x3 x4 x5 x6 x7 x8 x9 xA
    clear y0 y1 y2 y3 y4 y5 y6 y7 y8 y9 yA
    obtain ⟨x0, x1, x2, x3, x4, x5, x6, x7, x8, x9, xA⟩ := cells11 ho6 0 rfl
    have f8 := ho6.frozen 0 rfl 8
    have f9 := ho6.frozen 0 rfl 9
    have fA := ho6.frozen 0 rfl 10
    have f4 := ho6.frozen 0 rfl 4
    have ho7 := (((ho6.set 0 rfl 8 (.slice none 0 0)).set 0 rfl 9 (.slice none 0 0)).set 0 rfl 10 (.slice none 0 0)).set 0 rfl 4 (.int .i64 0)
    simp only [List.set_cons_zero, List.set_cons_succ, List.setIfInBounds_toArray] at ho7
    replace ho6 := Hidd.mk ho6
    replace ho7 := Hidd.mk ho7
    by_cases k1 : 16777216 < sl + 3 * (u : Int)
    · have k1' := decide_eq_true k1
      go_wp2
      go_ret
      exact ⟨rfl, ho7.out.below fun _ => id⟩
    have k1' := decide_eq_false k1
    by_cases k2 : 16777216 < gp + 3 * (u : Int)
    · have k2' := decide_eq_true k2
      go_wp2
      go_ret
      exact ⟨rfl, ho7.out.below fun _ => id⟩
    have k2' := decide_eq_false k2
    by_cases k3 : 16777216 < mg + (u : Int)
    · have k3' := decide_eq_true k3
      go_wp2
      go_ret
      exact ⟨rfl, ho7.out.below fun _ => id⟩
    have k3' := decide_eq_false k3
    go_wp2
    generalize World.setCell _ _ _ = w7 at ho7 ⊢
    clear f8 f9 fA f4 ho6 hne1
    clear x0 x1 x2 x3 x4 x5 x6 x7 x8 x9 xA
    obtain ⟨W1, hW1⟩ : ∃ zz, zz = World.drew w7 := ⟨_, rfl⟩
    refine wp_region_flow [([0, 2], some (1, [true])), ([], some (3, [false, false])), ([4, 5, 6], some (7, [false, false, false])), ([8, 9, 10], none)] (by kernel_rfl) (by kernel_rfl) ?_
    rw [show ({ w7 with drawn := w7.drawn + 1 } : World) = W1 from hW1.symm]
    replace hW1 := Hidd.mk hW1
    simp only [opsF, List.map_cons, List.map_nil, List.getD_cons_succ, List.getD_cons_zero, Option.map]
    have ho8 := Hidd.mk (show Own w (fun _ => False) W1 _ by rw [hW1.out]; exact ho7.out.drew)
    clear hW1 ho7
    obtain ⟨x0, x1, x2, x3, x4, x5, x6, x7, x8, x9, xA⟩ := cells11 ho8.out 4 rfl
    obtain ⟨y0, y1, y2, y3, y4, y5, y6, y7, y8, y9, yA⟩ := cells11 ho8.out 8 rfl
    have hpl1 := ho8.out.lt 4 rfl
    have hpl2 := ho8.out.lt 8 rfl
    refine FlW.stage (fun zz => Kept (fun _ => False) W1 zz) (Kept.refl _ _) ?_
    repeat (first | (refine StQ.skip (by rfl) ?_; simp only [Act.put, List.setIfInBounds_toArray, List.set_cons_zero, List.set_cons_succ]) | (refine StQ.go' (by rfl) (Exists.intro ?_ (And.intro (fun w' hS => ?_) ?_)); rotate_left; (focus (have hc := Kept.cell0 hS; go_simp; try with_reducible rfl)); simp only [Act.put, List.setIfInBounds_toArray, List.set_cons_zero, List.set_cons_succ]))
    refine StQ.nil ?_
    refine FlO.go (by rfl) (fun K hK => ?_)
    go_simp
    (refine (prec_any n f sl gp rh2 d0 d2 mg A1 pn a1 B1 on b1 C1 rn c1 _ hs2.out).mono ?_; rintro e w8 ⟨rfl, hb8⟩; rw [hP2.out]; have ho9 := Hidd.mk (ho8.out.ext hb8))
    refine hK.out _ _ (.inr ⟨Kept.below hb8, trivial⟩) ?_
    clear hK K
    clear ho8 hb8 hpl1 hpl2
    clear x0 x1 x2 x3 x4 x5 x6 x7 x8 x9 xA
    clear y0 y1 y2 y3 y4 y5 y6 y7 y8 y9 yA
    refine FlW.stage (fun _ => True) trivial (StQ.nil ?_)
    refine FlO.go (by rfl) (fun K hK => ?_)
    go_simp
    (refine (prec_any n f sl gp rh d0 d1 mg PA pn pc OA on oc RA rn rc _ hs.out).mono ?_; rintro e w9 ⟨rfl, hb9⟩; rw [hP1.out]; have hoA := Hidd.mk (ho9.out.ext hb9))
    refine hK.out _ _ (.inr trivial) ?_
    clear hK K
    clear ho9 hb9
    obtain ⟨x0, x1, x2, x3, x4, x5, x6, x7, x8, x9, xA⟩ := cells11 hoA.out 0 rfl
    refine FlW.stage (fun zz => zz = _) rfl ?_
    repeat (first | (refine StQ.skip (by rfl) ?_; simp only [Act.put, List.setIfInBounds_toArray, List.set_cons_zero, List.set_cons_succ]) | (refine StQ.go' (by rfl) (Exists.intro ?_ (And.intro (fun w' hS => ?_) ?_)); rotate_left; (focus (rw [hS]; go_simp; try with_reducible rfl)); simp only [Act.put, List.setIfInBounds_toArray, List.set_cons_zero, List.set_cons_succ]))
    refine StQ.nil ?_
    refine FlO.go (by rfl) (fun K hK => ?_)
    go_simp
    (refine (soundCheck_any n f (sl + 3 * (u : Int)) (gp + 3 * (u : Int)) 0 d0 d1 (mg + (u : Int)) none 0 0 none 0 0 none 0 0 [] [] [] _ ⟨rfl, Cells.nil _ _⟩ ⟨rfl, Cells.nil _ _⟩ ⟨rfl, Cells.nil _ _⟩ (by simp) (by simp) (Nat.le_refl _) (by decide) (Nat.le_refl _) (by decide) none (wider hS.out u (by omega) (by omega) (by omega))).mono ?_; rintro e wA ⟨v, rfl, he, hbA⟩; obtain rfl := show v = .nilIface from he; have hoB := Hidd.mk (hoA.out.ext hbA))
    refine hK.out _ _ (.inr trivial) ?_
    clear hK K
    clear hoA he hbA
    refine FlW.heads (fun zz => zz = _) rfl ?_
    repeat (first | (refine StQ.skip (by rfl) ?_; simp only [Act.put, List.setIfInBounds_toArray, List.set_cons_zero, List.set_cons_succ]) | (refine StQ.go' (by rfl) (Exists.intro ?_ (And.intro (fun w' hS => ?_) ?_)); rotate_left; (focus (rw [hS]; go_simp; try with_reducible rfl)); simp only [Act.put, List.setIfInBounds_toArray, List.set_cons_zero, List.set_cons_succ]))
    refine StQ.nil ?_
    refine FlW.nil (Calm.normal ?_)
    go_wp2
    go_ret
    exact ⟨rfl, hoB.out.below fun _ => id⟩
end Go.Proofs.Ytcamoldjljfbeaa
