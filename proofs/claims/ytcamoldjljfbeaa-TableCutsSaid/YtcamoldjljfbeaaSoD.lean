/- Round, Drift, Precision. -/
import Derived.Test.YtcamoldjljfbeaaSoB
namespace Go.Proofs.Ytcamoldjljfbeaa
open Go.RowKit

/-- The numbers are in their ranges. -/
structure Sc (n f sl gp rh d0 d1 mg : Int) : Prop where
  n1 : 1 ≤ n
  n7 : n ≤ 7
  f0 : 0 ≤ f
  f2 : f ≤ 2
  s1 : 1 ≤ sl
  s2 : sl ≤ 16777216
  g0 : 0 ≤ gp
  g2 : gp ≤ 16777216
  r0 : 0 ≤ rh
  r2 : rh ≤ 200
  d1a : 0 ≤ d1
  d1b : d1 ≤ 1048576
  d0a : 0 ≤ d0
  d0b : d0 ≤ d1
  m0 : 0 ≤ mg
  m2 : mg ≤ 16777216
theorem Sc.of {n f sl gp rh d0 d1 mg : Int} (h : scalB n f sl gp rh d0 d1 mg = true) : Sc n f sl gp rh d0 d1 mg := by
  simp only [scalB, inB, Bool.and_eq_true, decide_eq_true_eq] at h
  obtain ⟨⟨⟨⟨⟨⟨⟨h1, h2⟩, h3⟩, h4⟩, h5⟩, h6⟩, h7⟩, h8⟩ := h
  exact ⟨h1.1, h1.2, h2.1, h2.2, h3.1, h3.2, h4.1, h4.2, h5.1, h5.2, h6.1, h6.2, h7.1, h7.2, h8.1, h8.2⟩
theorem Sc.scal {n f sl gp rh d0 d1 mg : Int} (h : Sc n f sl gp rh d0 d1 mg) : scalB n f sl gp rh d0 d1 mg = true := by
  simp only [scalB, inB, Bool.and_eq_true, decide_eq_true_eq]
  exact ⟨⟨⟨⟨⟨⟨⟨⟨h.n1, h.n7⟩, h.f0, h.f2⟩, h.s1, h.s2⟩, h.g0, h.g2⟩, h.r0, h.r2⟩, h.d1a, h.d1b⟩, h.d0a, h.d0b⟩, h.m0, h.m2⟩
def nsl (n sl : Int) : Int := n * sl
def rnd (n sl gp : Int) : Int := nsl n sl + gp
def drf (rh R : Int) : Int := (2 * rh * R + 999999) / 1000000 + 2
def prc (d0 d1 D : Int) : Int := 4 * (d1 - d0) + 16 * D + 64
theorem mul_bd {a b A B : Int} (a0 : 0 ≤ a) (b0 : 0 ≤ b) (ha : a ≤ A) (hb : b ≤ B) : 0 ≤ a * b ∧ a * b ≤ A * B :=
  ⟨Int.mul_nonneg a0 b0, Int.mul_le_mul ha hb b0 (Int.le_trans a0 ha)⟩
theorem Sc.nsl {n f sl gp rh d0 d1 mg : Int} (h : Sc n f sl gp rh d0 d1 mg) : 0 ≤ nsl n sl ∧ nsl n sl ≤ 117440512 := mul_bd (by have := h.n1; omega) (by have := h.s1; omega) h.n7 h.s2
theorem Sc.rnd {n f sl gp rh d0 d1 mg : Int} (h : Sc n f sl gp rh d0 d1 mg) : 0 ≤ rnd n sl gp ∧ rnd n sl gp ≤ 134217728 := by
  have h1 := h.nsl
  have h2 := h.g0
  have h3 := h.g2
  unfold Go.Proofs.Ytcamoldjljfbeaa.rnd
  omega
theorem Sc.drf {n f sl gp rh d0 d1 mg : Int} (h : Sc n f sl gp rh d0 d1 mg) : 2 ≤ drf rh (Go.Proofs.Ytcamoldjljfbeaa.rnd n sl gp) ∧ drf rh (Go.Proofs.Ytcamoldjljfbeaa.rnd n sl gp) ≤ 60000 := by
  have h1 := h.rnd
  have h2 := mul_bd (a := 2 * rh) (A := 400) (by have := h.r0; omega) h1.1 (by have := h.r2; omega) h1.2
  unfold Go.Proofs.Ytcamoldjljfbeaa.drf
  omega
theorem Sc.prc {n f sl gp rh d0 d1 mg : Int} (h : Sc n f sl gp rh d0 d1 mg) : 0 ≤ prc d0 d1 (Go.Proofs.Ytcamoldjljfbeaa.drf rh (Go.Proofs.Ytcamoldjljfbeaa.rnd n sl gp)) ∧ prc d0 d1 (Go.Proofs.Ytcamoldjljfbeaa.drf rh (Go.Proofs.Ytcamoldjljfbeaa.rnd n sl gp)) ≤ 6000000 := by
  have h1 := h.drf
  have h2 := h.d0a
  have h3 := h.d0b
  have h4 := h.d1b
  unfold Go.Proofs.Ytcamoldjljfbeaa.prc
  omega
set_option maxRecDepth 100000
set_option maxHeartbeats 4000000
theorem round_any (n f sl gp rh d0 d1 mg : Int) (PA : Option Addr) (pn pc : Nat) (OA : Option Addr) (on oc : Nat) (RA : Option Addr) (rn rc : Nat) (w : World) (hs : Sc n f sl gp rh d0 d1 mg) : Calls Try.prog 49 #[.agg #[.int .i64 n, .int .i64 f, .int .i64 sl, .int .i64 gp, .int .i64 rh, .int .i64 d0, .int .i64 d1, .int .i64 mg, .slice PA pn pc, .slice OA on oc, .slice RA rn rc]] w fun e w' => e = .returned (.int .i64 (rnd n sl gp)) ∧ Below w.heap.size w w' := by
  have h1 := hs.nsl
  unfold nsl at h1
  obtain ⟨h1a, h1b⟩ := h1
  have g0 := hs.g0
  have g2 := hs.g2
  have hbw : Hidd (Below w.heap.size w (w.alloc (.cells #[.int .i64 n, .int .i64 f, .int .i64 sl, .int .i64 gp, .int .i64 rh, .int .i64 d0, .int .i64 d1, .int .i64 mg, .slice PA pn pc, .slice OA on oc, .slice RA rn rc] 26))) := ⟨below_alloc (Below.refl _ _) _⟩
  clear hs
  go_enter Try.func49, Try.ntmps49
  go_wp2
  go_ret
  exact ⟨rfl, hbw.out⟩
theorem drift_any (n f sl gp rh d0 d1 mg : Int) (PA : Option Addr) (pn pc : Nat) (OA : Option Addr) (on oc : Nat) (RA : Option Addr) (rn rc : Nat) (w : World) (hs : Sc n f sl gp rh d0 d1 mg) : Calls Try.prog 53 #[.agg #[.int .i64 n, .int .i64 f, .int .i64 sl, .int .i64 gp, .int .i64 rh, .int .i64 d0, .int .i64 d1, .int .i64 mg, .slice PA pn pc, .slice OA on oc, .slice RA rn rc]] w fun e w' => e = .returned (.int .i64 (drf rh (rnd n sl gp))) ∧ Below w.heap.size w w' := by
  have h1 := hs.rnd
  have hr0 := hs.r0
  have hr2 := hs.r2
  have h2 := mul_bd (a := 2 * rh) (A := 400) (by omega) h1.1 (by omega) h1.2
  have hs2 := Hidd.mk hs
  have he : Hidd (drf rh (rnd n sl gp) = (2 * rh * rnd n sl gp + 999999) / 1000000 + 2) := ⟨rfl⟩
  clear hs
  generalize hD : drf rh (rnd n sl gp) = D at he ⊢
  have ho := Hidd.mk ((Own.nil w (fun _ => False)).alloc (.cells #[.int .i64 n, .int .i64 f, .int .i64 sl, .int .i64 gp, .int .i64 rh, .int .i64 d0, .int .i64 d1, .int .i64 mg, .slice PA pn pc, .slice OA on oc, .slice RA rn rc] 26))
  obtain ⟨R, hR⟩ : ∃ R, rnd n sl gp = R := ⟨_, rfl⟩
  rw [hR] at h1 h2 he
  replace hR := Hidd.mk hR
  clear hD
  have e1 : IntKind.i64.wrap (2 * rh) = 2 * rh := IntWalk.i64_in _ (by omega)
  have e2 : IntKind.i64.wrap (2 * rh * R) = 2 * rh * R := IntWalk.i64_in _ (by omega)
  have e3 : IntKind.i64.wrap (2 * rh * R + 999999) = 2 * rh * R + 999999 := IntWalk.i64_in _ (by omega)
  have e4 : (2 * rh * R + 999999).tdiv 1000000 = (2 * rh * R + 999999) / 1000000 := Int.tdiv_eq_ediv_of_nonneg (by omega)
  have e5 : IntKind.i64.wrap ((2 * rh * R + 999999) / 1000000) = (2 * rh * R + 999999) / 1000000 := IntWalk.i64_in _ (by omega)
  have e6 : IntKind.i64.wrap ((2 * rh * R + 999999) / 1000000 + 2) = (2 * rh * R + 999999) / 1000000 + 2 := IntWalk.i64_in _ (by omega)
  clear hr0 hr2
  replace h1 := Hidd.mk h1
  replace h2 := Hidd.mk h2
  go_enter Try.func53, Try.ntmps53
  go_wp2
  generalize w.heap.size = p1 at ho ⊢
  generalize World.alloc w _ = wa at ho ⊢
  obtain ⟨W0, hW0⟩ : ∃ zz, zz = World.drew wa := ⟨_, rfl⟩
  refine wp_region_flow [([0, 3, 1, 2], some (4, [true])), ([5, 6, 7, 8, 9], none)] (by kernel_rfl) (by kernel_rfl) ?_
  rw [show ({ wa with drawn := wa.drawn + 1 } : World) = W0 from hW0.symm]
  replace hW0 := Hidd.mk hW0
  simp only [opsF, List.map_cons, List.map_nil, List.getD_cons_succ, List.getD_cons_zero, Option.map]
  have ho2 := Hidd.mk (show Own w (fun _ => False) W0 _ by rw [hW0.out]; exact ho.out.drew)
  clear hW0 ho
  obtain ⟨x0, x1, x2, x3, x4, x5, x6, x7, x8, x9, xA⟩ := cells11 ho2.out 0 rfl
  have hpl := ho2.out.lt 0 rfl
  refine FlW.stage (fun zz => Kept (fun _ => False) W0 zz) (Kept.refl _ _) ?_
  repeat (first | (refine StQ.skip (by rfl) ?_; simp only [Act.put, List.setIfInBounds_toArray, List.set_cons_zero, List.set_cons_succ]) | (refine StQ.go' (by rfl) (Exists.intro ?_ (And.intro (fun w' hS => ?_) ?_)); rotate_left; (focus (have hc := Kept.cell0 hS; go_simp; try with_reducible rfl)); simp only [Act.put, List.setIfInBounds_toArray, List.set_cons_zero, List.set_cons_succ]))
  refine StQ.nil ?_
  refine FlO.go (by rfl) (fun K hK => ?_)
  go_simp
  (refine (round_any n f sl gp rh d0 d1 mg PA pn pc OA on oc RA rn rc _ hs2.out).mono ?_; rintro e w5 ⟨rfl, hb5⟩; rw [hR.out]; have ho5 := Hidd.mk (ho2.out.ext hb5))
  refine hK.out _ _ (.inr ⟨Kept.below hb5, trivial⟩) ?_
  clear hK K
  clear x0 x1 x2 x3 x4 x5 x6 x7 x8 x9 xA ho2 hb5 hpl
  refine FlW.heads (fun zz => zz = _) rfl ?_
  repeat (first | (refine StQ.skip (by rfl) ?_; simp only [Act.put, List.setIfInBounds_toArray, List.set_cons_zero, List.set_cons_succ]) | (refine StQ.go' (by rfl) (Exists.intro ?_ (And.intro (fun w' hS => ?_) ?_)); rotate_left; (focus (rw [hS]; go_simp; try with_reducible rfl)); simp only [Act.put, List.setIfInBounds_toArray, List.set_cons_zero, List.set_cons_succ]))
  refine StQ.nil ?_
  refine FlW.nil (Calm.normal ?_)
  go_wp2
  go_ret
  exact ⟨ret_int he.out.symm, ho5.out.below fun _ => id⟩
theorem prec_any (n f sl gp rh d0 d1 mg : Int) (PA : Option Addr) (pn pc : Nat) (OA : Option Addr) (on oc : Nat) (RA : Option Addr) (rn rc : Nat) (w : World) (hs : Sc n f sl gp rh d0 d1 mg) : Calls Try.prog 24 #[.agg #[.int .i64 n, .int .i64 f, .int .i64 sl, .int .i64 gp, .int .i64 rh, .int .i64 d0, .int .i64 d1, .int .i64 mg, .slice PA pn pc, .slice OA on oc, .slice RA rn rc]] w fun e w' => e = .returned (.int .i64 (prc d0 d1 (drf rh (rnd n sl gp)))) ∧ Below w.heap.size w w' := by
  have h1 := hs.drf
  have a1 := hs.d0a
  have a2 := hs.d0b
  have a3 := hs.d1b
  have hs2 := Hidd.mk hs
  have ho := Hidd.mk ((Own.nil w (fun _ => False)).alloc (.cells #[.int .i64 n, .int .i64 f, .int .i64 sl, .int .i64 gp, .int .i64 rh, .int .i64 d0, .int .i64 d1, .int .i64 mg, .slice PA pn pc, .slice OA on oc, .slice RA rn rc] 26))
  obtain ⟨D, hD⟩ : ∃ D, drf rh (rnd n sl gp) = D := ⟨_, rfl⟩
  rw [hD] at h1 ⊢
  replace hD := Hidd.mk hD
  have he : Hidd (prc d0 d1 D = 4 * (d1 - d0) + 16 * D + 64) := ⟨rfl⟩
  clear hs
  have e1 : IntKind.i64.wrap (d1 - d0) = d1 - d0 := IntWalk.i64_in _ (by omega)
  have e2 : IntKind.i64.wrap (4 * (d1 - d0)) = 4 * (d1 - d0) := IntWalk.i64_in _ (by omega)
  have e3 : IntKind.i64.wrap (16 * D) = 16 * D := IntWalk.i64_in _ (by omega)
  have e4 : IntKind.i64.wrap (4 * (d1 - d0) + 16 * D) = 4 * (d1 - d0) + 16 * D := IntWalk.i64_in _ (by omega)
  have e5 : IntKind.i64.wrap (4 * (d1 - d0) + 16 * D + 64) = 4 * (d1 - d0) + 16 * D + 64 := IntWalk.i64_in _ (by omega)
  clear a1 a2 a3
  replace h1 := Hidd.mk h1
  go_enter Try.func24, Try.ntmps24
  go_wp2
  generalize w.heap.size = p1 at ho ⊢
  generalize World.alloc w _ = wa at ho ⊢
  obtain ⟨W0, hW0⟩ : ∃ zz, zz = World.drew wa := ⟨_, rfl⟩
  refine wp_region_flow [([0, 2, 6, 1, 3, 4, 5], some (7, [true])), ([8, 9, 10, 11], none)] (by kernel_rfl) (by kernel_rfl) ?_
  rw [show ({ wa with drawn := wa.drawn + 1 } : World) = W0 from hW0.symm]
  replace hW0 := Hidd.mk hW0
  simp only [opsF, List.map_cons, List.map_nil, List.getD_cons_succ, List.getD_cons_zero, Option.map]
  have ho2 := Hidd.mk (show Own w (fun _ => False) W0 _ by rw [hW0.out]; exact ho.out.drew)
  clear hW0 ho
  obtain ⟨x0, x1, x2, x3, x4, x5, x6, x7, x8, x9, xA⟩ := cells11 ho2.out 0 rfl
  have hpl := ho2.out.lt 0 rfl
  refine FlW.stage (fun zz => Kept (fun _ => False) W0 zz) (Kept.refl _ _) ?_
  repeat (first | (refine StQ.skip (by rfl) ?_; simp only [Act.put, List.setIfInBounds_toArray, List.set_cons_zero, List.set_cons_succ]) | (refine StQ.go' (by rfl) (Exists.intro ?_ (And.intro (fun w' hS => ?_) ?_)); rotate_left; (focus (have hc := Kept.cell0 hS; go_simp; try with_reducible rfl)); simp only [Act.put, List.setIfInBounds_toArray, List.set_cons_zero, List.set_cons_succ]))
  refine StQ.nil ?_
  refine FlO.go (by rfl) (fun K hK => ?_)
  go_simp
  (refine (drift_any n f sl gp rh d0 d1 mg PA pn pc OA on oc RA rn rc _ hs2.out).mono ?_; rintro e w5 ⟨rfl, hb5⟩; rw [hD.out]; have ho5 := Hidd.mk (ho2.out.ext hb5))
  refine hK.out _ _ (.inr ⟨Kept.below hb5, trivial⟩) ?_
  clear hK K
  clear x0 x1 x2 x3 x4 x5 x6 x7 x8 x9 xA ho2 hb5 hpl
  refine FlW.heads (fun zz => zz = _) rfl ?_
  repeat (first | (refine StQ.skip (by rfl) ?_; simp only [Act.put, List.setIfInBounds_toArray, List.set_cons_zero, List.set_cons_succ]) | (refine StQ.go' (by rfl) (Exists.intro ?_ (And.intro (fun w' hS => ?_) ?_)); rotate_left; (focus (rw [hS]; go_simp; try with_reducible rfl)); simp only [Act.put, List.setIfInBounds_toArray, List.set_cons_zero, List.set_cons_succ]))
  refine StQ.nil ?_
  refine FlW.nil (Calm.normal ?_)
  go_wp2
  go_ret
  exact ⟨ret_int he.out.symm, ho5.out.below fun _ => id⟩
theorem rround_any (n f sl gp rh d0 d1 mg : Int) (PA : Option Addr) (pn pc : Nat) (OA : Option Addr) (on oc : Nat) (RA : Option Addr) (rn rc : Nat) (w : World) (hs : Sc n f sl gp rh d0 d1 mg) : Calls Try.prog 43 #[.agg #[.int .i64 n, .int .i64 f, .int .i64 sl, .int .i64 gp, .int .i64 rh, .int .i64 d0, .int .i64 d1, .int .i64 mg, .slice PA pn pc, .slice OA on oc, .slice RA rn rc]] w fun e w' => e = .returned (.int .i64 (rnd n sl gp)) ∧ Below w.heap.size w w' := by
  have h1 := hs.nsl
  unfold nsl at h1
  obtain ⟨h1a, h1b⟩ := h1
  have g0 := hs.g0
  have g2 := hs.g2
  have hbw : Hidd (Below w.heap.size w (w.alloc (.cells #[.int .i64 n, .int .i64 f, .int .i64 sl, .int .i64 gp, .int .i64 rh, .int .i64 d0, .int .i64 d1, .int .i64 mg, .slice PA pn pc, .slice OA on oc, .slice RA rn rc] 26))) := ⟨below_alloc (Below.refl _ _) _⟩
  clear hs
  go_enter Try.func43, Try.ntmps43
  go_wp2
  go_ret
  exact ⟨rfl, hbw.out⟩
theorem rdrift_any (n f sl gp rh d0 d1 mg : Int) (PA : Option Addr) (pn pc : Nat) (OA : Option Addr) (on oc : Nat) (RA : Option Addr) (rn rc : Nat) (w : World) (hs : Sc n f sl gp rh d0 d1 mg) : Calls Try.prog 57 #[.agg #[.int .i64 n, .int .i64 f, .int .i64 sl, .int .i64 gp, .int .i64 rh, .int .i64 d0, .int .i64 d1, .int .i64 mg, .slice PA pn pc, .slice OA on oc, .slice RA rn rc]] w fun e w' => e = .returned (.int .i64 (drf rh (rnd n sl gp))) ∧ Below w.heap.size w w' := by
  have h1 := hs.rnd
  have hr0 := hs.r0
  have hr2 := hs.r2
  have h2 := mul_bd (a := 2 * rh) (A := 400) (by omega) h1.1 (by omega) h1.2
  have hs2 := Hidd.mk hs
  have he : Hidd (drf rh (rnd n sl gp) = (2 * rh * rnd n sl gp + 999999) / 1000000 + 2) := ⟨rfl⟩
  clear hs
  generalize hD : drf rh (rnd n sl gp) = D at he ⊢
  have ho := Hidd.mk ((Own.nil w (fun _ => False)).alloc (.cells #[.int .i64 n, .int .i64 f, .int .i64 sl, .int .i64 gp, .int .i64 rh, .int .i64 d0, .int .i64 d1, .int .i64 mg, .slice PA pn pc, .slice OA on oc, .slice RA rn rc] 26))
  obtain ⟨R, hR⟩ : ∃ R, rnd n sl gp = R := ⟨_, rfl⟩
  rw [hR] at h1 h2 he
  replace hR := Hidd.mk hR
  clear hD
  have e1 : IntKind.i64.wrap (2 * rh) = 2 * rh := IntWalk.i64_in _ (by omega)
  have e2 : IntKind.i64.wrap (2 * rh * R) = 2 * rh * R := IntWalk.i64_in _ (by omega)
  have e3 : IntKind.i64.wrap (2 * rh * R + 999999) = 2 * rh * R + 999999 := IntWalk.i64_in _ (by omega)
  have e4 : (2 * rh * R + 999999).tdiv 1000000 = (2 * rh * R + 999999) / 1000000 := Int.tdiv_eq_ediv_of_nonneg (by omega)
  have e5 : IntKind.i64.wrap ((2 * rh * R + 999999) / 1000000) = (2 * rh * R + 999999) / 1000000 := IntWalk.i64_in _ (by omega)
  have e6 : IntKind.i64.wrap ((2 * rh * R + 999999) / 1000000 + 2) = (2 * rh * R + 999999) / 1000000 + 2 := IntWalk.i64_in _ (by omega)
  clear hr0 hr2
  replace h1 := Hidd.mk h1
  replace h2 := Hidd.mk h2
  go_enter Try.func57, Try.ntmps57
  go_wp2
  generalize w.heap.size = p1 at ho ⊢
  generalize World.alloc w _ = wa at ho ⊢
  obtain ⟨W0, hW0⟩ : ∃ zz, zz = World.drew wa := ⟨_, rfl⟩
  refine wp_region_flow [([0, 3, 1, 2], some (4, [true])), ([5, 6, 7, 8, 9], none)] (by kernel_rfl) (by kernel_rfl) ?_
  rw [show ({ wa with drawn := wa.drawn + 1 } : World) = W0 from hW0.symm]
  replace hW0 := Hidd.mk hW0
  simp only [opsF, List.map_cons, List.map_nil, List.getD_cons_succ, List.getD_cons_zero, Option.map]
  have ho2 := Hidd.mk (show Own w (fun _ => False) W0 _ by rw [hW0.out]; exact ho.out.drew)
  clear hW0 ho
  obtain ⟨x0, x1, x2, x3, x4, x5, x6, x7, x8, x9, xA⟩ := cells11 ho2.out 0 rfl
  have hpl := ho2.out.lt 0 rfl
  refine FlW.stage (fun zz => Kept (fun _ => False) W0 zz) (Kept.refl _ _) ?_
  repeat (first | (refine StQ.skip (by rfl) ?_; simp only [Act.put, List.setIfInBounds_toArray, List.set_cons_zero, List.set_cons_succ]) | (refine StQ.go' (by rfl) (Exists.intro ?_ (And.intro (fun w' hS => ?_) ?_)); rotate_left; (focus (have hc := Kept.cell0 hS; go_simp; try with_reducible rfl)); simp only [Act.put, List.setIfInBounds_toArray, List.set_cons_zero, List.set_cons_succ]))
  refine StQ.nil ?_
  refine FlO.go (by rfl) (fun K hK => ?_)
  go_simp
  (refine (rround_any n f sl gp rh d0 d1 mg PA pn pc OA on oc RA rn rc _ hs2.out).mono ?_; rintro e w5 ⟨rfl, hb5⟩; rw [hR.out]; have ho5 := Hidd.mk (ho2.out.ext hb5))
  refine hK.out _ _ (.inr ⟨Kept.below hb5, trivial⟩) ?_
  clear hK K
  clear x0 x1 x2 x3 x4 x5 x6 x7 x8 x9 xA ho2 hb5 hpl
  refine FlW.heads (fun zz => zz = _) rfl ?_
  repeat (first | (refine StQ.skip (by rfl) ?_; simp only [Act.put, List.setIfInBounds_toArray, List.set_cons_zero, List.set_cons_succ]) | (refine StQ.go' (by rfl) (Exists.intro ?_ (And.intro (fun w' hS => ?_) ?_)); rotate_left; (focus (rw [hS]; go_simp; try with_reducible rfl)); simp only [Act.put, List.setIfInBounds_toArray, List.set_cons_zero, List.set_cons_succ]))
  refine StQ.nil ?_
  refine FlW.nil (Calm.normal ?_)
  go_wp2
  go_ret
  exact ⟨ret_int he.out.symm, ho5.out.below fun _ => id⟩
theorem rprec_any (n f sl gp rh d0 d1 mg : Int) (PA : Option Addr) (pn pc : Nat) (OA : Option Addr) (on oc : Nat) (RA : Option Addr) (rn rc : Nat) (w : World) (hs : Sc n f sl gp rh d0 d1 mg) : Calls Try.prog 56 #[.agg #[.int .i64 n, .int .i64 f, .int .i64 sl, .int .i64 gp, .int .i64 rh, .int .i64 d0, .int .i64 d1, .int .i64 mg, .slice PA pn pc, .slice OA on oc, .slice RA rn rc]] w fun e w' => e = .returned (.int .i64 (prc d0 d1 (drf rh (rnd n sl gp)))) ∧ Below w.heap.size w w' := by
  have h1 := hs.drf
  have a1 := hs.d0a
  have a2 := hs.d0b
  have a3 := hs.d1b
  have hs2 := Hidd.mk hs
  have ho := Hidd.mk ((Own.nil w (fun _ => False)).alloc (.cells #[.int .i64 n, .int .i64 f, .int .i64 sl, .int .i64 gp, .int .i64 rh, .int .i64 d0, .int .i64 d1, .int .i64 mg, .slice PA pn pc, .slice OA on oc, .slice RA rn rc] 26))
  obtain ⟨D, hD⟩ : ∃ D, drf rh (rnd n sl gp) = D := ⟨_, rfl⟩
  rw [hD] at h1 ⊢
  replace hD := Hidd.mk hD
  have he : Hidd (prc d0 d1 D = 4 * (d1 - d0) + 16 * D + 64) := ⟨rfl⟩
  clear hs
  have e1 : IntKind.i64.wrap (d1 - d0) = d1 - d0 := IntWalk.i64_in _ (by omega)
  have e2 : IntKind.i64.wrap (4 * (d1 - d0)) = 4 * (d1 - d0) := IntWalk.i64_in _ (by omega)
  have e3 : IntKind.i64.wrap (16 * D) = 16 * D := IntWalk.i64_in _ (by omega)
  have e4 : IntKind.i64.wrap (4 * (d1 - d0) + 16 * D) = 4 * (d1 - d0) + 16 * D := IntWalk.i64_in _ (by omega)
  have e5 : IntKind.i64.wrap (4 * (d1 - d0) + 16 * D + 64) = 4 * (d1 - d0) + 16 * D + 64 := IntWalk.i64_in _ (by omega)
  clear a1 a2 a3
  replace h1 := Hidd.mk h1
  go_enter Try.func56, Try.ntmps56
  go_wp2
  generalize w.heap.size = p1 at ho ⊢
  generalize World.alloc w _ = wa at ho ⊢
  obtain ⟨W0, hW0⟩ : ∃ zz, zz = World.drew wa := ⟨_, rfl⟩
  refine wp_region_flow [([0, 2, 6, 1, 3, 4, 5], some (7, [true])), ([8, 9, 10, 11], none)] (by kernel_rfl) (by kernel_rfl) ?_
  rw [show ({ wa with drawn := wa.drawn + 1 } : World) = W0 from hW0.symm]
  replace hW0 := Hidd.mk hW0
  simp only [opsF, List.map_cons, List.map_nil, List.getD_cons_succ, List.getD_cons_zero, Option.map]
  have ho2 := Hidd.mk (show Own w (fun _ => False) W0 _ by rw [hW0.out]; exact ho.out.drew)
  clear hW0 ho
  obtain ⟨x0, x1, x2, x3, x4, x5, x6, x7, x8, x9, xA⟩ := cells11 ho2.out 0 rfl
  have hpl := ho2.out.lt 0 rfl
  refine FlW.stage (fun zz => Kept (fun _ => False) W0 zz) (Kept.refl _ _) ?_
  repeat (first | (refine StQ.skip (by rfl) ?_; simp only [Act.put, List.setIfInBounds_toArray, List.set_cons_zero, List.set_cons_succ]) | (refine StQ.go' (by rfl) (Exists.intro ?_ (And.intro (fun w' hS => ?_) ?_)); rotate_left; (focus (have hc := Kept.cell0 hS; go_simp; try with_reducible rfl)); simp only [Act.put, List.setIfInBounds_toArray, List.set_cons_zero, List.set_cons_succ]))
  refine StQ.nil ?_
  refine FlO.go (by rfl) (fun K hK => ?_)
  go_simp
  (refine (rdrift_any n f sl gp rh d0 d1 mg PA pn pc OA on oc RA rn rc _ hs2.out).mono ?_; rintro e w5 ⟨rfl, hb5⟩; rw [hD.out]; have ho5 := Hidd.mk (ho2.out.ext hb5))
  refine hK.out _ _ (.inr ⟨Kept.below hb5, trivial⟩) ?_
  clear hK K
  clear x0 x1 x2 x3 x4 x5 x6 x7 x8 x9 xA ho2 hb5 hpl
  refine FlW.heads (fun zz => zz = _) rfl ?_
  repeat (first | (refine StQ.skip (by rfl) ?_; simp only [Act.put, List.setIfInBounds_toArray, List.set_cons_zero, List.set_cons_succ]) | (refine StQ.go' (by rfl) (Exists.intro ?_ (And.intro (fun w' hS => ?_) ?_)); rotate_left; (focus (rw [hS]; go_simp; try with_reducible rfl)); simp only [Act.put, List.setIfInBounds_toArray, List.set_cons_zero, List.set_cons_succ]))
  refine StQ.nil ?_
  refine FlW.nil (Calm.normal ?_)
  go_wp2
  go_ret
  exact ⟨ret_int he.out.symm, ho5.out.below fun _ => id⟩
end Go.Proofs.Ytcamoldjljfbeaa
