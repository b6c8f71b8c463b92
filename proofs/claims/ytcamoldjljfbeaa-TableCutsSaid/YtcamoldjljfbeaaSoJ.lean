/- The reference's Check: what it answers. -/
import Derived.Test.YtcamoldjljfbeaaSoG
import Derived.Deep.DeepCutAuto
import Derived.Test.YtcamoldjljfbeaaSoI
namespace Go.Proofs.Ytcamoldjljfbeaa
open Go.RowKit

theorem ne_empty {s : ByteArray} (h : 0 < s.size) : s.toList.isEmpty = false := by
  rw [ByteArray.toList_eq]
  cases hl : s.data.toList with
  | nil =>
    have h2 : s.size = s.data.toList.length := by rw [Array.length_toList]; rfl
    rw [hl, List.length_nil] at h2
    omega
  | cons _ _ => rfl
theorem atB_pos (c a : Int) : 0 < (atB c a).size := by
  rw [atB, ByteArray.size_append, ByteArray.size_append]
  have h1 : (⟨#[64]⟩ : ByteArray).size = 1 := rfl
  omega
theorem four (b c x y : Bool) : b = false ∨ (b = true ∧ c = true) ∨ (b = true ∧ c = false ∧ x = true) ∨ (b = true ∧ c = false ∧ x = false ∧ y = true) ∨ (b = true ∧ c = false ∧ x = false ∧ y = false) := by
  cases b <;> cases c <;> cases x <;> cases y <;> simp
theorem knd (b c : Nat) : decide (b ≠ c) = ((b : Int) != (c : Int)) := by
  by_cases h : b = c
  · subst h; simp
  · have : ((b : Int) != (c : Int)) = true := by rw [bne_iff_ne]; omega
    rw [this]; simpa using h
set_option maxRecDepth 100000
set_option maxHeartbeats 16000000
theorem refSound_any (n f sl gp rh d0 d1 mg : Int) (PA : Option Addr) (pn pc : Nat) (OA : Option Addr) (on oc : Nat) (RA : Option Addr) (rn rc : Nat) (ps : List Pt) (qs : List Qt) (rs : List Rt) (w : World) (hP : At Pt.cells w PA pn ps) (hQ : At Qt.cells w OA on qs) (hR : At Rt.cells w RA rn rs)
    (oP : ∀ p ∈ ps, p.Ok) (oQ : ∀ p ∈ qs, p.Ok) (er : Option (Int × Int)) (her : soundE n f sl gp rh d0 d1 mg ps qs rs = er) :
    Calls Try.prog 23 #[.agg #[.int .i64 n, .int .i64 f, .int .i64 sl, .int .i64 gp, .int .i64 rh, .int .i64 d0, .int .i64 d1, .int .i64 mg, .slice PA pn pc, .slice OA on oc, .slice RA rn rc]] w fun e w' => e = .returned (.string (textE er)) ∧ Below w.heap.size w w' := by
  have ho := Hidd.mk ((Own.nil w (fun _ => False)).alloc (.cells #[.int .i64 n, .int .i64 f, .int .i64 sl, .int .i64 gp, .int .i64 rh, .int .i64 d0, .int .i64 d1, .int .i64 mg, .slice PA pn pc, .slice OA on oc, .slice RA rn rc] 26))
  have hB0 := ho.out.below fun _ => id
  have hP1 := Hidd.mk (hP.below hB0)
  have hQ1 := Hidd.mk (hQ.below hB0)
  have hR1 := Hidd.mk (hR.below hB0)
  have hpl := hP.1
  have hql := hQ.1
  have hrl := hR.1
  replace hP := Hidd.mk hP
  replace hQ := Hidd.mk hQ
  replace hR := Hidd.mk hR
  replace oP := Hidd.mk oP
  replace oQ := Hidd.mk oQ
  clear hB0
  unfold soundE at her
  rcases ht : tabE n f sl gp rh d0 d1 mg ps qs rs with _ | ⟨q0, q1⟩
  rotate_left
  · rw [ht] at her
    subst her
    replace ht := Hidd.mk ht
    have hne := ne_empty (atB_pos q0 q1)
    clear hpl hql hrl
    go_enter Try.func23, Try.ntmps23
    go_wp2_with (go_at_call 32; refine (refTab_any n f sl gp rh d0 d1 mg PA pn pc OA on oc RA rn rc ps qs rs _ hP1.out hQ1.out hR1.out oP.out oQ.out _ ht.out).mono ?_; rintro e w1 ⟨rfl, hb⟩; rw [show textE (some (q0, q1)) = atB q0 q1 from rfl]; have ho1 := Hidd.mk (ho.out.ext hb); clear hb ho)
    go_ret
    exact ⟨rfl, ho1.out.below fun _ => id⟩
  rw [ht] at her
  simp only at her
  have hT := Tab.of ht
  have hs := hT.sc
  have hD := hs.drf
  have hQp := hs.prc
  obtain ⟨D, hDe⟩ : ∃ D, drf rh (rnd n sl gp) = D := ⟨_, rfl⟩
  rw [hDe] at her hD hQp
  obtain ⟨P, hPe⟩ : ∃ P, prc d0 d1 D = P := ⟨_, rfl⟩
  rw [hPe] at her hQp
  obtain ⟨hD0, hD1⟩ := hD
  obtain ⟨hQ0, hQ2⟩ := hQp
  have f0 := hs.f0
  have f2 := hs.f2
  have a1 := hs.d0a
  have a2 := hs.d0b
  have a3 := hs.d1b
  have m0 := hs.m0
  have m2 := hs.m2
  have n1 := hs.n1
  have n7 := hs.n7
  have e1 : IntKind.i64.wrap (P + d1) = P + d1 := IntWalk.i64_in _ (by omega)
  have e2 : IntKind.i64.wrap (P + d1 - d0) = P + d1 - d0 := IntWalk.i64_in _ (by omega)
  have e3 : IntKind.i64.wrap (P + d1 - d0 + D) = P + d1 - d0 + D := IntWalk.i64_in _ (by omega)
  have hi : Hidd (∀ p ∈ ps, PtIn p) := ⟨fun p hp => PtIn.of (hT.p p hp)⟩
  have hrt : Hidd (∀ p ∈ rs, rtB p (on : Int) = true) := ⟨by rw [← hql]; exact hT.r⟩
  have b1 := hT.np
  have b2 := hT.nq
  have b3 := hT.nr
  rw [hpl] at b1
  rw [hql] at b2
  rw [hrl] at b3
  have hN := hs.nsl
  obtain ⟨N, hNe⟩ : ∃ N, nsl n sl = N := ⟨_, rfl⟩
  rw [hNe] at hN her
  unfold nsl at hNe
  have hN1 := hN.1
  have hN2 := hN.2
  replace ht := Hidd.mk ht
  replace hs := Hidd.mk hs
  replace hDe := Hidd.mk hDe
  replace hPe := Hidd.mk hPe
  replace hpl := Hidd.mk hpl
  replace hql := Hidd.mk hql
  replace hrl := Hidd.mk hrl
  clear hT hN
  by_cases c1 : n < 3 * f + 1
  · rw [if_pos c1] at her
    subst her
    have dd1 : decide (n ≤ 3 * f) = true := by rw [decide_eq_true_eq]; omega
    clear c1
    go_enter Try.func23, Try.ntmps23
    go_wp2_with (first
      | (go_at_call 32; refine (refTab_any n f sl gp rh d0 d1 mg PA pn pc OA on oc RA rn rc ps qs rs _ hP1.out hQ1.out hR1.out oP.out oQ.out _ ht.out).mono ?_; rintro e w1 ⟨rfl, hb⟩; rw [show textE none = ⟨#[]⟩ from rfl]; have ho1 := Hidd.mk (ho.out.ext hb); clear hb ho; obtain ⟨x0, x1, x2, x3, x4, x5, x6, x7, x8, x9, xA⟩ := cells11 ho1.out 0 rfl; have hlt1 := ho1.out.lt 0 rfl)
      | (go_at_call 56; refine (rprec_any n f sl gp rh d0 d1 mg PA pn pc OA on oc RA rn rc _ hs.out).mono ?_; rintro e w5 ⟨rfl, hb5⟩; rw [hDe.out, hPe.out]; have ho5 := Hidd.mk (ho1.out.ext hb5); clear ho1 hb5 x0 x1 x2 x3 x4 x5 x6 x7 x8 x9 xA hlt1; obtain ⟨x0, x1, x2, x3, x4, x5, x6, x7, x8, x9, xA⟩ := cells11 ho5.out 0 rfl; have hlt1 := ho5.out.lt 0 rfl)
      | (go_at_call 51; have hq := ho5.out; clear hq; refine (at_any 70 (-1) _ (by decide) (by decide) (by omega) (by omega)).mono ?_; rintro e w9 ⟨rfl, hb9⟩; have ho9 := Hidd.mk (ho5.out.ext hb9); clear hb9))
    go_ret
    exact ⟨rfl, ho9.out.below fun _ => id⟩
  rw [if_neg c1] at her
  have dd1 : decide (n ≤ 3 * f) = false := by rw [decide_eq_false_iff_not]; omega
  by_cases c2 : mg < P + (d1 - d0) + D
  · rw [if_pos c2] at her
    subst her
    have dd2 : decide (mg < P + d1 - d0 + D) = true := by rw [decide_eq_true_eq]; omega
    clear c2
    go_enter Try.func23, Try.ntmps23
    go_wp2_with (first
      | (go_at_call 32; refine (refTab_any n f sl gp rh d0 d1 mg PA pn pc OA on oc RA rn rc ps qs rs _ hP1.out hQ1.out hR1.out oP.out oQ.out _ ht.out).mono ?_; rintro e w1 ⟨rfl, hb⟩; rw [show textE none = ⟨#[]⟩ from rfl]; have ho1 := Hidd.mk (ho.out.ext hb); clear hb ho; obtain ⟨x0, x1, x2, x3, x4, x5, x6, x7, x8, x9, xA⟩ := cells11 ho1.out 0 rfl; have hlt1 := ho1.out.lt 0 rfl)
      | (go_at_call 56; refine (rprec_any n f sl gp rh d0 d1 mg PA pn pc OA on oc RA rn rc _ hs.out).mono ?_; rintro e w5 ⟨rfl, hb5⟩; rw [hDe.out, hPe.out]; have ho5 := Hidd.mk (ho1.out.ext hb5); clear ho1 hb5 x0 x1 x2 x3 x4 x5 x6 x7 x8 x9 xA hlt1; obtain ⟨x0, x1, x2, x3, x4, x5, x6, x7, x8, x9, xA⟩ := cells11 ho5.out 0 rfl; have hlt1 := ho5.out.lt 0 rfl))
    generalize w.heap.size = p1 at ho5 ⊢
    clear x0 x1 x2 x3 x4 x5 x6 x7 x8 x9 xA hlt1
    obtain ⟨W7, hW7⟩ : ∃ zz, zz = World.drew w5 := ⟨_, rfl⟩
    refine wp_region_flow [([0, 2, 3, 6, 9, 1, 4, 7, 5, 8], some (10, [true])), ([11, 12], none)] (by kernel_rfl) (by kernel_rfl) ?_
    rw [show ({ w5 with drawn := w5.drawn + 1 } : World) = W7 from hW7.symm]
    replace hW7 := Hidd.mk hW7
    simp only [opsF, List.map_cons, List.map_nil, List.getD_cons_succ, List.getD_cons_zero, Option.map]
    have ho2 := Hidd.mk (show Own w (fun _ => False) W7 _ by rw [hW7.out]; exact ho5.out.drew)
    clear hW7 ho5
    obtain ⟨x0, x1, x2, x3, x4, x5, x6, x7, x8, x9, xA⟩ := cells11 ho2.out 0 rfl
    have hpl1 := ho2.out.lt 0 rfl
    refine FlW.stage (fun zz => Kept (fun _ => False) W7 zz) (Kept.refl _ _) ?_
    repeat (first | (refine StQ.skip (by rfl) ?_; simp only [Act.put, List.setIfInBounds_toArray, List.set_cons_zero, List.set_cons_succ]) | (refine StQ.go' (by rfl) (Exists.intro ?_ (And.intro (fun w' hS => ?_) ?_)); rotate_left; (focus (have hc := Kept.cell0 hS; go_simp; try with_reducible rfl)); simp only [Act.put, List.setIfInBounds_toArray, List.set_cons_zero, List.set_cons_succ]))
    refine StQ.nil ?_
    refine FlO.go (by rfl) (fun K hK => ?_)
    go_simp
    (refine (rdrift_any n f sl gp rh d0 d1 mg PA pn pc OA on oc RA rn rc _ hs.out).mono ?_; rintro e w8 ⟨rfl, hb8⟩; rw [hDe.out]; have ho8 := Hidd.mk (ho2.out.ext hb8))
    refine hK.out _ _ (.inr ⟨Kept.below hb8, trivial⟩) ?_
    clear hK K
    clear x0 x1 x2 x3 x4 x5 x6 x7 x8 x9 xA ho2 hb8 hpl1
    refine FlW.heads (fun zz => zz = _) rfl ?_
    repeat (first | (refine StQ.skip (by rfl) ?_; simp only [Act.put, List.setIfInBounds_toArray, List.set_cons_zero, List.set_cons_succ]) | (refine StQ.go' (by rfl) (Exists.intro ?_ (And.intro (fun w' hS => ?_) ?_)); rotate_left; (focus (rw [hS]; go_simp; try with_reducible rfl)); simp only [Act.put, List.setIfInBounds_toArray, List.set_cons_zero, List.set_cons_succ]))
    refine StQ.nil ?_
    refine FlW.nil (Calm.normal ?_)
    obtain ⟨x0, x1, x2, x3, x4, x5, x6, x7, x8, x9, xA⟩ := cells11 ho8.out 0 rfl
    have hlt1 := ho8.out.lt 0 rfl
    go_wp2_with (go_at_call 51; have hq := ho8.out; clear hq; refine (at_any 74 (-1) _ (by decide) (by decide) (by omega) (by omega)).mono ?_; rintro e w9 ⟨rfl, hb9⟩; have ho9 := Hidd.mk (ho8.out.ext hb9); clear hb9)
    go_ret
    exact ⟨rfl, ho9.out.below fun _ => id⟩
  rw [if_neg c2] at her
  have dd2 : decide (mg < P + d1 - d0 + D) = false := by rw [decide_eq_false_iff_not]; omega
  by_cases c3 : sl < 2 * mg + d1 + P
  · rw [if_pos c3] at her
    subst her
    have dd3 : decide (sl < 2 * mg + d1 + P) = true := by rw [decide_eq_true_eq]; omega
    clear c3
    go_enter Try.func23, Try.ntmps23
    go_wp2_with (first
      | (go_at_call 32; refine (refTab_any n f sl gp rh d0 d1 mg PA pn pc OA on oc RA rn rc ps qs rs _ hP1.out hQ1.out hR1.out oP.out oQ.out _ ht.out).mono ?_; rintro e w1 ⟨rfl, hb⟩; rw [show textE none = ⟨#[]⟩ from rfl]; have ho1 := Hidd.mk (ho.out.ext hb); clear hb ho; obtain ⟨x0, x1, x2, x3, x4, x5, x6, x7, x8, x9, xA⟩ := cells11 ho1.out 0 rfl; have hlt1 := ho1.out.lt 0 rfl)
      | (go_at_call 56; refine (rprec_any n f sl gp rh d0 d1 mg PA pn pc OA on oc RA rn rc _ hs.out).mono ?_; rintro e w5 ⟨rfl, hb5⟩; rw [hDe.out, hPe.out]; have ho5 := Hidd.mk (ho1.out.ext hb5); clear ho1 hb5 x0 x1 x2 x3 x4 x5 x6 x7 x8 x9 xA hlt1; obtain ⟨x0, x1, x2, x3, x4, x5, x6, x7, x8, x9, xA⟩ := cells11 ho5.out 0 rfl; have hlt1 := ho5.out.lt 0 rfl))
    generalize w.heap.size = p1 at ho5 ⊢
    clear x0 x1 x2 x3 x4 x5 x6 x7 x8 x9 xA hlt1
    obtain ⟨W7, hW7⟩ : ∃ zz, zz = World.drew w5 := ⟨_, rfl⟩
    refine wp_region_flow [([0, 2, 3, 6, 9, 1, 4, 7, 5, 8], some (10, [true])), ([11, 12], none)] (by kernel_rfl) (by kernel_rfl) ?_
    rw [show ({ w5 with drawn := w5.drawn + 1 } : World) = W7 from hW7.symm]
    replace hW7 := Hidd.mk hW7
    simp only [opsF, List.map_cons, List.map_nil, List.getD_cons_succ, List.getD_cons_zero, Option.map]
    have ho2 := Hidd.mk (show Own w (fun _ => False) W7 _ by rw [hW7.out]; exact ho5.out.drew)
    clear hW7 ho5
    obtain ⟨x0, x1, x2, x3, x4, x5, x6, x7, x8, x9, xA⟩ := cells11 ho2.out 0 rfl
    have hpl1 := ho2.out.lt 0 rfl
    refine FlW.stage (fun zz => Kept (fun _ => False) W7 zz) (Kept.refl _ _) ?_
    repeat (first | (refine StQ.skip (by rfl) ?_; simp only [Act.put, List.setIfInBounds_toArray, List.set_cons_zero, List.set_cons_succ]) | (refine StQ.go' (by rfl) (Exists.intro ?_ (And.intro (fun w' hS => ?_) ?_)); rotate_left; (focus (have hc := Kept.cell0 hS; go_simp; try with_reducible rfl)); simp only [Act.put, List.setIfInBounds_toArray, List.set_cons_zero, List.set_cons_succ]))
    refine StQ.nil ?_
    refine FlO.go (by rfl) (fun K hK => ?_)
    go_simp
    (refine (rdrift_any n f sl gp rh d0 d1 mg PA pn pc OA on oc RA rn rc _ hs.out).mono ?_; rintro e w8 ⟨rfl, hb8⟩; rw [hDe.out]; have ho8 := Hidd.mk (ho2.out.ext hb8))
    refine hK.out _ _ (.inr ⟨Kept.below hb8, trivial⟩) ?_
    clear hK K
    clear x0 x1 x2 x3 x4 x5 x6 x7 x8 x9 xA ho2 hb8 hpl1
    refine FlW.heads (fun zz => zz = _) rfl ?_
    repeat (first | (refine StQ.skip (by rfl) ?_; simp only [Act.put, List.setIfInBounds_toArray, List.set_cons_zero, List.set_cons_succ]) | (refine StQ.go' (by rfl) (Exists.intro ?_ (And.intro (fun w' hS => ?_) ?_)); rotate_left; (focus (rw [hS]; go_simp; try with_reducible rfl)); simp only [Act.put, List.setIfInBounds_toArray, List.set_cons_zero, List.set_cons_succ]))
    refine StQ.nil ?_
    refine FlW.nil (Calm.normal ?_)
    obtain ⟨x0, x1, x2, x3, x4, x5, x6, x7, x8, x9, xA⟩ := cells11 ho8.out 0 rfl
    have hlt1 := ho8.out.lt 0 rfl
    go_wp2_with (go_at_call 51; have hq := ho8.out; clear hq; refine (at_any 73 (-1) _ (by decide) (by decide) (by omega) (by omega)).mono ?_; rintro e w9 ⟨rfl, hb9⟩; have ho9 := Hidd.mk (ho8.out.ext hb9); clear hb9)
    go_ret
    exact ⟨rfl, ho9.out.below fun _ => id⟩
  rw [if_neg c3] at her
  have dd3 : decide (sl < 2 * mg + d1 + P) = false := by rw [decide_eq_false_iff_not]; omega
  by_cases c4 : gp < 2 * (mg + P)
  · rw [if_pos c4] at her
    subst her
    have dd4 : decide (gp < 2 * mg + 2 * P) = true := by rw [decide_eq_true_eq]; omega
    clear c4
    go_enter Try.func23, Try.ntmps23
    go_wp2_with (first
      | (go_at_call 32; refine (refTab_any n f sl gp rh d0 d1 mg PA pn pc OA on oc RA rn rc ps qs rs _ hP1.out hQ1.out hR1.out oP.out oQ.out _ ht.out).mono ?_; rintro e w1 ⟨rfl, hb⟩; rw [show textE none = ⟨#[]⟩ from rfl]; have ho1 := Hidd.mk (ho.out.ext hb); clear hb ho; obtain ⟨x0, x1, x2, x3, x4, x5, x6, x7, x8, x9, xA⟩ := cells11 ho1.out 0 rfl; have hlt1 := ho1.out.lt 0 rfl)
      | (go_at_call 56; refine (rprec_any n f sl gp rh d0 d1 mg PA pn pc OA on oc RA rn rc _ hs.out).mono ?_; rintro e w5 ⟨rfl, hb5⟩; rw [hDe.out, hPe.out]; have ho5 := Hidd.mk (ho1.out.ext hb5); clear ho1 hb5 x0 x1 x2 x3 x4 x5 x6 x7 x8 x9 xA hlt1; obtain ⟨x0, x1, x2, x3, x4, x5, x6, x7, x8, x9, xA⟩ := cells11 ho5.out 0 rfl; have hlt1 := ho5.out.lt 0 rfl))
    generalize w.heap.size = p1 at ho5 ⊢
    clear x0 x1 x2 x3 x4 x5 x6 x7 x8 x9 xA hlt1
    obtain ⟨W7, hW7⟩ : ∃ zz, zz = World.drew w5 := ⟨_, rfl⟩
    refine wp_region_flow [([0, 2, 3, 6, 9, 1, 4, 7, 5, 8], some (10, [true])), ([11, 12], none)] (by kernel_rfl) (by kernel_rfl) ?_
    rw [show ({ w5 with drawn := w5.drawn + 1 } : World) = W7 from hW7.symm]
    replace hW7 := Hidd.mk hW7
    simp only [opsF, List.map_cons, List.map_nil, List.getD_cons_succ, List.getD_cons_zero, Option.map]
    have ho2 := Hidd.mk (show Own w (fun _ => False) W7 _ by rw [hW7.out]; exact ho5.out.drew)
    clear hW7 ho5
    obtain ⟨x0, x1, x2, x3, x4, x5, x6, x7, x8, x9, xA⟩ := cells11 ho2.out 0 rfl
    have hpl1 := ho2.out.lt 0 rfl
    refine FlW.stage (fun zz => Kept (fun _ => False) W7 zz) (Kept.refl _ _) ?_
    repeat (first | (refine StQ.skip (by rfl) ?_; simp only [Act.put, List.setIfInBounds_toArray, List.set_cons_zero, List.set_cons_succ]) | (refine StQ.go' (by rfl) (Exists.intro ?_ (And.intro (fun w' hS => ?_) ?_)); rotate_left; (focus (have hc := Kept.cell0 hS; go_simp; try with_reducible rfl)); simp only [Act.put, List.setIfInBounds_toArray, List.set_cons_zero, List.set_cons_succ]))
    refine StQ.nil ?_
    refine FlO.go (by rfl) (fun K hK => ?_)
    go_simp
    (refine (rdrift_any n f sl gp rh d0 d1 mg PA pn pc OA on oc RA rn rc _ hs.out).mono ?_; rintro e w8 ⟨rfl, hb8⟩; rw [hDe.out]; have ho8 := Hidd.mk (ho2.out.ext hb8))
    refine hK.out _ _ (.inr ⟨Kept.below hb8, trivial⟩) ?_
    clear hK K
    clear x0 x1 x2 x3 x4 x5 x6 x7 x8 x9 xA ho2 hb8 hpl1
    refine FlW.heads (fun zz => zz = _) rfl ?_
    repeat (first | (refine StQ.skip (by rfl) ?_; simp only [Act.put, List.setIfInBounds_toArray, List.set_cons_zero, List.set_cons_succ]) | (refine StQ.go' (by rfl) (Exists.intro ?_ (And.intro (fun w' hS => ?_) ?_)); rotate_left; (focus (rw [hS]; go_simp; try with_reducible rfl)); simp only [Act.put, List.setIfInBounds_toArray, List.set_cons_zero, List.set_cons_succ]))
    refine StQ.nil ?_
    refine FlW.nil (Calm.normal ?_)
    obtain ⟨x0, x1, x2, x3, x4, x5, x6, x7, x8, x9, xA⟩ := cells11 ho8.out 0 rfl
    have hlt1 := ho8.out.lt 0 rfl
    go_wp2_with (go_at_call 51; have hq := ho8.out; clear hq; refine (at_any 75 (-1) _ (by decide) (by decide) (by omega) (by omega)).mono ?_; rintro e w9 ⟨rfl, hb9⟩; have ho9 := Hidd.mk (ho8.out.ext hb9); clear hb9)
    go_ret
    exact ⟨rfl, ho9.out.below fun _ => id⟩
  rw [if_neg c4] at her
  have dd4 : decide (gp < 2 * mg + 2 * P) = false := by rw [decide_eq_false_iff_not]; omega
  clear c1 c2 c3 c4
  replace her := Hidd.mk her
  · skip
    go_enter Try.func23, Try.ntmps23
    go_wp2_with (first
      | (go_at_call 32; refine (refTab_any n f sl gp rh d0 d1 mg PA pn pc OA on oc RA rn rc ps qs rs _ hP1.out hQ1.out hR1.out oP.out oQ.out _ ht.out).mono ?_; rintro e w1 ⟨rfl, hb⟩; rw [show textE none = ⟨#[]⟩ from rfl]; have ho1 := Hidd.mk (ho.out.ext hb); clear hb ho; obtain ⟨x0, x1, x2, x3, x4, x5, x6, x7, x8, x9, xA⟩ := cells11 ho1.out 0 rfl; have hlt1 := ho1.out.lt 0 rfl)
      | (go_at_call 56; refine (rprec_any n f sl gp rh d0 d1 mg PA pn pc OA on oc RA rn rc _ hs.out).mono ?_; rintro e w5 ⟨rfl, hb5⟩; rw [hDe.out, hPe.out]; have ho5 := Hidd.mk (ho1.out.ext hb5); clear ho1 hb5 x0 x1 x2 x3 x4 x5 x6 x7 x8 x9 xA hlt1; obtain ⟨x0, x1, x2, x3, x4, x5, x6, x7, x8, x9, xA⟩ := cells11 ho5.out 0 rfl; have hlt1 := ho5.out.lt 0 rfl))
    generalize w.heap.size = p1 at ho5 ⊢
    clear x0 x1 x2 x3 x4 x5 x6 x7 x8 x9 xA hlt1
    obtain ⟨W7, hW7⟩ : ∃ zz, zz = World.drew w5 := ⟨_, rfl⟩
    refine wp_region_flow [([0, 2, 3, 6, 9, 1, 4, 7, 5, 8], some (10, [true])), ([11, 12], none)] (by kernel_rfl) (by kernel_rfl) ?_
    rw [show ({ w5 with drawn := w5.drawn + 1 } : World) = W7 from hW7.symm]
    replace hW7 := Hidd.mk hW7
    simp only [opsF, List.map_cons, List.map_nil, List.getD_cons_succ, List.getD_cons_zero, Option.map]
    have ho2 := Hidd.mk (show Own w (fun _ => False) W7 _ by rw [hW7.out]; exact ho5.out.drew)
    clear hW7 ho5
    obtain ⟨x0, x1, x2, x3, x4, x5, x6, x7, x8, x9, xA⟩ := cells11 ho2.out 0 rfl
    have hpl1 := ho2.out.lt 0 rfl
    refine FlW.stage (fun zz => Kept (fun _ => False) W7 zz) (Kept.refl _ _) ?_
    repeat (first | (refine StQ.skip (by rfl) ?_; simp only [Act.put, List.setIfInBounds_toArray, List.set_cons_zero, List.set_cons_succ]) | (refine StQ.go' (by rfl) (Exists.intro ?_ (And.intro (fun w' hS => ?_) ?_)); rotate_left; (focus (have hc := Kept.cell0 hS; go_simp; try with_reducible rfl)); simp only [Act.put, List.setIfInBounds_toArray, List.set_cons_zero, List.set_cons_succ]))
    refine StQ.nil ?_
    refine FlO.go (by rfl) (fun K hK => ?_)
    go_simp
    (refine (rdrift_any n f sl gp rh d0 d1 mg PA pn pc OA on oc RA rn rc _ hs.out).mono ?_; rintro e w8 ⟨rfl, hb8⟩; rw [hDe.out]; have ho8 := Hidd.mk (ho2.out.ext hb8))
    refine hK.out _ _ (.inr ⟨Kept.below hb8, trivial⟩) ?_
    clear hK K
    clear x0 x1 x2 x3 x4 x5 x6 x7 x8 x9 xA ho2 hb8 hpl1
    refine FlW.heads (fun zz => zz = _) rfl ?_
    repeat (first | (refine StQ.skip (by rfl) ?_; simp only [Act.put, List.setIfInBounds_toArray, List.set_cons_zero, List.set_cons_succ]) | (refine StQ.go' (by rfl) (Exists.intro ?_ (And.intro (fun w' hS => ?_) ?_)); rotate_left; (focus (rw [hS]; go_simp; try with_reducible rfl)); simp only [Act.put, List.setIfInBounds_toArray, List.set_cons_zero, List.set_cons_succ]))
    refine StQ.nil ?_
    refine FlW.nil (Calm.normal ?_)
    obtain ⟨x0, x1, x2, x3, x4, x5, x6, x7, x8, x9, xA⟩ := cells11 ho8.out 0 rfl
    have hlt1 := ho8.out.lt 0 rfl
    go_wp2
    clear dd1 dd2 dd3 dd4 e1 e2 e3 x0 x1 x2 x3 x4 x5 x6 x7 x8 x9 xA hlt1
    go_loopw [5] (fun v5 wr => ∃ i : Nat, v5 = .int .i64 i ∧ i ≤ pn ∧ Hidd (winF N (ps.take i) (ps.drop i) i = winF N [] ps 0) ∧ Hidd (Own w (fun _ => False) wr [blk p1 (.cells #[.int .i64 n, .int .i64 f, .int .i64 sl, .int .i64 gp, .int .i64 rh, .int .i64 d0, .int .i64 d1, .int .i64 mg, .slice PA pn pc, .slice OA on oc, .slice RA rn rc] 26)])) (fun v5 _ => pn - (intOf v5).toNat)
    case atStart => exact ⟨0, rfl, Nat.zero_le _, ⟨rfl⟩, ho8⟩
    case round =>
      clear ho8
      obtain ⟨i, rfl, hil, hre, ho⟩ := hrel
      obtain ⟨x0, x1, x2, x3, x4, x5, x6, x7, x8, x9, xA⟩ := cells11 ho.out 0 rfl
      have hlt1 := ho.out.lt 0 rfl
      by_cases hlt : i < pn
      · obtain ⟨p, hp⟩ : ∃ x, ps[i]? = some x := ⟨_, List.getElem?_eq_getElem (by rw [hpl.out]; exact hlt)⟩
        obtain ⟨i1, i2, i3, i4⟩ := hi.out p (List.mem_of_getElem? hp)
        obtain ⟨a, rfl, y0, y1, y2, y3, y4, y5, y6, y7, y8⟩ := (hP.out.below (ho.out.below fun _ => id)).part hp
        have hdr := hre.out
        rw [winF_step hp] at hdr
        have hyl := World.block_lt_of_cell? wr _ y0
        have bi0 : (0 : Int) ≤ (i : Int) := by omega
        have bi1 : (i : Int) < (pn : Int) := by omega
        clear hp hre
        obtain ⟨q0, q1, q2, q3, q4, q5, q6, q7, q8⟩ := p
        simp only at y0 y1 y2 y3 y4 y5 y6 y7 y8 i1 i2 i3 i4
        unfold winBad at hdr
        simp only at hdr
        obtain ⟨bb0, hbb0⟩ : ∃ bb0, decide (N < q1 + q2) = bb0 := ⟨_, rfl⟩
        rw [hbb0] at hdr
        replace hdr := Hidd.mk hdr
        have ho4 := Hidd.mk (ho.out.alloc (.cells #[.int .i64 q0, .int .i64 q1, .int .i64 q2, .int .i64 q3, .int .i64 q4, .int .u8 (q5 : Int), .int .u8 (q6 : Int), .int .u8 (q7 : Int), .int .u8 (q8 : Int)] 38))
        go_wp2
        clear hbb0
        generalize wr.heap.size = p4 at ho4 ⊢
        generalize World.alloc wr _ = wb at ho4 ⊢
        clear x0 x1 x2 x3 x4 x5 x6 x7 x8 x9 xA y0 y1 y2 y3 y4 y5 y6 y7 y8 hyl hlt1
        go_loopw [7, 8] (fun v7 v8 wz => ∃ (k : Nat) (bb : Bool), v7 = .bool bb ∧ v8 = .int .i64 k ∧ k ≤ i ∧ Hidd (bb = (bb0 || (ps.take k).any (clash ⟨q0, q1, q2, q3, q4, q5, q6, q7, q8⟩))) ∧ Hidd (Own w (fun _ => False) wz [blk p4 (.cells #[.int .i64 q0, .int .i64 q1, .int .i64 q2, .int .i64 q3, .int .i64 q4, .int .u8 (q5 : Int), .int .u8 (q6 : Int), .int .u8 (q7 : Int), .int .u8 (q8 : Int)] 38), blk p1 (.cells #[.int .i64 n, .int .i64 f, .int .i64 sl, .int .i64 gp, .int .i64 rh, .int .i64 d0, .int .i64 d1, .int .i64 mg, .slice (some a) pn pc, .slice OA on oc, .slice RA rn rc] 26)])) (fun _ v8 _ => i - (intOf v8).toNat)
        case atStart => exact ⟨0, bb0, rfl, rfl, Nat.zero_le _, ⟨by simp⟩, ho4⟩
        case round =>
          clear ho4
          obtain ⟨k, bb, rfl, rfl, hk, hcl, ho4⟩ := hrel
          obtain ⟨x0, x1, x2, x3, x4, x5, x6, x7, x8, x9, xA⟩ := cells11 ho4.out 1 rfl
          have hlt1 := ho4.out.lt 1 rfl
          by_cases hlk : k < i
          · obtain ⟨q, hq⟩ : ∃ x, ps[k]? = some x := ⟨_, List.getElem?_eq_getElem (by rw [hpl.out]; omega)⟩
            obtain ⟨j1, j2, j3, j4⟩ := hi.out q (List.mem_of_getElem? hq)
            obtain ⟨a', ea, y0, y1, y2, y3, y4, y5, y6, y7, y8⟩ := (hP.out.below (ho4.out.below fun _ => id)).part hq
            injection ea with ea
            subst ea
            have hst := any_take (f := clash ⟨q0, q1, q2, q3, q4, q5, q6, q7, q8⟩) hq
            have z0 := ho4.out.cell 0 rfl 0
            have z1 := ho4.out.cell 0 rfl 1
            have z2 := ho4.out.cell 0 rfl 2
            simp at z0 z1 z2
            have hyl := World.block_lt_of_cell? _ _ y0
            have hpl4 := ho4.out.lt 0 rfl
            have bk0 : (0 : Int) ≤ (k : Int) := by omega
            have bk1 : (k : Int) < (pn : Int) := by omega
            have bk2 : (k : Int) < (i : Int) := by omega
            clear hq
            obtain ⟨u0, u1, u2, u3, u4, u5, u6, u7, u8⟩ := q
            simp only at y0 y1 y2 y3 y4 y5 y6 y7 y8 j1 j2 j3 j4
            have hst2 : (ps.take (k + 1)).any (clash ⟨q0, q1, q2, q3, q4, q5, q6, q7, q8⟩) = ((ps.take k).any (clash ⟨q0, q1, q2, q3, q4, q5, q6, q7, q8⟩) || (decide (u0 = q0) && (decide (q1 < u1 + u2) && decide (u1 < q1 + q2)))) := hst
            clear hst
            replace hst2 := Hidd.mk hst2
            by_cases c0 : u0 = q0
            · have e0 : (u0 == q0) = true := by simpa using c0
              by_cases c1 : q1 < u1 + u2
              · have e1 : decide (u1 + u2 ≤ q1) = false := by rw [decide_eq_false_iff_not]; omega
                by_cases c2 : u1 < q1 + q2
                · have e2 : decide (q1 + q2 ≤ u1) = false := by rw [decide_eq_false_iff_not]; omega
                  have hn : Hidd (true = (bb0 || (ps.take (k + 1)).any (clash ⟨q0, q1, q2, q3, q4, q5, q6, q7, q8⟩))) := ⟨by rw [hst2.out]; simp [c0, c1, c2]⟩
                  clear c0 c1 c2
                  go_wp2
                  go_roundw
                  case rel => exact ⟨k + 1, true, rfl, by go_num, by omega, hn, ⟨(ho4.out.alloc _).tail⟩⟩
                  case measure => (simp [intOf]; try omega)
                · have e2 : decide (q1 + q2 ≤ u1) = true := by rw [decide_eq_true_eq]; omega
                  have hn : Hidd (bb = (bb0 || (ps.take (k + 1)).any (clash ⟨q0, q1, q2, q3, q4, q5, q6, q7, q8⟩))) := ⟨by rw [hst2.out, hcl.out]; simp [c2]⟩
                  clear c0 c1 c2
                  go_wp2
                  go_roundw
                  case rel => exact ⟨k + 1, bb, rfl, by go_num, by omega, hn, ⟨(ho4.out.alloc _).tail⟩⟩
                  case measure => (simp [intOf]; try omega)
              · have e1 : decide (u1 + u2 ≤ q1) = true := by rw [decide_eq_true_eq]; omega
                have hn : Hidd (bb = (bb0 || (ps.take (k + 1)).any (clash ⟨q0, q1, q2, q3, q4, q5, q6, q7, q8⟩))) := ⟨by rw [hst2.out, hcl.out]; simp [c1]⟩
                clear c0 c1
                go_wp2
                go_roundw
                case rel => exact ⟨k + 1, bb, rfl, by go_num, by omega, hn, ⟨(ho4.out.alloc _).tail⟩⟩
                case measure => (simp [intOf]; try omega)
            · have e0 : (u0 == q0) = false := by simpa using c0
              have hn : Hidd (bb = (bb0 || (ps.take (k + 1)).any (clash ⟨q0, q1, q2, q3, q4, q5, q6, q7, q8⟩))) := ⟨by rw [hst2.out, hcl.out]; simp [c0]⟩
              clear c0
              go_wp2
              go_roundw
              case rel => exact ⟨k + 1, bb, rfl, by go_num, by omega, hn, ⟨(ho4.out.alloc _).tail⟩⟩
              case measure => (simp [intOf]; try omega)
          · obtain rfl : k = i := by omega
            rcases bb with _ | _
            · have hn : Hidd (winF N (ps.take (k + 1)) (ps.drop (k + 1)) (k + 1) = winF N [] ps 0) := ⟨by rw [← hdr.out, ← hcl.out]; rfl⟩
              go_wp2
              go_roundw
              case rel => exact ⟨k + 1, by go_num, by omega, hn, ⟨ho4.out.tail⟩⟩
              case measure => (simp [intOf]; try omega)
            · have hres : Hidd (er = some (71, (k : Int))) := ⟨by rw [← her.out, ← hdr.out, ← hcl.out]; rfl⟩
              go_wp2_with (go_at_call 51; have hq := ho4.out; clear hq; refine (at_any 71 (k : Int) _ (by decide) (by decide) (by omega) (by omega)).mono ?_; rintro e w9 ⟨rfl, hb9⟩; have ho9 := Hidd.mk (ho4.out.ext hb9); clear hb9)
              go_ret
              exact ⟨ret_str (by rw [hres.out]; rfl), ho9.out.below fun _ => id⟩
      · obtain rfl : i = pn := by omega
        have hm0 : winF N [] ps 0 = none := by
          rw [← hre.out, List.drop_of_length_le (by rw [hpl.out]; exact Nat.le_refl _)]
          rfl
        have e1 := her.out
        rw [hm0] at e1
        clear her hre hm0 hlt hil
        have her := Hidd.mk e1
        clear e1
        go_wp2
        clear x0 x1 x2 x3 x4 x5 x6 x7 x8 x9 xA hlt1
        go_loopw [10] (fun v10 wr => ∃ j : Nat, v10 = .int .i64 j ∧ j ≤ rn ∧ Hidd (rouF qs (rs.take j) (rs.drop j) j = rouF qs [] rs 0) ∧ Hidd (Own w (fun _ => False) wr [blk p1 (.cells #[.int .i64 n, .int .i64 f, .int .i64 sl, .int .i64 gp, .int .i64 rh, .int .i64 d0, .int .i64 d1, .int .i64 mg, .slice PA i pc, .slice OA on oc, .slice RA rn rc] 26)])) (fun v10 _ => rn - (intOf v10).toNat)
        case atStart => exact ⟨0, rfl, Nat.zero_le _, ⟨rfl⟩, ho⟩
        case round =>
          clear ho
          obtain ⟨j, rfl, hjl, hre, ho⟩ := hrel
          obtain ⟨x0, x1, x2, x3, x4, x5, x6, x7, x8, x9, xA⟩ := cells11 ho.out 0 rfl
          have hlt1 := ho.out.lt 0 rfl
          by_cases hlt : j < rn
          · obtain ⟨p, hp⟩ : ∃ x, rs[j]? = some x := ⟨_, List.getElem?_eq_getElem (by rw [hrl.out]; exact hlt)⟩
            obtain ⟨s, t, rfl, hs', ht'⟩ := rt_nat (hrt.out p (List.mem_of_getElem? hp))
            obtain ⟨qa, hqa⟩ : ∃ x, qs[s]? = some x := ⟨_, List.getElem?_eq_getElem (by rw [hql.out]; exact hs')⟩
            obtain ⟨qb, hqb⟩ : ∃ x, qs[t]? = some x := ⟨_, List.getElem?_eq_getElem (by rw [hql.out]; exact ht')⟩
            have hR2 := Hidd.mk fun (W : World) (h : Below w.heap.size w W) => (hR.out.below h).route hp
            have hdr := hre.out
            rw [rouF_step hp, rouBad] at hdr
            simp only [qat_nat _ _ _ hqa, qat_nat _ _ _ hqb] at hdr
            replace hdr := Hidd.mk hdr
            have bi0 : (0 : Int) ≤ (j : Int) := by omega
            have bi1 : (j : Int) < (rn : Int) := by omega
            have bs0 : (0 : Int) ≤ (s : Int) := by omega
            have bs1 : (s : Int) < (on : Int) := by omega
            have bt0 : (0 : Int) ≤ (t : Int) := by omega
            have bt1 : (t : Int) < (on : Int) := by omega
            clear hp hre
            go_wp2
            clear x0 x1 x2 x3 x4 x5 x6 x7 x8 x9 xA hlt1
            obtain ⟨b0, b1, b2, b3, b4, b5⟩ := qa
            obtain ⟨c0, c1, c2, c3, c4, c5⟩ := qb
            go_cut [11, 12] (fun v11 v12 wx => ∃ p5 p6 : Nat, v11 = .pointer (some ⟨p5, 0, none⟩) ∧ v12 = .pointer (some ⟨p6, 0, none⟩) ∧ Hidd (Own w (fun _ => False) wx [blk p6 (.cells #[.int .i64 c0, .int .u8 (c1 : Nat), .bool c2, .int .i64 c3, .int .i64 c4, .int .i64 c5] 44), blk p5 (.cells #[.int .i64 b0, .int .u8 (b1 : Nat), .bool b2, .int .i64 b3, .int .i64 b4, .int .i64 b5] 44), blk p1 (.cells #[.int .i64 n, .int .i64 f, .int .i64 sl, .int .i64 gp, .int .i64 rh, .int .i64 d0, .int .i64 d1, .int .i64 mg, .slice PA i pc, .slice OA on oc, .slice RA rn rc] 26)]))
            case first =>
              obtain ⟨W0, hW0⟩ : ∃ zz, zz = World.drew wr := ⟨_, rfl⟩
              refine wp_region_tree (.two [0, 2, 4, 10, 12, 14, 1, 3, 11, 13, 5, 15, 6, 16, 7, 17, 8, 18, 9, 19] 20 [true] (.one [] 21 [false, true] (.one [] 22 [false, false, true] (.one [] 23 [false, false, false, false] (.leaf [])))) 21 [true] (.one [] 20 [false, true] (.one [] 22 [false, false, true] (.one [] 23 [false, false, false, false] (.leaf []))))) (by kernel_rfl) (by kernel_rfl) ?_
              rw [show ({ wr with drawn := wr.drawn + 1 } : World) = W0 from hW0.symm]
              replace hW0 := Hidd.mk hW0
              simp only [Tr.map, List.map_cons, List.map_nil, List.getD_cons_succ, List.getD_cons_zero]
              have ho2 := Hidd.mk (show Own w (fun _ => False) W0 _ by rw [hW0.out]; exact ho.out.drew)
              clear hW0 ho
              obtain ⟨x0, x1, x2, x3, x4, x5, x6, x7, x8, x9, xA⟩ := cells11 ho2.out 0 rfl
              obtain ⟨a, rfl, y0, y1⟩ := hR2.out _ (ho2.out.below fun _ => id)
              (try simp only at y0 y1)
              obtain ⟨aq, rfl, u0, u1, u2, u3, u4, u5⟩ := (hQ.out.below (ho2.out.below fun _ => id)).port hqa
              obtain ⟨aq', eq, v0, v1, v2, v3, v4, v5⟩ := (hQ.out.below (ho2.out.below fun _ => id)).port hqb
              injection eq with eq
              subst eq
              simp only at u0 u1 u2 u3 u4 u5 v0 v1 v2 v3 v4 v5
              have hpl := ho2.out.lt 0 rfl
              have hyl := World.block_lt_of_cell? W0 _ y0
              have hul := World.block_lt_of_cell? W0 _ u0
              have hul2 := World.block_lt_of_cell? W0 _ v0
              have ho := Hidd.mk (Own.nil W0 (fun _ => False))
              clear hqa hqb
              refine TrW.two (fun zz => Kept (fun _ => False) W0 zz) (Kept.refl _ _) ?_
              repeat (first | (refine StQ.skip (by rfl) ?_; simp only [Act.put, List.setIfInBounds_toArray, List.set_cons_zero, List.set_cons_succ]) | (refine StQ.go' (by rfl) (Exists.intro ?_ (And.intro (fun w' hS => ?_) ?_)); rotate_left; (focus (have hc := Kept.cell0 hS; go_simp; try with_reducible rfl)); simp only [Act.put, List.setIfInBounds_toArray, List.set_cons_zero, List.set_cons_succ]))
              refine StQ.nil ?_
              clear x0 x1 x2 x3 x4 x5 x6 x7 x8 x9 xA y0 y1 u0 u1 u2 u3 u4 u5 v0 v1 v2 v3 v4 v5 hyl hul hul2
              refine ⟨?_, ?_⟩
              focus
                (refine TrO.go (by rfl) (fun K hK => ?_); go_simp; have ho1 := ho.out.alloc (.cells #[.int .i64 0, .int .u8 0, .bool false, .int .i64 0, .int .i64 0, .int .i64 0] 44); refine hK.out _ _ (.inr (by first | exact ⟨ho1.kept, trivial⟩ | exact trivial)) ?_; clear hK K ho; generalize (World.heap _).size = p5 at ho1 ⊢; generalize World.alloc _ _ = W1 at ho1 ⊢; have ho := Hidd.mk ho1; clear ho1)
                (refine TrW.one (fun _ => True) trivial (StQ.nil ?_))
                (refine TrO.go (by rfl) (fun K hK => ?_); go_simp; have ho1 := ho.out.alloc (.cells #[.int .i64 0, .int .u8 0, .bool false, .int .i64 0, .int .i64 0, .int .i64 0] 44); refine hK.out _ _ (.inr (by first | exact ⟨ho1.kept, trivial⟩ | exact trivial)) ?_; clear hK K ho; generalize (World.heap _).size = p6 at ho1 ⊢; generalize World.alloc _ _ = W1 at ho1 ⊢; have ho := Hidd.mk ho1; clear ho1)
                (refine TrW.one (fun _ => True) trivial (StQ.nil ?_))
                (refine TrO.go (by rfl) (fun K hK => ?_); have e0 := ho.out.cell 1 rfl 0; have f0 := ho.out.frozen 1 rfl 0; have e1 := ho.out.cell 1 rfl 1; have f1 := ho.out.frozen 1 rfl 1; have e2 := ho.out.cell 1 rfl 2; have f2 := ho.out.frozen 1 rfl 2; have e3 := ho.out.cell 1 rfl 3; have f3 := ho.out.frozen 1 rfl 3; have e4 := ho.out.cell 1 rfl 4; have f4 := ho.out.frozen 1 rfl 4; have e5 := ho.out.cell 1 rfl 5; have f5 := ho.out.frozen 1 rfl 5; simp at e0 e1 e2 e3 e4 e5; go_simp; have ho1 := (((((ho.out.set 1 rfl 0 (.int .i64 b0)).set 1 rfl 1 (.int .u8 (b1 : Nat))).set 1 rfl 2 (.bool b2)).set 1 rfl 3 (.int .i64 b3)).set 1 rfl 4 (.int .i64 b4)).set 1 rfl 5 (.int .i64 b5); simp only [List.set_cons_zero, List.set_cons_succ, List.setIfInBounds_toArray] at ho1; refine hK.out _ _ (.inr (by first | exact ⟨ho1.kept, trivial⟩ | exact trivial)) ?_; clear hK K ho e0 e1 e2 e3 e4 e5 f0 f1 f2 f3 f4 f5; generalize World.setCell _ _ _ = W1 at ho1 ⊢; have ho := Hidd.mk ho1; clear ho1)
                (refine TrW.one (fun _ => True) trivial (StQ.nil ?_))
                (refine TrO.go (by rfl) (fun K hK => ?_); have e0 := ho.out.cell 0 rfl 0; have f0 := ho.out.frozen 0 rfl 0; have e1 := ho.out.cell 0 rfl 1; have f1 := ho.out.frozen 0 rfl 1; have e2 := ho.out.cell 0 rfl 2; have f2 := ho.out.frozen 0 rfl 2; have e3 := ho.out.cell 0 rfl 3; have f3 := ho.out.frozen 0 rfl 3; have e4 := ho.out.cell 0 rfl 4; have f4 := ho.out.frozen 0 rfl 4; have e5 := ho.out.cell 0 rfl 5; have f5 := ho.out.frozen 0 rfl 5; simp at e0 e1 e2 e3 e4 e5; go_simp; have ho1 := (((((ho.out.set 0 rfl 0 (.int .i64 c0)).set 0 rfl 1 (.int .u8 (c1 : Nat))).set 0 rfl 2 (.bool c2)).set 0 rfl 3 (.int .i64 c3)).set 0 rfl 4 (.int .i64 c4)).set 0 rfl 5 (.int .i64 c5); simp only [List.set_cons_zero, List.set_cons_succ, List.setIfInBounds_toArray] at ho1; refine hK.out _ _ (.inr (by first | exact ⟨ho1.kept, trivial⟩ | exact trivial)) ?_; clear hK K ho e0 e1 e2 e3 e4 e5 f0 f1 f2 f3 f4 f5; generalize World.setCell _ _ _ = W1 at ho1 ⊢; have ho := Hidd.mk ho1; clear ho1)
                (refine TrW.leaf (fun _ => True) trivial (StQ.nil ?_))
                refine Calm.normal ?_
                have hL := Hidd.mk ((ho2.out.madeL ho.out).reorder (M := [blk p6 (.cells #[.int .i64 c0, .int .u8 (c1 : Nat), .bool c2, .int .i64 c3, .int .i64 c4, .int .i64 c5] 44), blk p5 (.cells #[.int .i64 b0, .int .u8 (b1 : Nat), .bool b2, .int .i64 b3, .int .i64 b4, .int .i64 b5] 44), blk p1 (.cells #[.int .i64 n, .int .i64 f, .int .i64 sl, .int .i64 gp, .int .i64 rh, .int .i64 d0, .int .i64 d1, .int .i64 mg, .slice PA i pc, .slice (some aq) on oc, .slice (some a) rn rc] 26)]) [0, 1, 2] rfl (by decide))
                clear ho ho2 hpl
                first | go_meet | (go_wp2_with fail; go_meet)
                case rel => exact ⟨_, _, rfl, rfl, hL⟩
              rotate_left
              focus
                (refine TrO.go (by rfl) (fun K hK => ?_); go_simp; have ho1 := ho.out.alloc (.cells #[.int .i64 0, .int .u8 0, .bool false, .int .i64 0, .int .i64 0, .int .i64 0] 44); refine hK.out _ _ (.inr (by first | exact ⟨ho1.kept, trivial⟩ | exact trivial)) ?_; clear hK K ho; generalize (World.heap _).size = p6 at ho1 ⊢; generalize World.alloc _ _ = W1 at ho1 ⊢; have ho := Hidd.mk ho1; clear ho1)
                (refine TrW.one (fun _ => True) trivial (StQ.nil ?_))
                (refine TrO.go (by rfl) (fun K hK => ?_); go_simp; have ho1 := ho.out.alloc (.cells #[.int .i64 0, .int .u8 0, .bool false, .int .i64 0, .int .i64 0, .int .i64 0] 44); refine hK.out _ _ (.inr (by first | exact ⟨ho1.kept, trivial⟩ | exact trivial)) ?_; clear hK K ho; generalize (World.heap _).size = p5 at ho1 ⊢; generalize World.alloc _ _ = W1 at ho1 ⊢; have ho := Hidd.mk ho1; clear ho1)
                (refine TrW.one (fun _ => True) trivial (StQ.nil ?_))
                (refine TrO.go (by rfl) (fun K hK => ?_); have e0 := ho.out.cell 0 rfl 0; have f0 := ho.out.frozen 0 rfl 0; have e1 := ho.out.cell 0 rfl 1; have f1 := ho.out.frozen 0 rfl 1; have e2 := ho.out.cell 0 rfl 2; have f2 := ho.out.frozen 0 rfl 2; have e3 := ho.out.cell 0 rfl 3; have f3 := ho.out.frozen 0 rfl 3; have e4 := ho.out.cell 0 rfl 4; have f4 := ho.out.frozen 0 rfl 4; have e5 := ho.out.cell 0 rfl 5; have f5 := ho.out.frozen 0 rfl 5; simp at e0 e1 e2 e3 e4 e5; go_simp; have ho1 := (((((ho.out.set 0 rfl 0 (.int .i64 b0)).set 0 rfl 1 (.int .u8 (b1 : Nat))).set 0 rfl 2 (.bool b2)).set 0 rfl 3 (.int .i64 b3)).set 0 rfl 4 (.int .i64 b4)).set 0 rfl 5 (.int .i64 b5); simp only [List.set_cons_zero, List.set_cons_succ, List.setIfInBounds_toArray] at ho1; refine hK.out _ _ (.inr (by first | exact ⟨ho1.kept, trivial⟩ | exact trivial)) ?_; clear hK K ho e0 e1 e2 e3 e4 e5 f0 f1 f2 f3 f4 f5; generalize World.setCell _ _ _ = W1 at ho1 ⊢; have ho := Hidd.mk ho1; clear ho1)
                (refine TrW.one (fun _ => True) trivial (StQ.nil ?_))
                (refine TrO.go (by rfl) (fun K hK => ?_); have e0 := ho.out.cell 1 rfl 0; have f0 := ho.out.frozen 1 rfl 0; have e1 := ho.out.cell 1 rfl 1; have f1 := ho.out.frozen 1 rfl 1; have e2 := ho.out.cell 1 rfl 2; have f2 := ho.out.frozen 1 rfl 2; have e3 := ho.out.cell 1 rfl 3; have f3 := ho.out.frozen 1 rfl 3; have e4 := ho.out.cell 1 rfl 4; have f4 := ho.out.frozen 1 rfl 4; have e5 := ho.out.cell 1 rfl 5; have f5 := ho.out.frozen 1 rfl 5; simp at e0 e1 e2 e3 e4 e5; go_simp; have ho1 := (((((ho.out.set 1 rfl 0 (.int .i64 c0)).set 1 rfl 1 (.int .u8 (c1 : Nat))).set 1 rfl 2 (.bool c2)).set 1 rfl 3 (.int .i64 c3)).set 1 rfl 4 (.int .i64 c4)).set 1 rfl 5 (.int .i64 c5); simp only [List.set_cons_zero, List.set_cons_succ, List.setIfInBounds_toArray] at ho1; refine hK.out _ _ (.inr (by first | exact ⟨ho1.kept, trivial⟩ | exact trivial)) ?_; clear hK K ho e0 e1 e2 e3 e4 e5 f0 f1 f2 f3 f4 f5; generalize World.setCell _ _ _ = W1 at ho1 ⊢; have ho := Hidd.mk ho1; clear ho1)
                (refine TrW.leaf (fun _ => True) trivial (StQ.nil ?_))
                refine Calm.normal ?_
                have hL := Hidd.mk ((ho2.out.madeL ho.out).reorder (M := [blk p6 (.cells #[.int .i64 c0, .int .u8 (c1 : Nat), .bool c2, .int .i64 c3, .int .i64 c4, .int .i64 c5] 44), blk p5 (.cells #[.int .i64 b0, .int .u8 (b1 : Nat), .bool b2, .int .i64 b3, .int .i64 b4, .int .i64 b5] 44), blk p1 (.cells #[.int .i64 n, .int .i64 f, .int .i64 sl, .int .i64 gp, .int .i64 rh, .int .i64 d0, .int .i64 d1, .int .i64 mg, .slice PA i pc, .slice (some aq) on oc, .slice (some a) rn rc] 26)]) [1, 0, 2] rfl (by decide))
                clear ho ho2 hpl
                first | go_meet | (go_wp2_with fail; go_meet)
                case rel => exact ⟨_, _, rfl, rfl, hL⟩
            case rest =>
              obtain ⟨p5, p6, rfl, rfl, hL⟩ := hcut
              obtain ⟨W9, rfl⟩ : ∃ W9, W9 = wc := ⟨_, rfl⟩
              obtain ⟨a, rfl, _, _⟩ := hR2.out _ (hL.out.below fun _ => id)
              clear hqa hqb
              obtain ⟨x0, x1, x2, x3, x4, x5, x6, x7, x8, x9, xA⟩ := cells11 hL.out 2 rfl
              have z1 := hL.out.cell 1 rfl 1
              have z2 := hL.out.cell 1 rfl 2
              have z3 := hL.out.cell 1 rfl 3
              have t1 := hL.out.cell 0 rfl 1
              have t2 := hL.out.cell 0 rfl 2
              have t3 := hL.out.cell 0 rfl 3
              simp at z1 z2 z3 t1 t2 t3
              obtain ⟨E, hE⟩ : ∃ E, ends ⟨b0, b1, b2, b3, b4, b5⟩ ⟨c0, c1, c2, c3, c4, c5⟩ = E := ⟨_, rfl⟩
              have hdd := hdr.out
              rw [hE] at hdd
              have hdr2 := Hidd.mk hdd
              clear hdd hdr
              simp only [ends] at hE
              rw [knd] at hE
              replace hE := Hidd.mk hE
              go_upto_region 30 with fail
              go_cut [13] (fun v13 wx => v13 = .bool E ∧ wx = W9)
              case first =>
                replace hE := hE.out
                rcases four b2 c2 ((b1 : Int) != (c1 : Int)) (decide (c3 < b3)) with rfl | ⟨rfl, rfl⟩ | ⟨rfl, rfl, ek⟩ | ⟨rfl, rfl, ek, em⟩ | ⟨rfl, rfl, ek, em⟩
                all_goals (first | rw [ek, em] at hE | rw [ek] at hE | skip)
                all_goals simp only [Bool.not_true, Bool.not_false, Bool.true_or, Bool.or_true, Bool.or_false] at hE
                all_goals replace hE := Hidd.mk hE
                all_goals go_wp2_with fail
                all_goals go_meet
                all_goals (case rel => exact ⟨by rw [← hE.out], rfl⟩)
              case rest =>
                obtain ⟨rfl, rfl⟩ := hcut
                clear x0 x1 x2 x3 x4 x5 x6 x7 x8 x9 xA z1 z2 z3 t1 t2 t3
                go_wp2
                go_loopw [13, 14] (fun v13 v14 wz => ∃ (k : Nat) (bb : Bool), v13 = .bool bb ∧ v14 = .int .i64 k ∧ k ≤ j ∧ Hidd (bb = (E || (rs.take k).any (same ⟨(s : Int), (t : Int)⟩))) ∧ Hidd (Own w (fun _ => False) wz [blk p1 (.cells #[.int .i64 n, .int .i64 f, .int .i64 sl, .int .i64 gp, .int .i64 rh, .int .i64 d0, .int .i64 d1, .int .i64 mg, .slice PA i pc, .slice OA on oc, .slice (some a) rn rc] 26)])) (fun _ v14 _ => j - (intOf v14).toNat)
                case atStart => exact ⟨0, E, rfl, rfl, Nat.zero_le _, ⟨by simp⟩, ⟨hL.out.tail.tail⟩⟩
                case round =>
                  clear hL hE
                  obtain ⟨k, bb, rfl, rfl, hk, hcl, ho4⟩ := hrel
                  by_cases hlk : k < j
                  · obtain ⟨q, hq⟩ : ∃ x, rs[k]? = some x := ⟨_, List.getElem?_eq_getElem (by rw [hrl.out]; omega)⟩
                    obtain ⟨s', t', rfl, _, _⟩ := rt_nat (hrt.out q (List.mem_of_getElem? hq))
                    have hR3 := Hidd.mk fun (W : World) (h : Below w.heap.size w W) => (hR.out.below h).route hq
                    have hst := Hidd.mk (any_take (f := same ⟨(s : Int), (t : Int)⟩) hq)
                    have bk0 : (0 : Int) ≤ (k : Int) := by omega
                    have bk1 : (k : Int) < (rn : Int) := by omega
                    clear hq
                    rcases bb with _ | _
                    · by_cases c0 : t' = t
                      · have e0 : ((t' : Int) == (t : Int)) = true := by rw [beq_iff_eq]; omega
                        have hn : Hidd (true = (E || (rs.take (k + 1)).any (same ⟨(s : Int), (t : Int)⟩))) := ⟨by rw [hst.out, ← Bool.or_assoc, ← hcl.out]; simp [same, c0]⟩
                        clear c0
                        go_wp2
                        obtain ⟨W5, hW5⟩ : ∃ zz, zz = World.drew wr := ⟨_, rfl⟩
                        refine wp_region_flow [([0, 1, 2, 4, 8, 10, 3, 9, 5, 11, 6, 12, 7, 13, 14, 15, 16], none)] (by kernel_rfl) (by kernel_rfl) ?_
                        rw [show ({ wr with drawn := wr.drawn + 1 } : World) = W5 from hW5.symm]
                        replace hW5 := Hidd.mk hW5
                        simp only [opsF, List.map_cons, List.map_nil, List.getD_cons_succ, List.getD_cons_zero, Option.map]
                        have ho6 := Hidd.mk (show Own w (fun _ => False) W5 _ by rw [hW5.out]; exact ho4.out.drew)
                        clear hW5 ho4
                        obtain ⟨x0, x1, x2, x3, x4, x5, x6, x7, x8, x9, xA⟩ := cells11 ho6.out 0 rfl
                        obtain ⟨a', ea, y0, y1⟩ := hR3.out _ (ho6.out.below fun _ => id)
                        injection ea with ea
                        subst ea
                        obtain ⟨a', ea, v0, v1⟩ := hR2.out _ (ho6.out.below fun _ => id)
                        injection ea with ea
                        subst ea
                        (try simp only at y0 y1 v0 v1)
                        refine FlW.heads (fun zz => zz = _) rfl ?_
                        repeat (first | (refine StQ.skip (by rfl) ?_; simp only [Act.put, List.setIfInBounds_toArray, List.set_cons_zero, List.set_cons_succ]) | (refine StQ.go' (by rfl) (Exists.intro ?_ (And.intro (fun w' hS => ?_) ?_)); rotate_left; (focus (rw [hS]; go_simp; try with_reducible rfl)); simp only [Act.put, List.setIfInBounds_toArray, List.set_cons_zero, List.set_cons_succ]))
                        refine StQ.nil ?_
                        refine FlW.nil (Calm.normal ?_)
                        clear x0 x1 x2 x3 x4 x5 x6 x7 x8 x9 xA y0 y1 v0 v1
                        go_wp2
                        go_roundw
                        case rel => exact ⟨k + 1, true, rfl, by go_num, by omega, hn, ho6⟩
                        case measure => (simp [intOf]; try omega)
                      · have e0 : ((t' : Int) == (t : Int)) = false := by rw [beq_eq_false_iff_ne]; omega
                        have hn : Hidd (false = (E || (rs.take (k + 1)).any (same ⟨(s : Int), (t : Int)⟩))) := ⟨by rw [hst.out, ← Bool.or_assoc, ← hcl.out]; simp [same]; omega⟩
                        clear c0
                        go_wp2
                        obtain ⟨W5, hW5⟩ : ∃ zz, zz = World.drew wr := ⟨_, rfl⟩
                        refine wp_region_flow [([0, 1, 2, 4, 8, 10, 3, 9, 5, 11, 6, 12, 7, 13, 14, 15, 16], none)] (by kernel_rfl) (by kernel_rfl) ?_
                        rw [show ({ wr with drawn := wr.drawn + 1 } : World) = W5 from hW5.symm]
                        replace hW5 := Hidd.mk hW5
                        simp only [opsF, List.map_cons, List.map_nil, List.getD_cons_succ, List.getD_cons_zero, Option.map]
                        have ho6 := Hidd.mk (show Own w (fun _ => False) W5 _ by rw [hW5.out]; exact ho4.out.drew)
                        clear hW5 ho4
                        obtain ⟨x0, x1, x2, x3, x4, x5, x6, x7, x8, x9, xA⟩ := cells11 ho6.out 0 rfl
                        obtain ⟨a', ea, y0, y1⟩ := hR3.out _ (ho6.out.below fun _ => id)
                        injection ea with ea
                        subst ea
                        obtain ⟨a', ea, v0, v1⟩ := hR2.out _ (ho6.out.below fun _ => id)
                        injection ea with ea
                        subst ea
                        (try simp only at y0 y1 v0 v1)
                        refine FlW.heads (fun zz => zz = _) rfl ?_
                        repeat (first | (refine StQ.skip (by rfl) ?_; simp only [Act.put, List.setIfInBounds_toArray, List.set_cons_zero, List.set_cons_succ]) | (refine StQ.go' (by rfl) (Exists.intro ?_ (And.intro (fun w' hS => ?_) ?_)); rotate_left; (focus (rw [hS]; go_simp; try with_reducible rfl)); simp only [Act.put, List.setIfInBounds_toArray, List.set_cons_zero, List.set_cons_succ]))
                        refine StQ.nil ?_
                        refine FlW.nil (Calm.normal ?_)
                        clear x0 x1 x2 x3 x4 x5 x6 x7 x8 x9 xA y0 y1 v0 v1
                        go_wp2
                        go_roundw
                        case rel => exact ⟨k + 1, false, rfl, by go_num, by omega, hn, ho6⟩
                        case measure => (simp [intOf]; try omega)
                    · have hn : Hidd (true = (E || (rs.take (k + 1)).any (same ⟨(s : Int), (t : Int)⟩))) := ⟨by rw [hst.out, ← Bool.or_assoc, ← hcl.out]; rfl⟩
                      go_wp2
                      obtain ⟨W5, hW5⟩ : ∃ zz, zz = World.drew wr := ⟨_, rfl⟩
                      refine wp_region_flow [([0, 1, 2, 4, 8, 10, 3, 9, 5, 11, 6, 12, 7, 13, 14, 15, 16], none)] (by kernel_rfl) (by kernel_rfl) ?_
                      rw [show ({ wr with drawn := wr.drawn + 1 } : World) = W5 from hW5.symm]
                      replace hW5 := Hidd.mk hW5
                      simp only [opsF, List.map_cons, List.map_nil, List.getD_cons_succ, List.getD_cons_zero, Option.map]
                      have ho6 := Hidd.mk (show Own w (fun _ => False) W5 _ by rw [hW5.out]; exact ho4.out.drew)
                      clear hW5 ho4
                      obtain ⟨x0, x1, x2, x3, x4, x5, x6, x7, x8, x9, xA⟩ := cells11 ho6.out 0 rfl
                      obtain ⟨a', ea, y0, y1⟩ := hR3.out _ (ho6.out.below fun _ => id)
                      injection ea with ea
                      subst ea
                      obtain ⟨a', ea, v0, v1⟩ := hR2.out _ (ho6.out.below fun _ => id)
                      injection ea with ea
                      subst ea
                      (try simp only at y0 y1 v0 v1)
                      refine FlW.heads (fun zz => zz = _) rfl ?_
                      repeat (first | (refine StQ.skip (by rfl) ?_; simp only [Act.put, List.setIfInBounds_toArray, List.set_cons_zero, List.set_cons_succ]) | (refine StQ.go' (by rfl) (Exists.intro ?_ (And.intro (fun w' hS => ?_) ?_)); rotate_left; (focus (rw [hS]; go_simp; try with_reducible rfl)); simp only [Act.put, List.setIfInBounds_toArray, List.set_cons_zero, List.set_cons_succ]))
                      refine StQ.nil ?_
                      refine FlW.nil (Calm.normal ?_)
                      clear x0 x1 x2 x3 x4 x5 x6 x7 x8 x9 xA y0 y1 v0 v1
                      go_wp2
                      go_roundw
                      case rel => exact ⟨k + 1, true, rfl, by go_num, by omega, hn, ho6⟩
                      case measure => (simp [intOf]; try omega)
                  · obtain rfl : k = j := by omega
                    rcases bb with _ | _
                    · have hn : Hidd (rouF qs (rs.take (k + 1)) (rs.drop (k + 1)) (k + 1) = rouF qs [] rs 0) := ⟨by rw [← hdr2.out, ← hcl.out]; rfl⟩
                      go_wp2
                      go_roundw
                      case rel => first | exact ⟨k + 1, by go_num, by omega, hn, ho4⟩ | ((repeat apply Exists.intro); refine ⟨?_, rfl⟩; exact ⟨k + 1, by go_num, by omega, hn, ho4⟩)
                      case measure => (simp [intOf]; try omega)
                    · have hres : Hidd (er = some (72, (k : Int))) := ⟨by rw [← her.out, ← hdr2.out, ← hcl.out]; rfl⟩
                      go_wp2_with (go_at_call 51; have hq := ho4.out; clear hq; refine (at_any 72 (k : Int) _ (by decide) (by decide) (by omega) (by omega)).mono ?_; rintro e w9 ⟨rfl, hb9⟩; have ho9 := Hidd.mk (ho4.out.ext hb9); clear hb9)
                      go_ret
                      exact ⟨ret_str (by rw [hres.out]; rfl), ho9.out.below fun _ => id⟩
          · obtain rfl : j = rn := by omega
            have hm0 : rouF qs [] rs 0 = none := by
              rw [← hre.out, List.drop_of_length_le (by rw [hrl.out]; exact Nat.le_refl _)]
              rfl
            have hres : Hidd (er = none) := ⟨by rw [← her.out, hm0]⟩
            clear hm0
            go_wp2
            go_ret
            exact ⟨ret_str (by rw [hres.out]; rfl), ho.out.below fun _ => id⟩
end Go.Proofs.Ytcamoldjljfbeaa
