/- sound.Check: what it answers. -/
import Derived.Test.YtcamoldjljfbeaaSoF
namespace Go.Proofs.Ytcamoldjljfbeaa
open Go.RowKit

def soundE (n f sl gp rh d0 d1 mg : Int) (ps : List Pt) (qs : List Qt) (rs : List Rt) : Option (Int × Int) :=
  match tabE n f sl gp rh d0 d1 mg ps qs rs with
  | some e => some e
  | none =>
    if n < 3 * f + 1 then some (70, -1) else if mg < prc d0 d1 (drf rh (rnd n sl gp)) + (d1 - d0) + drf rh (rnd n sl gp) then some (74, -1) else
      if sl < 2 * mg + d1 + prc d0 d1 (drf rh (rnd n sl gp)) then some (73, -1) else if gp < 2 * (mg + prc d0 d1 (drf rh (rnd n sl gp))) then some (75, -1) else
        match winF (nsl n sl) [] ps 0 with
        | some i => some (71, (i : Int))
        | none => match rouF qs [] rs 0 with
          | some i => some (72, (i : Int))
          | none => none
/-- What tables in their ranges are. -/
structure Tab (n f sl gp rh d0 d1 mg : Int) (ps : List Pt) (qs : List Qt) (rs : List Rt) : Prop where
  sc : Sc n f sl gp rh d0 d1 mg
  np : ps.length ≤ 12
  nq : qs.length ≤ 24
  nr : rs.length ≤ 24
  p : ∀ p ∈ ps, ptB p n = true
  q : ∀ q ∈ qs, qtB q ps.length = true
  r : ∀ r ∈ rs, rtB r qs.length = true
theorem Tab.of {n f sl gp rh d0 d1 mg : Int} {ps : List Pt} {qs : List Qt} {rs : List Rt} (h : tabE n f sl gp rh d0 d1 mg ps qs rs = none) : Tab n f sl gp rh d0 d1 mg ps qs rs := by
  unfold tabE at h
  rcases hs : scalB n f sl gp rh d0 d1 mg with _ | _
  · rw [hs, if_pos rfl] at h; cases h
  · rw [hs, if_neg (by decide)] at h
    by_cases hm : 12 < ps.length ∨ 24 < qs.length ∨ 24 < rs.length
    · rw [if_pos hm] at h; cases h
    · rw [if_neg hm] at h
      rcases h1 : firstE (ptB · n) 2 ps 0 with _ | e
      · rw [h1] at h
        simp only at h
        rcases h2 : firstE (qtB · ps.length) 8 qs 0 with _ | e
        · rw [h2] at h
          simp only at h
          exact ⟨Sc.of hs, by omega, by omega, by omega, firstE_none h1, firstE_none h2, firstE_none h⟩
        · rw [h2] at h; cases h
      · rw [h1] at h; cases h
theorem Tab.to {n f sl gp rh d0 d1 mg : Int} {ps : List Pt} {qs : List Qt} {rs : List Rt} (h : Tab n f sl gp rh d0 d1 mg ps qs rs) : tabE n f sl gp rh d0 d1 mg ps qs rs = none := by
  unfold tabE
  have h1 := h.np
  have h2 := h.nq
  have h3 := h.nr
  rw [h.sc.scal, if_neg (by decide), if_neg (by omega), firstE_of h.p, firstE_of h.q, firstE_of h.r]
set_option maxRecDepth 100000
set_option maxHeartbeats 8000000
theorem soundCheck_any (n f sl gp rh d0 d1 mg : Int) (PA : Option Addr) (pn pc : Nat) (OA : Option Addr) (on oc : Nat) (RA : Option Addr) (rn rc : Nat) (ps : List Pt) (qs : List Qt) (rs : List Rt) (w : World) (hP : At Pt.cells w PA pn ps) (hQ : At Qt.cells w OA on qs) (hR : At Rt.cells w RA rn rs)
    (oP : ∀ p ∈ ps, p.Ok) (oQ : ∀ p ∈ qs, p.Ok) (hpc : pn ≤ pc) (hpm : pc ≤ 9223372036854775807) (hrc : rn ≤ rc) (hrm : rc ≤ 9223372036854775807) (er : Option (Int × Int)) (her : soundE n f sl gp rh d0 d1 mg ps qs rs = er) :
    Calls Try.prog 21 #[.agg #[.int .i64 n, .int .i64 f, .int .i64 sl, .int .i64 gp, .int .i64 rh, .int .i64 d0, .int .i64 d1, .int .i64 mg, .slice PA pn pc, .slice OA on oc, .slice RA rn rc]] w fun e w' => ∃ v, e = .returned v ∧ IsE w' er v ∧ Below w.heap.size w w' := by
  have ho := Hidd.mk ((Own.nil w (fun _ => False)).alloc (.cells #[.int .i64 n, .int .i64 f, .int .i64 sl, .int .i64 gp, .int .i64 rh, .int .i64 d0, .int .i64 d1, .int .i64 mg, .slice PA pn pc, .slice OA on oc, .slice RA rn rc] 26))
  have hB0 := ho.out.below fun _ => id
  have hP1 := Hidd.mk (hP.below hB0)
  have hQ1 := Hidd.mk (hQ.below hB0)
  have hR1 := Hidd.mk (hR.below hB0)
  have hpl := hP.1
  have hql := hQ.1
  have hrl := hR.1
  replace hP := Hidd.mk hP
  replace hQ := Hidd.mk hQ
  replace hR := Hidd.mk hR
  replace oP := Hidd.mk oP
  replace oQ := Hidd.mk oQ
  clear hB0
  unfold soundE at her
  rcases ht : tabE n f sl gp rh d0 d1 mg ps qs rs with _ | ⟨q0, q1⟩
  rotate_left
  · rw [ht] at her
    subst her
    replace ht := Hidd.mk ht
    clear hpl hql hrl
    go_enter Try.func21, Try.ntmps21
    go_wp2_with (go_at_call 31; refine (tabCheck_any n f sl gp rh d0 d1 mg PA pn pc OA on oc RA rn rc ps qs rs _ hP1.out hQ1.out hR1.out oP.out oQ.out _ ht.out).mono ?_; rintro e w1 ⟨v, rfl, he, hb⟩; have he2 := Hidd.mk he; obtain ⟨fb, rfl, _⟩ := he; have ho1 := Hidd.mk (ho.out.ext hb); clear hb ho)
    go_ret
    exact ⟨_, rfl, he2.out, ho1.out.below fun _ => id⟩
  rw [ht] at her
  simp only at her
  have hT := Tab.of ht
  have hs := hT.sc
  have hD := hs.drf
  have hQp := hs.prc
  obtain ⟨D, hDe⟩ : ∃ D, drf rh (rnd n sl gp) = D := ⟨_, rfl⟩
  rw [hDe] at her hD hQp
  obtain ⟨P, hPe⟩ : ∃ P, prc d0 d1 D = P := ⟨_, rfl⟩
  rw [hPe] at her hQp
  obtain ⟨hD0, hD1⟩ := hD
  obtain ⟨hQ0, hQ2⟩ := hQp
  have f0 := hs.f0
  have f2 := hs.f2
  have a1 := hs.d0a
  have a2 := hs.d0b
  have a3 := hs.d1b
  have m0 := hs.m0
  have m2 := hs.m2
  have n1 := hs.n1
  have n7 := hs.n7
  have e1 : IntKind.i64.wrap (d1 - d0) = d1 - d0 := IntWalk.i64_in _ (by omega)
  have e2 : IntKind.i64.wrap (P + (d1 - d0)) = P + (d1 - d0) := IntWalk.i64_in _ (by omega)
  have e3 : IntKind.i64.wrap (P + (d1 - d0) + D) = P + (d1 - d0) + D := IntWalk.i64_in _ (by omega)
  have hin : Hidd (∀ p ∈ ps, PtIn p) := ⟨fun p hp => PtIn.of (hT.p p hp)⟩
  have hrt : Hidd (∀ p ∈ rs, rtB p (on : Int) = true) := ⟨by rw [← hql]; exact hT.r⟩
  have b1 := hT.np
  have b2 := hT.nq
  have b3 := hT.nr
  rw [hpl] at b1
  rw [hql] at b2
  rw [hrl] at b3
  replace ht := Hidd.mk ht
  replace hs := Hidd.mk hs
  replace hDe := Hidd.mk hDe
  replace hPe := Hidd.mk hPe
  clear hpl hql hrl hT
  by_cases c1 : n < 3 * f + 1
  · rw [if_pos c1] at her
    subst her
    have dd1 : decide (n < 3 * f + 1) = true := by simpa using c1
    clear c1
    go_enter Try.func21, Try.ntmps21
    go_wp2_with (go_at_call 31; refine (tabCheck_any n f sl gp rh d0 d1 mg PA pn pc OA on oc RA rn rc ps qs rs _ hP1.out hQ1.out hR1.out oP.out oQ.out _ ht.out).mono ?_; rintro e w1 ⟨v, rfl, he, hb⟩; (obtain rfl : v = .nilIface := he); have ho1 := Hidd.mk (ho.out.ext hb); clear hb ho)
    generalize w.heap.size = p1 at ho1 ⊢
    obtain ⟨W0, hW0⟩ : ∃ zz, zz = World.drew w1 := ⟨_, rfl⟩
    refine wp_region_flow [([0, 2, 4, 3, 5, 6], some (1, [true])), ([7, 8], none)] (by kernel_rfl) (by kernel_rfl) ?_
    rw [show ({ w1 with drawn := w1.drawn + 1 } : World) = W0 from hW0.symm]
    replace hW0 := Hidd.mk hW0
    simp only [opsF, List.map_cons, List.map_nil, List.getD_cons_succ, List.getD_cons_zero, Option.map]
    have ho2 := Hidd.mk (show Own w (fun _ => False) W0 _ by rw [hW0.out]; exact ho1.out.drew)
    clear hW0 ho1
    obtain ⟨x0, x1, x2, x3, x4, x5, x6, x7, x8, x9, xA⟩ := cells11 ho2.out 0 rfl
    have hpl := ho2.out.lt 0 rfl
    refine FlW.stage (fun zz => Kept (fun _ => False) W0 zz) (Kept.refl _ _) ?_
    repeat (first | (refine StQ.skip (by rfl) ?_; simp only [Act.put, List.setIfInBounds_toArray, List.set_cons_zero, List.set_cons_succ]) | (refine StQ.go' (by rfl) (Exists.intro ?_ (And.intro (fun w' hS => ?_) ?_)); rotate_left; (focus (have hc := Kept.cell0 hS; go_simp; try with_reducible rfl)); simp only [Act.put, List.setIfInBounds_toArray, List.set_cons_zero, List.set_cons_succ]))
    refine StQ.nil ?_
    refine FlO.go (by rfl) (fun K hK => ?_)
    go_simp
    (refine (prec_any n f sl gp rh d0 d1 mg PA pn pc OA on oc RA rn rc _ hs.out).mono ?_; rintro e w5 ⟨rfl, hb5⟩; rw [hDe.out, hPe.out]; have ho5 := Hidd.mk (ho2.out.ext hb5))
    refine hK.out _ _ (.inr ⟨Kept.below hb5, trivial⟩) ?_
    clear hK K
    clear x0 x1 x2 x3 x4 x5 x6 x7 x8 x9 xA ho2 hb5 hpl
    refine FlW.heads (fun zz => zz = _) rfl ?_
    repeat (first | (refine StQ.skip (by rfl) ?_; simp only [Act.put, List.setIfInBounds_toArray, List.set_cons_zero, List.set_cons_succ]) | (refine StQ.go' (by rfl) (Exists.intro ?_ (And.intro (fun w' hS => ?_) ?_)); rotate_left; (focus (rw [hS]; go_simp; try with_reducible rfl)); simp only [Act.put, List.setIfInBounds_toArray, List.set_cons_zero, List.set_cons_succ]))
    refine StQ.nil ?_
    refine FlW.nil (Calm.normal ?_)
    obtain ⟨x0, x1, x2, x3, x4, x5, x6, x7, x8, x9, xA⟩ := cells11 ho5.out 0 rfl
    have hpl := ho5.out.lt 0 rfl
    go_wp2_with (go_at_call 52; refine (new_any 70 (-1) _ (by decide) (by omega)).mono ?_; rintro e w9 ⟨b, rfl, he, hb⟩; replace he := Hidd.mk he; have ho9 := Hidd.mk (ho5.out.ext hb); clear hb)
    go_ret
    exact ⟨_, rfl, he.out, ho9.out.below fun _ => id⟩
  rw [if_neg c1] at her
  have dd1 : decide (n < 3 * f + 1) = false := by simpa using c1
  by_cases c2 : mg < P + (d1 - d0) + D
  · rw [if_pos c2] at her
    subst her
    have dd2 : decide (mg < P + (d1 - d0) + D) = true := by simpa using c2
    clear c2
    go_enter Try.func21, Try.ntmps21
    go_wp2_with (go_at_call 31; refine (tabCheck_any n f sl gp rh d0 d1 mg PA pn pc OA on oc RA rn rc ps qs rs _ hP1.out hQ1.out hR1.out oP.out oQ.out _ ht.out).mono ?_; rintro e w1 ⟨v, rfl, he, hb⟩; (obtain rfl : v = .nilIface := he); have ho1 := Hidd.mk (ho.out.ext hb); clear hb ho)
    generalize w.heap.size = p1 at ho1 ⊢
    obtain ⟨W0, hW0⟩ : ∃ zz, zz = World.drew w1 := ⟨_, rfl⟩
    refine wp_region_flow [([0, 2, 4, 3, 5, 6], some (1, [true])), ([7, 8], none)] (by kernel_rfl) (by kernel_rfl) ?_
    rw [show ({ w1 with drawn := w1.drawn + 1 } : World) = W0 from hW0.symm]
    replace hW0 := Hidd.mk hW0
    simp only [opsF, List.map_cons, List.map_nil, List.getD_cons_succ, List.getD_cons_zero, Option.map]
    have ho2 := Hidd.mk (show Own w (fun _ => False) W0 _ by rw [hW0.out]; exact ho1.out.drew)
    clear hW0 ho1
    obtain ⟨x0, x1, x2, x3, x4, x5, x6, x7, x8, x9, xA⟩ := cells11 ho2.out 0 rfl
    have hpl := ho2.out.lt 0 rfl
    refine FlW.stage (fun zz => Kept (fun _ => False) W0 zz) (Kept.refl _ _) ?_
    repeat (first | (refine StQ.skip (by rfl) ?_; simp only [Act.put, List.setIfInBounds_toArray, List.set_cons_zero, List.set_cons_succ]) | (refine StQ.go' (by rfl) (Exists.intro ?_ (And.intro (fun w' hS => ?_) ?_)); rotate_left; (focus (have hc := Kept.cell0 hS; go_simp; try with_reducible rfl)); simp only [Act.put, List.setIfInBounds_toArray, List.set_cons_zero, List.set_cons_succ]))
    refine StQ.nil ?_
    refine FlO.go (by rfl) (fun K hK => ?_)
    go_simp
    (refine (prec_any n f sl gp rh d0 d1 mg PA pn pc OA on oc RA rn rc _ hs.out).mono ?_; rintro e w5 ⟨rfl, hb5⟩; rw [hDe.out, hPe.out]; have ho5 := Hidd.mk (ho2.out.ext hb5))
    refine hK.out _ _ (.inr ⟨Kept.below hb5, trivial⟩) ?_
    clear hK K
    clear x0 x1 x2 x3 x4 x5 x6 x7 x8 x9 xA ho2 hb5 hpl
    refine FlW.heads (fun zz => zz = _) rfl ?_
    repeat (first | (refine StQ.skip (by rfl) ?_; simp only [Act.put, List.setIfInBounds_toArray, List.set_cons_zero, List.set_cons_succ]) | (refine StQ.go' (by rfl) (Exists.intro ?_ (And.intro (fun w' hS => ?_) ?_)); rotate_left; (focus (rw [hS]; go_simp; try with_reducible rfl)); simp only [Act.put, List.setIfInBounds_toArray, List.set_cons_zero, List.set_cons_succ]))
    refine StQ.nil ?_
    refine FlW.nil (Calm.normal ?_)
    obtain ⟨x0, x1, x2, x3, x4, x5, x6, x7, x8, x9, xA⟩ := cells11 ho5.out 0 rfl
    have hpl := ho5.out.lt 0 rfl
    go_wp2
    clear x0 x1 x2 x3 x4 x5 x6 x7 x8 x9 xA hpl
    obtain ⟨W7, hW7⟩ : ∃ zz, zz = World.drew w5 := ⟨_, rfl⟩
    refine wp_region_flow [([0, 2, 3, 5, 1, 4], some (6, [true])), ([7, 8, 9], none)] (by kernel_rfl) (by kernel_rfl) ?_
    rw [show ({ w5 with drawn := w5.drawn + 1 } : World) = W7 from hW7.symm]
    replace hW7 := Hidd.mk hW7
    simp only [opsF, List.map_cons, List.map_nil, List.getD_cons_succ, List.getD_cons_zero, Option.map]
    have ho2 := Hidd.mk (show Own w (fun _ => False) W7 _ by rw [hW7.out]; exact ho5.out.drew)
    clear hW7 ho5
    obtain ⟨x0, x1, x2, x3, x4, x5, x6, x7, x8, x9, xA⟩ := cells11 ho2.out 0 rfl
    have hpl := ho2.out.lt 0 rfl
    refine FlW.stage (fun zz => Kept (fun _ => False) W7 zz) (Kept.refl _ _) ?_
    repeat (first | (refine StQ.skip (by rfl) ?_; simp only [Act.put, List.setIfInBounds_toArray, List.set_cons_zero, List.set_cons_succ]) | (refine StQ.go' (by rfl) (Exists.intro ?_ (And.intro (fun w' hS => ?_) ?_)); rotate_left; (focus (have hc := Kept.cell0 hS; go_simp; try with_reducible rfl)); simp only [Act.put, List.setIfInBounds_toArray, List.set_cons_zero, List.set_cons_succ]))
    refine StQ.nil ?_
    refine FlO.go (by rfl) (fun K hK => ?_)
    go_simp
    (refine (drift_any n f sl gp rh d0 d1 mg PA pn pc OA on oc RA rn rc _ hs.out).mono ?_; rintro e w8 ⟨rfl, hb8⟩; rw [hDe.out]; have ho8 := Hidd.mk (ho2.out.ext hb8))
    refine hK.out _ _ (.inr ⟨Kept.below hb8, trivial⟩) ?_
    clear hK K
    clear x0 x1 x2 x3 x4 x5 x6 x7 x8 x9 xA ho2 hb8 hpl
    refine FlW.heads (fun zz => zz = _) rfl ?_
    repeat (first | (refine StQ.skip (by rfl) ?_; simp only [Act.put, List.setIfInBounds_toArray, List.set_cons_zero, List.set_cons_succ]) | (refine StQ.go' (by rfl) (Exists.intro ?_ (And.intro (fun w' hS => ?_) ?_)); rotate_left; (focus (rw [hS]; go_simp; try with_reducible rfl)); simp only [Act.put, List.setIfInBounds_toArray, List.set_cons_zero, List.set_cons_succ]))
    refine StQ.nil ?_
    refine FlW.nil (Calm.normal ?_)
    obtain ⟨x0, x1, x2, x3, x4, x5, x6, x7, x8, x9, xA⟩ := cells11 ho8.out 0 rfl
    have hpl := ho8.out.lt 0 rfl
    go_wp2_with (go_at_call 52; refine (new_any 74 (-1) _ (by decide) (by omega)).mono ?_; rintro e w9 ⟨b, rfl, he, hb⟩; replace he := Hidd.mk he; have ho9 := Hidd.mk (ho8.out.ext hb); clear hb)
    go_ret
    exact ⟨_, rfl, he.out, ho9.out.below fun _ => id⟩
  rw [if_neg c2] at her
  have dd2 : decide (mg < P + (d1 - d0) + D) = false := by simpa using c2
  by_cases c3 : sl < 2 * mg + d1 + P
  · rw [if_pos c3] at her
    subst her
    have dd3 : decide (sl < 2 * mg + d1 + P) = true := by simpa using c3
    clear c3
    go_enter Try.func21, Try.ntmps21
    go_wp2_with (go_at_call 31; refine (tabCheck_any n f sl gp rh d0 d1 mg PA pn pc OA on oc RA rn rc ps qs rs _ hP1.out hQ1.out hR1.out oP.out oQ.out _ ht.out).mono ?_; rintro e w1 ⟨v, rfl, he, hb⟩; (obtain rfl : v = .nilIface := he); have ho1 := Hidd.mk (ho.out.ext hb); clear hb ho)
    generalize w.heap.size = p1 at ho1 ⊢
    obtain ⟨W0, hW0⟩ : ∃ zz, zz = World.drew w1 := ⟨_, rfl⟩
    refine wp_region_flow [([0, 2, 4, 3, 5, 6], some (1, [true])), ([7, 8], none)] (by kernel_rfl) (by kernel_rfl) ?_
    rw [show ({ w1 with drawn := w1.drawn + 1 } : World) = W0 from hW0.symm]
    replace hW0 := Hidd.mk hW0
    simp only [opsF, List.map_cons, List.map_nil, List.getD_cons_succ, List.getD_cons_zero, Option.map]
    have ho2 := Hidd.mk (show Own w (fun _ => False) W0 _ by rw [hW0.out]; exact ho1.out.drew)
    clear hW0 ho1
    obtain ⟨x0, x1, x2, x3, x4, x5, x6, x7, x8, x9, xA⟩ := cells11 ho2.out 0 rfl
    have hpl := ho2.out.lt 0 rfl
    refine FlW.stage (fun zz => Kept (fun _ => False) W0 zz) (Kept.refl _ _) ?_
    repeat (first | (refine StQ.skip (by rfl) ?_; simp only [Act.put, List.setIfInBounds_toArray, List.set_cons_zero, List.set_cons_succ]) | (refine StQ.go' (by rfl) (Exists.intro ?_ (And.intro (fun w' hS => ?_) ?_)); rotate_left; (focus (have hc := Kept.cell0 hS; go_simp; try with_reducible rfl)); simp only [Act.put, List.setIfInBounds_toArray, List.set_cons_zero, List.set_cons_succ]))
    refine StQ.nil ?_
    refine FlO.go (by rfl) (fun K hK => ?_)
    go_simp
    (refine (prec_any n f sl gp rh d0 d1 mg PA pn pc OA on oc RA rn rc _ hs.out).mono ?_; rintro e w5 ⟨rfl, hb5⟩; rw [hDe.out, hPe.out]; have ho5 := Hidd.mk (ho2.out.ext hb5))
    refine hK.out _ _ (.inr ⟨Kept.below hb5, trivial⟩) ?_
    clear hK K
    clear x0 x1 x2 x3 x4 x5 x6 x7 x8 x9 xA ho2 hb5 hpl
    refine FlW.heads (fun zz => zz = _) rfl ?_
    repeat (first | (refine StQ.skip (by rfl) ?_; simp only [Act.put, List.setIfInBounds_toArray, List.set_cons_zero, List.set_cons_succ]) | (refine StQ.go' (by rfl) (Exists.intro ?_ (And.intro (fun w' hS => ?_) ?_)); rotate_left; (focus (rw [hS]; go_simp; try with_reducible rfl)); simp only [Act.put, List.setIfInBounds_toArray, List.set_cons_zero, List.set_cons_succ]))
    refine StQ.nil ?_
    refine FlW.nil (Calm.normal ?_)
    obtain ⟨x0, x1, x2, x3, x4, x5, x6, x7, x8, x9, xA⟩ := cells11 ho5.out 0 rfl
    have hpl := ho5.out.lt 0 rfl
    go_wp2
    clear x0 x1 x2 x3 x4 x5 x6 x7 x8 x9 xA hpl
    obtain ⟨W7, hW7⟩ : ∃ zz, zz = World.drew w5 := ⟨_, rfl⟩
    refine wp_region_flow [([0, 2, 3, 5, 1, 4], some (6, [true])), ([7, 8, 9], none)] (by kernel_rfl) (by kernel_rfl) ?_
    rw [show ({ w5 with drawn := w5.drawn + 1 } : World) = W7 from hW7.symm]
    replace hW7 := Hidd.mk hW7
    simp only [opsF, List.map_cons, List.map_nil, List.getD_cons_succ, List.getD_cons_zero, Option.map]
    have ho2 := Hidd.mk (show Own w (fun _ => False) W7 _ by rw [hW7.out]; exact ho5.out.drew)
    clear hW7 ho5
    obtain ⟨x0, x1, x2, x3, x4, x5, x6, x7, x8, x9, xA⟩ := cells11 ho2.out 0 rfl
    have hpl := ho2.out.lt 0 rfl
    refine FlW.stage (fun zz => Kept (fun _ => False) W7 zz) (Kept.refl _ _) ?_
    repeat (first | (refine StQ.skip (by rfl) ?_; simp only [Act.put, List.setIfInBounds_toArray, List.set_cons_zero, List.set_cons_succ]) | (refine StQ.go' (by rfl) (Exists.intro ?_ (And.intro (fun w' hS => ?_) ?_)); rotate_left; (focus (have hc := Kept.cell0 hS; go_simp; try with_reducible rfl)); simp only [Act.put, List.setIfInBounds_toArray, List.set_cons_zero, List.set_cons_succ]))
    refine StQ.nil ?_
    refine FlO.go (by rfl) (fun K hK => ?_)
    go_simp
    (refine (drift_any n f sl gp rh d0 d1 mg PA pn pc OA on oc RA rn rc _ hs.out).mono ?_; rintro e w8 ⟨rfl, hb8⟩; rw [hDe.out]; have ho8 := Hidd.mk (ho2.out.ext hb8))
    refine hK.out _ _ (.inr ⟨Kept.below hb8, trivial⟩) ?_
    clear hK K
    clear x0 x1 x2 x3 x4 x5 x6 x7 x8 x9 xA ho2 hb8 hpl
    refine FlW.heads (fun zz => zz = _) rfl ?_
    repeat (first | (refine StQ.skip (by rfl) ?_; simp only [Act.put, List.setIfInBounds_toArray, List.set_cons_zero, List.set_cons_succ]) | (refine StQ.go' (by rfl) (Exists.intro ?_ (And.intro (fun w' hS => ?_) ?_)); rotate_left; (focus (rw [hS]; go_simp; try with_reducible rfl)); simp only [Act.put, List.setIfInBounds_toArray, List.set_cons_zero, List.set_cons_succ]))
    refine StQ.nil ?_
    refine FlW.nil (Calm.normal ?_)
    obtain ⟨x0, x1, x2, x3, x4, x5, x6, x7, x8, x9, xA⟩ := cells11 ho8.out 0 rfl
    have hpl := ho8.out.lt 0 rfl
    go_wp2_with (go_at_call 52; refine (new_any 73 (-1) _ (by decide) (by omega)).mono ?_; rintro e w9 ⟨b, rfl, he, hb⟩; replace he := Hidd.mk he; have ho9 := Hidd.mk (ho8.out.ext hb); clear hb)
    go_ret
    exact ⟨_, rfl, he.out, ho9.out.below fun _ => id⟩
  rw [if_neg c3] at her
  have dd3 : decide (sl < 2 * mg + d1 + P) = false := by simpa using c3
  by_cases c4 : gp < 2 * (mg + P)
  · rw [if_pos c4] at her
    subst her
    have dd4 : decide (gp < 2 * (mg + P)) = true := by simpa using c4
    clear c4
    go_enter Try.func21, Try.ntmps21
    go_wp2_with (go_at_call 31; refine (tabCheck_any n f sl gp rh d0 d1 mg PA pn pc OA on oc RA rn rc ps qs rs _ hP1.out hQ1.out hR1.out oP.out oQ.out _ ht.out).mono ?_; rintro e w1 ⟨v, rfl, he, hb⟩; (obtain rfl : v = .nilIface := he); have ho1 := Hidd.mk (ho.out.ext hb); clear hb ho)
    generalize w.heap.size = p1 at ho1 ⊢
    obtain ⟨W0, hW0⟩ : ∃ zz, zz = World.drew w1 := ⟨_, rfl⟩
    refine wp_region_flow [([0, 2, 4, 3, 5, 6], some (1, [true])), ([7, 8], none)] (by kernel_rfl) (by kernel_rfl) ?_
    rw [show ({ w1 with drawn := w1.drawn + 1 } : World) = W0 from hW0.symm]
    replace hW0 := Hidd.mk hW0
    simp only [opsF, List.map_cons, List.map_nil, List.getD_cons_succ, List.getD_cons_zero, Option.map]
    have ho2 := Hidd.mk (show Own w (fun _ => False) W0 _ by rw [hW0.out]; exact ho1.out.drew)
    clear hW0 ho1
    obtain ⟨x0, x1, x2, x3, x4, x5, x6, x7, x8, x9, xA⟩ := cells11 ho2.out 0 rfl
    have hpl := ho2.out.lt 0 rfl
    refine FlW.stage (fun zz => Kept (fun _ => False) W0 zz) (Kept.refl _ _) ?_
    repeat (first | (refine StQ.skip (by rfl) ?_; simp only [Act.put, List.setIfInBounds_toArray, List.set_cons_zero, List.set_cons_succ]) | (refine StQ.go' (by rfl) (Exists.intro ?_ (And.intro (fun w' hS => ?_) ?_)); rotate_left; (focus (have hc := Kept.cell0 hS; go_simp; try with_reducible rfl)); simp only [Act.put, List.setIfInBounds_toArray, List.set_cons_zero, List.set_cons_succ]))
    refine StQ.nil ?_
    refine FlO.go (by rfl) (fun K hK => ?_)
    go_simp
    (refine (prec_any n f sl gp rh d0 d1 mg PA pn pc OA on oc RA rn rc _ hs.out).mono ?_; rintro e w5 ⟨rfl, hb5⟩; rw [hDe.out, hPe.out]; have ho5 := Hidd.mk (ho2.out.ext hb5))
    refine hK.out _ _ (.inr ⟨Kept.below hb5, trivial⟩) ?_
    clear hK K
    clear x0 x1 x2 x3 x4 x5 x6 x7 x8 x9 xA ho2 hb5 hpl
    refine FlW.heads (fun zz => zz = _) rfl ?_
    repeat (first | (refine StQ.skip (by rfl) ?_; simp only [Act.put, List.setIfInBounds_toArray, List.set_cons_zero, List.set_cons_succ]) | (refine StQ.go' (by rfl) (Exists.intro ?_ (And.intro (fun w' hS => ?_) ?_)); rotate_left; (focus (rw [hS]; go_simp; try with_reducible rfl)); simp only [Act.put, List.setIfInBounds_toArray, List.set_cons_zero, List.set_cons_succ]))
    refine StQ.nil ?_
    refine FlW.nil (Calm.normal ?_)
    obtain ⟨x0, x1, x2, x3, x4, x5, x6, x7, x8, x9, xA⟩ := cells11 ho5.out 0 rfl
    have hpl := ho5.out.lt 0 rfl
    go_wp2
    clear x0 x1 x2 x3 x4 x5 x6 x7 x8 x9 xA hpl
    obtain ⟨W7, hW7⟩ : ∃ zz, zz = World.drew w5 := ⟨_, rfl⟩
    refine wp_region_flow [([0, 2, 3, 5, 1, 4], some (6, [true])), ([7, 8, 9], none)] (by kernel_rfl) (by kernel_rfl) ?_
    rw [show ({ w5 with drawn := w5.drawn + 1 } : World) = W7 from hW7.symm]
    replace hW7 := Hidd.mk hW7
    simp only [opsF, List.map_cons, List.map_nil, List.getD_cons_succ, List.getD_cons_zero, Option.map]
    have ho2 := Hidd.mk (show Own w (fun _ => False) W7 _ by rw [hW7.out]; exact ho5.out.drew)
    clear hW7 ho5
    obtain ⟨x0, x1, x2, x3, x4, x5, x6, x7, x8, x9, xA⟩ := cells11 ho2.out 0 rfl
    have hpl := ho2.out.lt 0 rfl
    refine FlW.stage (fun zz => Kept (fun _ => False) W7 zz) (Kept.refl _ _) ?_
    repeat (first | (refine StQ.skip (by rfl) ?_; simp only [Act.put, List.setIfInBounds_toArray, List.set_cons_zero, List.set_cons_succ]) | (refine StQ.go' (by rfl) (Exists.intro ?_ (And.intro (fun w' hS => ?_) ?_)); rotate_left; (focus (have hc := Kept.cell0 hS; go_simp; try with_reducible rfl)); simp only [Act.put, List.setIfInBounds_toArray, List.set_cons_zero, List.set_cons_succ]))
    refine StQ.nil ?_
    refine FlO.go (by rfl) (fun K hK => ?_)
    go_simp
    (refine (drift_any n f sl gp rh d0 d1 mg PA pn pc OA on oc RA rn rc _ hs.out).mono ?_; rintro e w8 ⟨rfl, hb8⟩; rw [hDe.out]; have ho8 := Hidd.mk (ho2.out.ext hb8))
    refine hK.out _ _ (.inr ⟨Kept.below hb8, trivial⟩) ?_
    clear hK K
    clear x0 x1 x2 x3 x4 x5 x6 x7 x8 x9 xA ho2 hb8 hpl
    refine FlW.heads (fun zz => zz = _) rfl ?_
    repeat (first | (refine StQ.skip (by rfl) ?_; simp only [Act.put, List.setIfInBounds_toArray, List.set_cons_zero, List.set_cons_succ]) | (refine StQ.go' (by rfl) (Exists.intro ?_ (And.intro (fun w' hS => ?_) ?_)); rotate_left; (focus (rw [hS]; go_simp; try with_reducible rfl)); simp only [Act.put, List.setIfInBounds_toArray, List.set_cons_zero, List.set_cons_succ]))
    refine StQ.nil ?_
    refine FlW.nil (Calm.normal ?_)
    obtain ⟨x0, x1, x2, x3, x4, x5, x6, x7, x8, x9, xA⟩ := cells11 ho8.out 0 rfl
    have hpl := ho8.out.lt 0 rfl
    go_wp2_with (go_at_call 52; refine (new_any 75 (-1) _ (by decide) (by omega)).mono ?_; rintro e w9 ⟨b, rfl, he, hb⟩; replace he := Hidd.mk he; have ho9 := Hidd.mk (ho8.out.ext hb); clear hb)
    go_ret
    exact ⟨_, rfl, he.out, ho9.out.below fun _ => id⟩
  rw [if_neg c4] at her
  have dd4 : decide (gp < 2 * (mg + P)) = false := by simpa using c4
  clear c1 c2 c3 c4
  rcases hw : winF (nsl n sl) [] ps 0 with _ | i
  rotate_left
  · rw [hw] at her
    subst her
    have hwr : Hidd (ansI (winF (nsl n sl) [] ps 0) = (i : Int)) := ⟨by rw [hw]; rfl⟩
    clear hw
    go_enter Try.func21, Try.ntmps21
    go_wp2_with (go_at_call 31; refine (tabCheck_any n f sl gp rh d0 d1 mg PA pn pc OA on oc RA rn rc ps qs rs _ hP1.out hQ1.out hR1.out oP.out oQ.out _ ht.out).mono ?_; rintro e w1 ⟨v, rfl, he, hb⟩; (obtain rfl : v = .nilIface := he); have ho1 := Hidd.mk (ho.out.ext hb); clear hb ho)
    generalize w.heap.size = p1 at ho1 ⊢
    obtain ⟨W0, hW0⟩ : ∃ zz, zz = World.drew w1 := ⟨_, rfl⟩
    refine wp_region_flow [([0, 2, 4, 3, 5, 6], some (1, [true])), ([7, 8], none)] (by kernel_rfl) (by kernel_rfl) ?_
    rw [show ({ w1 with drawn := w1.drawn + 1 } : World) = W0 from hW0.symm]
    replace hW0 := Hidd.mk hW0
    simp only [opsF, List.map_cons, List.map_nil, List.getD_cons_succ, List.getD_cons_zero, Option.map]
    have ho2 := Hidd.mk (show Own w (fun _ => False) W0 _ by rw [hW0.out]; exact ho1.out.drew)
    clear hW0 ho1
    obtain ⟨x0, x1, x2, x3, x4, x5, x6, x7, x8, x9, xA⟩ := cells11 ho2.out 0 rfl
    have hpl := ho2.out.lt 0 rfl
    refine FlW.stage (fun zz => Kept (fun _ => False) W0 zz) (Kept.refl _ _) ?_
    repeat (first | (refine StQ.skip (by rfl) ?_; simp only [Act.put, List.setIfInBounds_toArray, List.set_cons_zero, List.set_cons_succ]) | (refine StQ.go' (by rfl) (Exists.intro ?_ (And.intro (fun w' hS => ?_) ?_)); rotate_left; (focus (have hc := Kept.cell0 hS; go_simp; try with_reducible rfl)); simp only [Act.put, List.setIfInBounds_toArray, List.set_cons_zero, List.set_cons_succ]))
    refine StQ.nil ?_
    refine FlO.go (by rfl) (fun K hK => ?_)
    go_simp
    (refine (prec_any n f sl gp rh d0 d1 mg PA pn pc OA on oc RA rn rc _ hs.out).mono ?_; rintro e w5 ⟨rfl, hb5⟩; rw [hDe.out, hPe.out]; have ho5 := Hidd.mk (ho2.out.ext hb5))
    refine hK.out _ _ (.inr ⟨Kept.below hb5, trivial⟩) ?_
    clear hK K
    clear x0 x1 x2 x3 x4 x5 x6 x7 x8 x9 xA ho2 hb5 hpl
    refine FlW.heads (fun zz => zz = _) rfl ?_
    repeat (first | (refine StQ.skip (by rfl) ?_; simp only [Act.put, List.setIfInBounds_toArray, List.set_cons_zero, List.set_cons_succ]) | (refine StQ.go' (by rfl) (Exists.intro ?_ (And.intro (fun w' hS => ?_) ?_)); rotate_left; (focus (rw [hS]; go_simp; try with_reducible rfl)); simp only [Act.put, List.setIfInBounds_toArray, List.set_cons_zero, List.set_cons_succ]))
    refine StQ.nil ?_
    refine FlW.nil (Calm.normal ?_)
    obtain ⟨x0, x1, x2, x3, x4, x5, x6, x7, x8, x9, xA⟩ := cells11 ho5.out 0 rfl
    have hpl := ho5.out.lt 0 rfl
    go_wp2
    clear x0 x1 x2 x3 x4 x5 x6 x7 x8 x9 xA hpl
    obtain ⟨W7, hW7⟩ : ∃ zz, zz = World.drew w5 := ⟨_, rfl⟩
    refine wp_region_flow [([0, 2, 3, 5, 1, 4], some (6, [true])), ([7, 8, 9], none)] (by kernel_rfl) (by kernel_rfl) ?_
    rw [show ({ w5 with drawn := w5.drawn + 1 } : World) = W7 from hW7.symm]
    replace hW7 := Hidd.mk hW7
    simp only [opsF, List.map_cons, List.map_nil, List.getD_cons_succ, List.getD_cons_zero, Option.map]
    have ho2 := Hidd.mk (show Own w (fun _ => False) W7 _ by rw [hW7.out]; exact ho5.out.drew)
    clear hW7 ho5
    obtain ⟨x0, x1, x2, x3, x4, x5, x6, x7, x8, x9, xA⟩ := cells11 ho2.out 0 rfl
    have hpl := ho2.out.lt 0 rfl
    refine FlW.stage (fun zz => Kept (fun _ => False) W7 zz) (Kept.refl _ _) ?_
    repeat (first | (refine StQ.skip (by rfl) ?_; simp only [Act.put, List.setIfInBounds_toArray, List.set_cons_zero, List.set_cons_succ]) | (refine StQ.go' (by rfl) (Exists.intro ?_ (And.intro (fun w' hS => ?_) ?_)); rotate_left; (focus (have hc := Kept.cell0 hS; go_simp; try with_reducible rfl)); simp only [Act.put, List.setIfInBounds_toArray, List.set_cons_zero, List.set_cons_succ]))
    refine StQ.nil ?_
    refine FlO.go (by rfl) (fun K hK => ?_)
    go_simp
    (refine (drift_any n f sl gp rh d0 d1 mg PA pn pc OA on oc RA rn rc _ hs.out).mono ?_; rintro e w8 ⟨rfl, hb8⟩; rw [hDe.out]; have ho8 := Hidd.mk (ho2.out.ext hb8))
    refine hK.out _ _ (.inr ⟨Kept.below hb8, trivial⟩) ?_
    clear hK K
    clear x0 x1 x2 x3 x4 x5 x6 x7 x8 x9 xA ho2 hb8 hpl
    refine FlW.heads (fun zz => zz = _) rfl ?_
    repeat (first | (refine StQ.skip (by rfl) ?_; simp only [Act.put, List.setIfInBounds_toArray, List.set_cons_zero, List.set_cons_succ]) | (refine StQ.go' (by rfl) (Exists.intro ?_ (And.intro (fun w' hS => ?_) ?_)); rotate_left; (focus (rw [hS]; go_simp; try with_reducible rfl)); simp only [Act.put, List.setIfInBounds_toArray, List.set_cons_zero, List.set_cons_succ]))
    refine StQ.nil ?_
    refine FlW.nil (Calm.normal ?_)
    obtain ⟨x0, x1, x2, x3, x4, x5, x6, x7, x8, x9, xA⟩ := cells11 ho8.out 0 rfl
    have hpl := ho8.out.lt 0 rfl
    go_wp2_with (first
      | (go_at_call 54; refine (windows_any n f sl gp rh d0 d1 mg PA pn pc OA on oc RA rn rc ps _ (hP.out.below (ho8.out.below fun _ => id)) hs.out hin.out b1 hpc hpm _ hwr.out).mono ?_; rintro e w9 ⟨rfl, hb9⟩; have hoA := Hidd.mk (ho8.out.ext hb9); clear ho8 hb9; clear x0 x1 x2 x3 x4 x5 x6 x7 x8 x9 xA hpl; obtain ⟨x0, x1, x2, x3, x4, x5, x6, x7, x8, x9, xA⟩ := cells11 hoA.out 0 rfl; have hpl := hoA.out.lt 0 rfl)
      | (go_at_call 52; refine (new_any 71 (i : Int) _ (by decide) (by omega)).mono ?_; rintro e w9 ⟨b, rfl, he, hb⟩; replace he := Hidd.mk he; have ho9 := Hidd.mk (hoA.out.ext hb); clear hb))
    go_ret
    exact ⟨_, rfl, he.out, ho9.out.below fun _ => id⟩
  rw [hw] at her
  simp only at her
  have hwr : Hidd (ansI (winF (nsl n sl) [] ps 0) = -1) := ⟨by rw [hw]; rfl⟩
  clear hw
  rcases hw : rouF qs [] rs 0 with _ | i
  rotate_left
  · rw [hw] at her
    subst her
    have hrr : Hidd (ansI (rouF qs [] rs 0) = (i : Int)) := ⟨by rw [hw]; rfl⟩
    clear hw
    go_enter Try.func21, Try.ntmps21
    go_wp2_with (go_at_call 31; refine (tabCheck_any n f sl gp rh d0 d1 mg PA pn pc OA on oc RA rn rc ps qs rs _ hP1.out hQ1.out hR1.out oP.out oQ.out _ ht.out).mono ?_; rintro e w1 ⟨v, rfl, he, hb⟩; (obtain rfl : v = .nilIface := he); have ho1 := Hidd.mk (ho.out.ext hb); clear hb ho)
    generalize w.heap.size = p1 at ho1 ⊢
    obtain ⟨W0, hW0⟩ : ∃ zz, zz = World.drew w1 := ⟨_, rfl⟩
    refine wp_region_flow [([0, 2, 4, 3, 5, 6], some (1, [true])), ([7, 8], none)] (by kernel_rfl) (by kernel_rfl) ?_
    rw [show ({ w1 with drawn := w1.drawn + 1 } : World) = W0 from hW0.symm]
    replace hW0 := Hidd.mk hW0
    simp only [opsF, List.map_cons, List.map_nil, List.getD_cons_succ, List.getD_cons_zero, Option.map]
    have ho2 := Hidd.mk (show Own w (fun _ => False) W0 _ by rw [hW0.out]; exact ho1.out.drew)
    clear hW0 ho1
    obtain ⟨x0, x1, x2, x3, x4, x5, x6, x7, x8, x9, xA⟩ := cells11 ho2.out 0 rfl
    have hpl := ho2.out.lt 0 rfl
    refine FlW.stage (fun zz => Kept (fun _ => False) W0 zz) (Kept.refl _ _) ?_
    repeat (first | (refine StQ.skip (by rfl) ?_; simp only [Act.put, List.setIfInBounds_toArray, List.set_cons_zero, List.set_cons_succ]) | (refine StQ.go' (by rfl) (Exists.intro ?_ (And.intro (fun w' hS => ?_) ?_)); rotate_left; (focus (have hc := Kept.cell0 hS; go_simp; try with_reducible rfl)); simp only [Act.put, List.setIfInBounds_toArray, List.set_cons_zero, List.set_cons_succ]))
    refine StQ.nil ?_
    refine FlO.go (by rfl) (fun K hK => ?_)
    go_simp
    (refine (prec_any n f sl gp rh d0 d1 mg PA pn pc OA on oc RA rn rc _ hs.out).mono ?_; rintro e w5 ⟨rfl, hb5⟩; rw [hDe.out, hPe.out]; have ho5 := Hidd.mk (ho2.out.ext hb5))
    refine hK.out _ _ (.inr ⟨Kept.below hb5, trivial⟩) ?_
    clear hK K
    clear x0 x1 x2 x3 x4 x5 x6 x7 x8 x9 xA ho2 hb5 hpl
    refine FlW.heads (fun zz => zz = _) rfl ?_
    repeat (first | (refine StQ.skip (by rfl) ?_; simp only [Act.put, List.setIfInBounds_toArray, List.set_cons_zero, List.set_cons_succ]) | (refine StQ.go' (by rfl) (Exists.intro ?_ (And.intro (fun w' hS => ?_) ?_)); rotate_left; (focus (rw [hS]; go_simp; try with_reducible rfl)); simp only [Act.put, List.setIfInBounds_toArray, List.set_cons_zero, List.set_cons_succ]))
    refine StQ.nil ?_
    refine FlW.nil (Calm.normal ?_)
    obtain ⟨x0, x1, x2, x3, x4, x5, x6, x7, x8, x9, xA⟩ := cells11 ho5.out 0 rfl
    have hpl := ho5.out.lt 0 rfl
    go_wp2
    clear x0 x1 x2 x3 x4 x5 x6 x7 x8 x9 xA hpl
    obtain ⟨W7, hW7⟩ : ∃ zz, zz = World.drew w5 := ⟨_, rfl⟩
    refine wp_region_flow [([0, 2, 3, 5, 1, 4], some (6, [true])), ([7, 8, 9], none)] (by kernel_rfl) (by kernel_rfl) ?_
    rw [show ({ w5 with drawn := w5.drawn + 1 } : World) = W7 from hW7.symm]
    replace hW7 := Hidd.mk hW7
    simp only [opsF, List.map_cons, List.map_nil, List.getD_cons_succ, List.getD_cons_zero, Option.map]
    have ho2 := Hidd.mk (show Own w (fun _ => False) W7 _ by rw [hW7.out]; exact ho5.out.drew)
    clear hW7 ho5
    obtain ⟨x0, x1, x2, x3, x4, x5, x6, x7, x8, x9, xA⟩ := cells11 ho2.out 0 rfl
    have hpl := ho2.out.lt 0 rfl
    refine FlW.stage (fun zz => Kept (fun _ => False) W7 zz) (Kept.refl _ _) ?_
    repeat (first | (refine StQ.skip (by rfl) ?_; simp only [Act.put, List.setIfInBounds_toArray, List.set_cons_zero, List.set_cons_succ]) | (refine StQ.go' (by rfl) (Exists.intro ?_ (And.intro (fun w' hS => ?_) ?_)); rotate_left; (focus (have hc := Kept.cell0 hS; go_simp; try with_reducible rfl)); simp only [Act.put, List.setIfInBounds_toArray, List.set_cons_zero, List.set_cons_succ]))
    refine StQ.nil ?_
    refine FlO.go (by rfl) (fun K hK => ?_)
    go_simp
    (refine (drift_any n f sl gp rh d0 d1 mg PA pn pc OA on oc RA rn rc _ hs.out).mono ?_; rintro e w8 ⟨rfl, hb8⟩; rw [hDe.out]; have ho8 := Hidd.mk (ho2.out.ext hb8))
    refine hK.out _ _ (.inr ⟨Kept.below hb8, trivial⟩) ?_
    clear hK K
    clear x0 x1 x2 x3 x4 x5 x6 x7 x8 x9 xA ho2 hb8 hpl
    refine FlW.heads (fun zz => zz = _) rfl ?_
    repeat (first | (refine StQ.skip (by rfl) ?_; simp only [Act.put, List.setIfInBounds_toArray, List.set_cons_zero, List.set_cons_succ]) | (refine StQ.go' (by rfl) (Exists.intro ?_ (And.intro (fun w' hS => ?_) ?_)); rotate_left; (focus (rw [hS]; go_simp; try with_reducible rfl)); simp only [Act.put, List.setIfInBounds_toArray, List.set_cons_zero, List.set_cons_succ]))
    refine StQ.nil ?_
    refine FlW.nil (Calm.normal ?_)
    obtain ⟨x0, x1, x2, x3, x4, x5, x6, x7, x8, x9, xA⟩ := cells11 ho8.out 0 rfl
    have hpl := ho8.out.lt 0 rfl
    go_wp2_with (first
      | (go_at_call 54; refine (windows_any n f sl gp rh d0 d1 mg PA pn pc OA on oc RA rn rc ps _ (hP.out.below (ho8.out.below fun _ => id)) hs.out hin.out b1 hpc hpm _ hwr.out).mono ?_; rintro e w9 ⟨rfl, hb9⟩; have hoA := Hidd.mk (ho8.out.ext hb9); clear ho8 hb9; clear x0 x1 x2 x3 x4 x5 x6 x7 x8 x9 xA hpl; obtain ⟨x0, x1, x2, x3, x4, x5, x6, x7, x8, x9, xA⟩ := cells11 hoA.out 0 rfl; have hpl := hoA.out.lt 0 rfl)
      | (go_at_call 55; have hq := hoA.out; clear hq; refine (routes_any n f sl gp rh d0 d1 mg PA pn pc OA on oc RA rn rc qs rs _ (hQ.out.below (hoA.out.below fun _ => id)) (hR.out.below (hoA.out.below fun _ => id)) hrt.out b2 b3 hrc hrm _ hrr.out).mono ?_; rintro e wA ⟨rfl, hbA⟩; have hoB := Hidd.mk (hoA.out.ext hbA); clear hoA hbA)
      | (go_at_call 52; refine (new_any 72 (i : Int) _ (by decide) (by omega)).mono ?_; rintro e w9 ⟨b, rfl, he, hb⟩; replace he := Hidd.mk he; have ho9 := Hidd.mk (hoB.out.ext hb); clear hb))
    go_ret
    exact ⟨_, rfl, he.out, ho9.out.below fun _ => id⟩
  · rw [hw] at her
    subst her
    have hrr : Hidd (ansI (rouF qs [] rs 0) = -1) := ⟨by rw [hw]; rfl⟩
    clear hw
    go_enter Try.func21, Try.ntmps21
    go_wp2_with (go_at_call 31; refine (tabCheck_any n f sl gp rh d0 d1 mg PA pn pc OA on oc RA rn rc ps qs rs _ hP1.out hQ1.out hR1.out oP.out oQ.out _ ht.out).mono ?_; rintro e w1 ⟨v, rfl, he, hb⟩; (obtain rfl : v = .nilIface := he); have ho1 := Hidd.mk (ho.out.ext hb); clear hb ho)
    generalize w.heap.size = p1 at ho1 ⊢
    obtain ⟨W0, hW0⟩ : ∃ zz, zz = World.drew w1 := ⟨_, rfl⟩
    refine wp_region_flow [([0, 2, 4, 3, 5, 6], some (1, [true])), ([7, 8], none)] (by kernel_rfl) (by kernel_rfl) ?_
    rw [show ({ w1 with drawn := w1.drawn + 1 } : World) = W0 from hW0.symm]
    replace hW0 := Hidd.mk hW0
    simp only [opsF, List.map_cons, List.map_nil, List.getD_cons_succ, List.getD_cons_zero, Option.map]
    have ho2 := Hidd.mk (show Own w (fun _ => False) W0 _ by rw [hW0.out]; exact ho1.out.drew)
    clear hW0 ho1
    obtain ⟨x0, x1, x2, x3, x4, x5, x6, x7, x8, x9, xA⟩ := cells11 ho2.out 0 rfl
    have hpl := ho2.out.lt 0 rfl
    refine FlW.stage (fun zz => Kept (fun _ => False) W0 zz) (Kept.refl _ _) ?_
    repeat (first | (refine StQ.skip (by rfl) ?_; simp only [Act.put, List.setIfInBounds_toArray, List.set_cons_zero, List.set_cons_succ]) | (refine StQ.go' (by rfl) (Exists.intro ?_ (And.intro (fun w' hS => ?_) ?_)); rotate_left; (focus (have hc := Kept.cell0 hS; go_simp; try with_reducible rfl)); simp only [Act.put, List.setIfInBounds_toArray, List.set_cons_zero, List.set_cons_succ]))
    refine StQ.nil ?_
    refine FlO.go (by rfl) (fun K hK => ?_)
    go_simp
    (refine (prec_any n f sl gp rh d0 d1 mg PA pn pc OA on oc RA rn rc _ hs.out).mono ?_; rintro e w5 ⟨rfl, hb5⟩; rw [hDe.out, hPe.out]; have ho5 := Hidd.mk (ho2.out.ext hb5))
    refine hK.out _ _ (.inr ⟨Kept.below hb5, trivial⟩) ?_
    clear hK K
    clear x0 x1 x2 x3 x4 x5 x6 x7 x8 x9 xA ho2 hb5 hpl
    refine FlW.heads (fun zz => zz = _) rfl ?_
    repeat (first | (refine StQ.skip (by rfl) ?_; simp only [Act.put, List.setIfInBounds_toArray, List.set_cons_zero, List.set_cons_succ]) | (refine StQ.go' (by rfl) (Exists.intro ?_ (And.intro (fun w' hS => ?_) ?_)); rotate_left; (focus (rw [hS]; go_simp; try with_reducible rfl)); simp only [Act.put, List.setIfInBounds_toArray, List.set_cons_zero, List.set_cons_succ]))
    refine StQ.nil ?_
    refine FlW.nil (Calm.normal ?_)
    obtain ⟨x0, x1, x2, x3, x4, x5, x6, x7, x8, x9, xA⟩ := cells11 ho5.out 0 rfl
    have hpl := ho5.out.lt 0 rfl
    go_wp2
    clear x0 x1 x2 x3 x4 x5 x6 x7 x8 x9 xA hpl
    obtain ⟨W7, hW7⟩ : ∃ zz, zz = World.drew w5 := ⟨_, rfl⟩
    refine wp_region_flow [([0, 2, 3, 5, 1, 4], some (6, [true])), ([7, 8, 9], none)] (by kernel_rfl) (by kernel_rfl) ?_
    rw [show ({ w5 with drawn := w5.drawn + 1 } : World) = W7 from hW7.symm]
    replace hW7 := Hidd.mk hW7
    simp only [opsF, List.map_cons, List.map_nil, List.getD_cons_succ, List.getD_cons_zero, Option.map]
    have ho2 := Hidd.mk (show Own w (fun _ => False) W7 _ by rw [hW7.out]; exact ho5.out.drew)
    clear hW7 ho5
    obtain ⟨x0, x1, x2, x3, x4, x5, x6, x7, x8, x9, xA⟩ := cells11 ho2.out 0 rfl
    have hpl := ho2.out.lt 0 rfl
    refine FlW.stage (fun zz => Kept (fun _ => False) W7 zz) (Kept.refl _ _) ?_
    repeat (first | (refine StQ.skip (by rfl) ?_; simp only [Act.put, List.setIfInBounds_toArray, List.set_cons_zero, List.set_cons_succ]) | (refine StQ.go' (by rfl) (Exists.intro ?_ (And.intro (fun w' hS => ?_) ?_)); rotate_left; (focus (have hc := Kept.cell0 hS; go_simp; try with_reducible rfl)); simp only [Act.put, List.setIfInBounds_toArray, List.set_cons_zero, List.set_cons_succ]))
    refine StQ.nil ?_
    refine FlO.go (by rfl) (fun K hK => ?_)
    go_simp
    (refine (drift_any n f sl gp rh d0 d1 mg PA pn pc OA on oc RA rn rc _ hs.out).mono ?_; rintro e w8 ⟨rfl, hb8⟩; rw [hDe.out]; have ho8 := Hidd.mk (ho2.out.ext hb8))
    refine hK.out _ _ (.inr ⟨Kept.below hb8, trivial⟩) ?_
    clear hK K
    clear x0 x1 x2 x3 x4 x5 x6 x7 x8 x9 xA ho2 hb8 hpl
    refine FlW.heads (fun zz => zz = _) rfl ?_
    repeat (first | (refine StQ.skip (by rfl) ?_; simp only [Act.put, List.setIfInBounds_toArray, List.set_cons_zero, List.set_cons_succ]) | (refine StQ.go' (by rfl) (Exists.intro ?_ (And.intro (fun w' hS => ?_) ?_)); rotate_left; (focus (rw [hS]; go_simp; try with_reducible rfl)); simp only [Act.put, List.setIfInBounds_toArray, List.set_cons_zero, List.set_cons_succ]))
    refine StQ.nil ?_
    refine FlW.nil (Calm.normal ?_)
    obtain ⟨x0, x1, x2, x3, x4, x5, x6, x7, x8, x9, xA⟩ := cells11 ho8.out 0 rfl
    have hpl := ho8.out.lt 0 rfl
    go_wp2_with (first
      | (go_at_call 54; refine (windows_any n f sl gp rh d0 d1 mg PA pn pc OA on oc RA rn rc ps _ (hP.out.below (ho8.out.below fun _ => id)) hs.out hin.out b1 hpc hpm _ hwr.out).mono ?_; rintro e w9 ⟨rfl, hb9⟩; have hoA := Hidd.mk (ho8.out.ext hb9); clear ho8 hb9; clear x0 x1 x2 x3 x4 x5 x6 x7 x8 x9 xA hpl; obtain ⟨x0, x1, x2, x3, x4, x5, x6, x7, x8, x9, xA⟩ := cells11 hoA.out 0 rfl; have hpl := hoA.out.lt 0 rfl)
      | (go_at_call 55; have hq := hoA.out; clear hq; refine (routes_any n f sl gp rh d0 d1 mg PA pn pc OA on oc RA rn rc qs rs _ (hQ.out.below (hoA.out.below fun _ => id)) (hR.out.below (hoA.out.below fun _ => id)) hrt.out b2 b3 hrc hrm _ hrr.out).mono ?_; rintro e wA ⟨rfl, hbA⟩; have hoB := Hidd.mk (hoA.out.ext hbA); clear hoA hbA))
    go_ret
    exact ⟨_, rfl, rfl, hoB.out.below fun _ => id⟩
end Go.Proofs.Ytcamoldjljfbeaa
