/- FramesFind walked. -/
import Derived.Test.YtcamoldjljfbeaaSoZb
import Derived.Test.YtcamoldjljfbeaaSoZd
import Derived.Test.YtcamoldjljfbeaaSoM
namespace Go.Proofs.Ytcamoldjljfbeaa
open Go.RowKit

set_option maxRecDepth 100000
set_option maxHeartbeats 8000000
theorem framesFind_walk (n f sl gp rh d0 d1 mg : Int) (PA : Option Addr) (pn pc : Nat) (pz : List (List Value)) (OA : Option Addr) (on oc : Nat) (oz : List (List Value)) (RA : Option Addr) (rn rc : Nat) (rz : List (List Value)) (z y : Int) (w : World) (_h0 : (Lit.int .i64 n).wf = true) (_h1 : (Lit.int .i64 f).wf = true) (_h2 : (Lit.int .i64 sl).wf = true) (_h3 : (Lit.int .i64 gp).wf = true) (_h4 : (Lit.int .i64 rh).wf = true) (_h5 : (Lit.int .i64 d0).wf = true) (_h6 : (Lit.int .i64 d1).wf = true) (_h7 : (Lit.int .i64 mg).wf = true) (h8 : Rows' w 48 [.int .i64, .int .i64, .int .i64, .int .i64, .int .i64, .int .u8, .int .u8, .int .u8, .int .u8] PA pn pc pz) (h9 : Rows' w 40 [.int .i64, .int .u8, .bool, .int .i64, .int .i64, .int .i64] OA on oc oz) (hA : Rows' w 16 [.int .i64, .int .i64] RA rn rc rz) (_ : (Lit.int .i64 z).wf = true) (hy : (Lit.int .i64 y).wf = true) :
    Calls Try.prog 11 #[.agg #[.int .i64 n, .int .i64 f, .int .i64 sl, .int .i64 gp, .int .i64 rh, .int .i64 d0, .int .i64 d1, .int .i64 mg, .slice PA pn pc, .slice OA on oc, .slice RA rn rc], .int .i64 z, .int .i64 y] w fun e w' => e = .returned (.bool true) ∧ Below w.heap.size w w' := by
  obtain ⟨ps, hP, oP⟩ := parts_of h8
  obtain ⟨qs, hQ, oQ⟩ := ports_of h9
  obtain ⟨rs, hR, _⟩ := routes_of hA
  have hpw := h8.wt
  have hqw := h9.wt
  have hrw := hA.wt
  unfold reachBytes at hpw hqw hrw
  clear _h0 _h1 _h2 _h3 _h4 _h5 _h6 _h7 h8 h9 hA
  have ho := Hidd.mk ((Own.nil w (fun _ => False)).alloc (.cells #[.int .i64 n, .int .i64 f, .int .i64 sl, .int .i64 gp, .int .i64 rh, .int .i64 d0, .int .i64 d1, .int .i64 mg, .slice PA pn pc, .slice OA on oc, .slice RA rn rc] 26))
  replace hP := Hidd.mk hP
  replace hQ := Hidd.mk hQ
  replace hR := Hidd.mk hR
  replace oP := Hidd.mk oP
  replace oQ := Hidd.mk oQ
  rcases hw : workB n f sl gp rh d0 d1 mg ps qs rs with _ | _
  · replace hw := Hidd.mk hw
    go_enter Try.func11, Try.ntmps11
    go_wp2_with (first
      | (go_at_call 34; refine (awake17_any _).mono ?_; rintro e w1 ⟨rfl, hb⟩; have ho1 := Hidd.mk (ho.out.ext hb); clear hb ho; obtain ⟨x0, x1, x2, x3, x4, x5, x6, x7, x8, x9, xA⟩ := cells11 ho1.out 0 rfl)
      | (go_at_call 25; refine (works_any n f sl gp rh d0 d1 mg PA pn pc OA on oc RA rn rc ps qs rs _ (hP.out.below (ho1.out.below fun _ => id)) (hQ.out.below (ho1.out.below fun _ => id)) (hR.out.below (ho1.out.below fun _ => id)) oP.out oQ.out _ hw.out).mono ?_; rintro e w2 ⟨rfl, hb⟩; have ho2 := Hidd.mk (ho1.out.ext hb); clear hb ho1))
    go_ret
    exact ⟨rfl, ho2.out.below fun _ => id⟩
  · have hS := Hidd.mk (Snd.of (work_tab hw))
    have bP := hS.out.tab.np
    rw [hP.out.1] at bP
    have hi := Hidd.mk (show ∀ p ∈ ps, PtIn p from fun p hp => PtIn.of (hS.out.tab.p p hp))
    have hd := Hidd.mk (Dis.of hS.out.win)
    have hs := Hidd.mk hS.out.tab.sc
    obtain ⟨l, hl⟩ : ∃ l, ordL ps z = l := ⟨_, rfl⟩
    have hO : Ord ps z l := by rw [← hl]; exact ordL_ord _ _
    obtain ⟨ln, hln⟩ : ∃ ln, l.length = ln := ⟨_, rfl⟩
    have hl12 : ln ≤ 12 := by rw [← hln]; have := hO.len; have := hP.out.1; omega
    obtain ⟨R, hRe⟩ : ∃ R, rnd n sl gp - sumL ps l = R := ⟨_, rfl⟩
    have hRe2 : rnd n sl gp - sumL ps (selL ps z pn) = R := by rw [← hRe, ← hP.out.1, sumL_perm hO.perm]
    have hyw := wf64 hy
    replace hyw := Hidd.mk hyw
    replace hRe2 := Hidd.mk hRe2
    have hpl := Hidd.mk hP.out.1
    replace hw := Hidd.mk hw
    replace hl := Hidd.mk hl
    replace hln := Hidd.mk hln
    replace hO := Hidd.mk hO
    replace hRe := Hidd.mk hRe
    clear hS
    go_enter Try.func11, Try.ntmps11
    go_wp2_with (first
      | (go_at_call 34; refine (awake17_any _).mono ?_; rintro e w1 ⟨rfl, hb⟩; have ho1 := Hidd.mk (ho.out.ext hb); clear hb ho; obtain ⟨x0, x1, x2, x3, x4, x5, x6, x7, x8, x9, xA⟩ := cells11 ho1.out 0 rfl)
      | (go_at_call 25; refine (works_any n f sl gp rh d0 d1 mg PA pn pc OA on oc RA rn rc ps qs rs _ (hP.out.below (ho1.out.below fun _ => id)) (hQ.out.below (ho1.out.below fun _ => id)) (hR.out.below (ho1.out.below fun _ => id)) oP.out oQ.out _ hw.out).mono ?_; rintro e w2 ⟨rfl, hb⟩; have ho2 := Hidd.mk (ho1.out.ext hb); clear hb ho1; clear x0 x1 x2 x3 x4 x5 x6 x7 x8 x9 xA; obtain ⟨x0, x1, x2, x3, x4, x5, x6, x7, x8, x9, xA⟩ := cells11 ho2.out 0 rfl)
      | (go_at_call 22; refine (copied_any n f sl gp rh d0 d1 mg PA pn pc OA on oc RA rn rc ps qs rs _ (hP.out.below (ho2.out.below fun _ => id)) (hQ.out.below (ho2.out.below fun _ => id)) (hR.out.below (ho2.out.below fun _ => id)) hpw hqw hrw).mono ?_; rintro e w3 ⟨A, a, B, b, C, c, rfl, hn⟩; have hm3 := (ho2.out.madeL hn).alloc (.cells #[.int .i64 n, .int .i64 f, .int .i64 sl, .int .i64 gp, .int .i64 rh, .int .i64 d0, .int .i64 d1, .int .i64 mg, .slice A pn a, .slice B on b, .slice C rn c] 26); simp only [List.cons_append, List.nil_append] at hm3; have ho3 := Hidd.mk hm3; clear hn hm3 ho2; clear x0 x1 x2 x3 x4 x5 x6 x7 x8 x9 xA; obtain ⟨x0, x1, x2, x3, x4, x5, x6, x7, x8, x9, xA⟩ := cells11 ho3.out 4 rfl; obtain ⟨u0, u1, u2, u3, u4, u5, u6, u7, u8, u9, uA⟩ := cells11 ho3.out 0 rfl)
      | (go_at_call 35; refine (frNext_any n f sl gp rh d0 d1 mg A pn a B on b C rn c ps z y _ ⟨hpl.out, row_cells ho3.out 3 rfl⟩ bP hi.out hd.out).mono ?_; rintro e w4 ⟨b1, f1, rfl, hnx1, hb⟩; have hnx := Hidd.mk hnx1; have ho4 := Hidd.mk (ho3.out.ext hb); clear hb hnx1 ho3; clear x0 x1 x2 x3 x4 x5 x6 x7 x8 x9 xA u0 u1 u2 u3 u4 u5 u6 u7 u8 u9 uA; obtain ⟨x0, x1, x2, x3, x4, x5, x6, x7, x8, x9, xA⟩ := cells11 ho4.out 4 rfl; obtain ⟨u0, u1, u2, u3, u4, u5, u6, u7, u8, u9, uA⟩ := cells11 ho4.out 0 rfl)
      | (go_at_call 38; refine (rNext_any n f sl gp rh d0 d1 mg PA pn pc OA on oc RA rn rc ps z y _ (hP.out.below (ho4.out.below fun _ => id)) bP hi.out).mono ?_; rintro e w5 ⟨b2, f2, rfl, hnx2, hb⟩; obtain ⟨rfl, rfl⟩ := hnx2.uniq hnx.out; have ho5 := Hidd.mk (ho4.out.ext hb); clear hb hnx2 ho4; clear x0 x1 x2 x3 x4 x5 x6 x7 x8 x9 xA u0 u1 u2 u3 u4 u5 u6 u7 u8 u9 uA))
    clear hnx
    generalize w.heap.size = p1 at ho5 ⊢
    generalize w3.heap.size = p7 at ho5 ⊢
    --SECOND
    obtain ⟨W0, hW0⟩ : ∃ zz, zz = World.drew w5 := ⟨_, rfl⟩
    refine wp_region_flow [([0, 1, 3, 4], some (2, [true])), ([], some (5, [false, false])), ([6, 7], none)] (by kernel_rfl) (by kernel_rfl) ?_
    rw [show ({ w5 with drawn := w5.drawn + 1 } : World) = W0 from hW0.symm]
    replace hW0 := Hidd.mk hW0
    simp only [opsF, List.map_cons, List.map_nil, List.getD_cons_succ, List.getD_cons_zero, Option.map]
    have ho6 := Hidd.mk (show Own w (fun _ => False) W0 _ by rw [hW0.out]; exact ho5.out.drew)
    clear hW0 ho5
    obtain ⟨x0, x1, x2, x3, x4, x5, x6, x7, x8, x9, xA⟩ := cells11 ho6.out 4 rfl
    obtain ⟨u0, u1, u2, u3, u4, u5, u6, u7, u8, u9, uA⟩ := cells11 ho6.out 0 rfl
    have hl1 := ho6.out.lt 4 rfl
    have hl7 := ho6.out.lt 0 rfl
    refine FlW.stage (fun zz => Kept (fun _ => False) W0 zz) (Kept.refl _ _) ?_
    repeat (first | (refine StQ.skip (by rfl) ?_; simp only [Act.put, List.setIfInBounds_toArray, List.set_cons_zero, List.set_cons_succ]) | (refine StQ.go' (by rfl) (Exists.intro ?_ (And.intro (fun w' hS => ?_) ?_)); rotate_left; (focus (have hc := Kept.cell0 hS; go_simp; try with_reducible rfl)); simp only [Act.put, List.setIfInBounds_toArray, List.set_cons_zero, List.set_cons_succ]))
    refine StQ.nil ?_
    refine FlO.go (by rfl) (fun K hK => ?_)
    go_simp
    (refine (wins_any n f sl gp rh d0 d1 mg A pn a B on b C rn c ps z l _ ⟨hpl.out, row_cells ho6.out 3 rfl⟩ bP hi.out hd.out hl.out ln hln.out).mono ?_; rintro e w6 ⟨A2, a2, rfl, hn⟩; have hm := ho6.out.madeL hn; simp only [List.cons_append, List.nil_append] at hm; have ho7 := Hidd.mk hm)
    refine hK.out _ _ (.inr ⟨hn.kept, trivial⟩) ?_
    clear hK K
    clear hm hn ho6 x0 x1 x2 x3 x4 x5 x6 x7 x8 x9 xA u0 u1 u2 u3 u4 u5 u6 u7 u8 u9 uA hl1 hl7
    refine FlW.stage (fun _ => True) trivial (StQ.nil ?_)
    refine FlO.go (by rfl) (fun K hK => ?_)
    go_simp
    (refine (refOrder_any n f sl gp rh d0 d1 mg PA pn pc OA on oc RA rn rc ps z _ (hP.out.below (ho7.out.below fun _ => id)) bP l hl.out ln hln.out).mono ?_; rintro e w7 ⟨B2, b2, rfl, hn⟩; have hm := ho7.out.madeL hn; simp only [List.cons_append, List.nil_append] at hm; have ho8 := Hidd.mk hm)
    refine hK.out _ _ (.inr trivial) ?_
    clear hK K
    clear hm hn ho7
    refine FlW.heads (fun zz => zz = _) rfl ?_
    repeat (first | (refine StQ.skip (by rfl) ?_; simp only [Act.put, List.setIfInBounds_toArray, List.set_cons_zero, List.set_cons_succ]) | (refine StQ.go' (by rfl) (Exists.intro ?_ (And.intro (fun w' hS => ?_) ?_)); rotate_left; (focus (rw [hS]; go_simp; try with_reducible rfl)); simp only [Act.put, List.setIfInBounds_toArray, List.set_cons_zero, List.set_cons_succ]))
    refine StQ.nil ?_
    refine FlW.nil (Calm.normal ?_)
    go_wp2
    go_loopw [50] (fun v50 wr => ∃ (j : Nat), v50 = .int .i64 j ∧ j ≤ ln ∧ Hidd (Own w (fun _ => False) wr [row 3 1 (.slice B2 ln b2) ln (nums .i64 (nats l)), row 62 3 (.slice A2 ln a2) ln (l.flatMap (winC ps)), blk p7 (.cells #[.int .i64 n, .int .i64 f, .int .i64 sl, .int .i64 gp, .int .i64 rh, .int .i64 d0, .int .i64 d1, .int .i64 mg, .slice A pn a, .slice B on b, .slice C rn c] 26), row 41 2 (.slice C rn c) rn (rs.flatMap Rt.cells), row 44 6 (.slice B on b) on (qs.flatMap Qt.cells), row 38 9 (.slice A pn a) pn (ps.flatMap Pt.cells), blk p1 (.cells #[.int .i64 n, .int .i64 f, .int .i64 sl, .int .i64 gp, .int .i64 rh, .int .i64 d0, .int .i64 d1, .int .i64 mg, .slice PA pn pc, .slice OA on oc, .slice RA rn rc] 26)])) (fun v50 _ => ln - (intOf v50).toNat)
    case atStart => exact ⟨0, rfl, Nat.zero_le _, ho8⟩
    case round =>
      clear ho8
      obtain ⟨j, rfl, hjl, ho⟩ := hrel
      by_cases hlj : j < ln
      · obtain ⟨i, hi'⟩ : ∃ x, l[j]? = some x := ⟨_, List.getElem?_eq_getElem (by rw [hln.out]; exact hlj)⟩
        obtain ⟨p, hp, hnode, hpp⟩ := hO.out.at hi'
        obtain ⟨i1, i2, i3, i4⟩ := hi.out p (List.mem_of_getElem? hp)
        obtain ⟨g2, rfl, _⟩ := head_any (show wr.ownsRow 0 3 1 (.slice B2 ln b2) ln _ from ho.out.get 0 rfl) (by omega)
        have bj0 : (0 : Int) ≤ (j : Int) := by omega
        have bj1 : (j : Int) < (ln : Int) := by omega
        have hpp' : i < pn := by rw [← hpl.out]; exact hpp
        have bp0 : (0 : Int) ≤ (i : Int) := by omega
        have bp1 : (i : Int) < (pn : Int) := by omega
        have hs0 := stOf_at hp
        have hu0 := lnOf_at hp
        obtain ⟨q0, q1, q2, q3, q4, q5, q6, q7, q8⟩ := p
        simp only at i1 i2 i3 i4 hs0 hu0
        replace hs0 := Hidd.mk hs0
        replace hu0 := Hidd.mk hu0
        replace hp := Hidd.mk hp
        replace hi' := Hidd.mk hi'
        clear hnode hpp
        go_wp2
        obtain ⟨W0, hW0⟩ : ∃ zz, zz = World.drew wr := ⟨_, rfl⟩
        refine wp_region_flow [([0, 2, 3, 1, 4, 5, 6, 7], some (8, [true])), ([], some (9, [false, false]))] (by kernel_rfl) (by kernel_rfl) ?_
        rw [show ({ wr with drawn := wr.drawn + 1 } : World) = W0 from hW0.symm]
        replace hW0 := Hidd.mk hW0
        simp only [opsF, List.map_cons, List.map_nil, List.getD_cons_succ, List.getD_cons_zero, Option.map]
        have ho6 := Hidd.mk (show Own w (fun _ => False) W0 _ by rw [hW0.out]; exact ho.out.drew)
        clear hW0 ho
        obtain ⟨x0, x1, x2, x3, x4, x5, x6, x7, x8, x9, xA⟩ := cells11 ho6.out 6 rfl
        have z0 := cells_at (row_cells ho6.out 0 rfl) (nats_get hi'.out)
        obtain ⟨a', ea, y0, y1, y2, y3, y4, y5, y6, y7, y8⟩ := (hP.out.below (ho6.out.below fun _ => id)).part hp.out
        have hyl := World.block_lt_of_cell? _ _ y0
        have hzl := World.block_lt_of_cell? _ _ z0
        have hl1 := ho6.out.lt 6 rfl
        simp only at hzl
        subst ea
        (try simp only at y0 y1 y2 y3 y4 y5 y6 y7 y8)
        refine FlW.stage (fun zz => Kept (fun _ => False) W0 zz) (Kept.refl _ _) ?_
        repeat (first | (refine StQ.skip (by rfl) ?_; simp only [Act.put, List.setIfInBounds_toArray, List.set_cons_zero, List.set_cons_succ]) | (refine StQ.go' (by rfl) (Exists.intro ?_ (And.intro (fun w' hS => ?_) ?_)); rotate_left; (focus (have hc := Kept.cell0 hS; go_simp; try with_reducible rfl)); simp only [Act.put, List.setIfInBounds_toArray, List.set_cons_zero, List.set_cons_succ]))
        refine StQ.nil ?_
        refine FlO.go (by rfl) (fun K hK => ?_); go_simp; refine hK.out _ _ (.inr ⟨Kept.alloc _ _ _, trivial⟩) ?_; clear hK K
        clear x0 x1 x2 x3 x4 x5 x6 x7 x8 x9 xA z0 y0 y1 y2 y3 y4 y5 y6 y7 y8 hyl hzl hl1
        have hoA := Hidd.mk (ho6.out.alloc (.cells #[.int .i64 0, .int .i64 0, .int .i64 0, .int .i64 0, .int .i64 0, .int .u8 0, .int .u8 0, .int .u8 0, .int .u8 0] 38))
        clear ho6
        generalize (World.heap _).size = p9 at hoA ⊢
        generalize World.alloc _ _ = W4 at hoA ⊢
        refine FlW.stage (fun _ => True) trivial (StQ.nil ?_)
        refine FlO.go (by rfl) (fun K hK => ?_)
        have e0 := hoA.out.cell 0 rfl 0
        have f0 := hoA.out.frozen 0 rfl 0
        have e1 := hoA.out.cell 0 rfl 1
        have f1 := hoA.out.frozen 0 rfl 1
        have e2 := hoA.out.cell 0 rfl 2
        have f2 := hoA.out.frozen 0 rfl 2
        have e3 := hoA.out.cell 0 rfl 3
        have f3 := hoA.out.frozen 0 rfl 3
        have e4 := hoA.out.cell 0 rfl 4
        have f4 := hoA.out.frozen 0 rfl 4
        have e5 := hoA.out.cell 0 rfl 5
        have f5 := hoA.out.frozen 0 rfl 5
        have e6 := hoA.out.cell 0 rfl 6
        have f6 := hoA.out.frozen 0 rfl 6
        have e7 := hoA.out.cell 0 rfl 7
        have f7 := hoA.out.frozen 0 rfl 7
        have e8 := hoA.out.cell 0 rfl 8
        have f8 := hoA.out.frozen 0 rfl 8
        simp at e0 e1 e2 e3 e4 e5 e6 e7 e8
        go_simp
        have ho1 := (((((((((hoA.out.set 0 rfl 0 (.int .i64 q0)).set 0 rfl 1 (.int .i64 q1)).set 0 rfl 2 (.int .i64 q2)).set 0 rfl 3 (.int .i64 q3)).set 0 rfl 4 (.int .i64 q4)).set 0 rfl 5 (.int .u8 (q5 : Int))).set 0 rfl 6 (.int .u8 (q6 : Int))).set 0 rfl 7 (.int .u8 (q7 : Int))).set 0 rfl 8 (.int .u8 (q8 : Int)))
        simp only [List.set_cons_zero, List.set_cons_succ, List.setIfInBounds_toArray] at ho1
        refine hK.out _ _ (.inr trivial) ?_
        clear hK K hoA e0 e1 e2 e3 e4 e5 e6 e7 e8 f0 f1 f2 f3 f4 f5 f6 f7 f8
        generalize World.setCell _ _ _ = W5 at ho1 ⊢
        have hoB := Hidd.mk ho1
        clear ho1
        refine FlW.nil (Calm.normal ?_)
        go_wp2
        obtain ⟨W6, hW6⟩ : ∃ zz, zz = World.drew W5 := ⟨_, rfl⟩
        refine wp_region_flow [([0, 1, 4, 5, 8, 10, 12, 2, 6, 9, 11, 13, 3, 7, 14, 15, 16], none)] (by kernel_rfl) (by kernel_rfl) ?_
        rw [show ({ W5 with drawn := W5.drawn + 1 } : World) = W6 from hW6.symm]
        replace hW6 := Hidd.mk hW6
        simp only [opsF, List.map_cons, List.map_nil, List.getD_cons_succ, List.getD_cons_zero, Option.map]
        have hoC := Hidd.mk (show Own w (fun _ => False) W6 _ by rw [hW6.out]; exact hoB.out.drew)
        clear hW6 hoB
        have z0 := cells_at (row_cells hoC.out 1 rfl) (nats_get hi'.out)
        obtain ⟨a2', ea, v0, v1, v2⟩ := At.win (w := W6) (A := A2) (n := ln) ⟨hln.out, row_cells hoC.out 2 rfl⟩ hi'.out
        subst ea
        rw [hs0.out] at v1 v2
        rw [hu0.out] at v2
        have s1 := hoC.out.cell 0 rfl 1
        have s2 := hoC.out.cell 0 rfl 2
        simp at s1 s2
        have va : IntKind.i64.wrap (q1 + q2) = q1 + q2 := IntWalk.i64_in _ (by omega)
        have hend := Hidd.mk hoC.out.tail
        refine FlW.heads (fun zz => zz = _) rfl ?_
        repeat (first | (refine StQ.skip (by rfl) ?_; simp only [Act.put, List.setIfInBounds_toArray, List.set_cons_zero, List.set_cons_succ]) | (refine StQ.go' (by rfl) (Exists.intro ?_ (And.intro (fun w' hS => ?_) ?_)); rotate_left; (focus (rw [hS]; go_simp; try with_reducible rfl)); simp only [Act.put, List.setIfInBounds_toArray, List.set_cons_zero, List.set_cons_succ]))
        refine StQ.nil ?_
        refine FlW.nil (Calm.normal ?_)
        go_wp2
        go_roundw
        case rel => exact ⟨j + 1, by go_num, by omega, hend⟩
        case measure => (simp [intOf]; try omega)
      · obtain rfl : ln = j := by omega
        go_wp2
        obtain ⟨W0, hW0⟩ : ∃ zz, zz = World.drew wr := ⟨_, rfl⟩
        refine wp_region_flow [([0, 1, 2, 4, 5, 6], some (3, [true])), ([], some (7, [false, false])), ([8, 9, 10, 11, 12, 13, 14, 15, 16, 17, 18, 19, 20, 21, 23, 24], some (22, [true, false, false])), ([], some (25, [false, false, false, false])), ([26, 27, 28], none)] (by kernel_rfl) (by kernel_rfl) ?_
        rw [show ({ wr with drawn := wr.drawn + 1 } : World) = W0 from hW0.symm]
        replace hW0 := Hidd.mk hW0
        simp only [opsF, List.map_cons, List.map_nil, List.getD_cons_succ, List.getD_cons_zero, Option.map]
        have ho6 := Hidd.mk (show Own w (fun _ => False) W0 _ by rw [hW0.out]; exact ho.out.drew)
        clear hW0 ho
        obtain ⟨x0, x1, x2, x3, x4, x5, x6, x7, x8, x9, xA⟩ := cells11 ho6.out 6 rfl
        obtain ⟨u0, u1, u2, u3, u4, u5, u6, u7, u8, u9, uA⟩ := cells11 ho6.out 2 rfl
        have hl1 := ho6.out.lt 6 rfl
        have hl7 := ho6.out.lt 2 rfl
        refine FlW.stage (fun zz => Kept (fun _ => False) W0 zz) (Kept.refl _ _) ?_
        repeat (first | (refine StQ.skip (by rfl) ?_; simp only [Act.put, List.setIfInBounds_toArray, List.set_cons_zero, List.set_cons_succ]) | (refine StQ.go' (by rfl) (Exists.intro ?_ (And.intro (fun w' hS => ?_) ?_)); rotate_left; (focus (have hc := Kept.cell0 hS; go_simp; try with_reducible rfl)); simp only [Act.put, List.setIfInBounds_toArray, List.set_cons_zero, List.set_cons_succ]))
        refine StQ.nil ?_
        refine FlO.go (by rfl) (fun K hK => ?_)
        go_simp
        (refine (frAt_any n f sl gp rh d0 d1 mg A pn a B on b C rn c ps z y _ ⟨hpl.out, row_cells ho6.out 5 rfl⟩ bP hi.out hd.out).mono ?_; rintro e w8 ⟨r1, rfl, har1, hb⟩; have ho7 := Hidd.mk (ho6.out.ext hb))
        refine hK.out _ _ (.inr ⟨Kept.below hb, trivial⟩) ?_
        clear hK K
        replace har1 := Hidd.mk har1
        clear hb ho6 x0 x1 x2 x3 x4 x5 x6 x7 x8 x9 xA u0 u1 u2 u3 u4 u5 u6 u7 u8 u9 uA hl1 hl7
        refine FlW.stage (fun _ => True) trivial (StQ.nil ?_)
        refine FlO.go (by rfl) (fun K hK => ?_)
        go_simp
        (refine (rAt_any n f sl gp rh d0 d1 mg PA pn pc OA on oc RA rn rc ps z y _ (hP.out.below (ho7.out.below fun _ => id)) bP hi.out hyw.out).mono ?_; rintro e w9 ⟨r2, rfl, har2, hb⟩; have ho8 := Hidd.mk (ho7.out.ext hb))
        refine hK.out _ _ (.inr trivial) ?_
        clear hK K
        obtain rfl := har2.uniq hd.out har1.out
        clear hb ho7 har1 har2
        obtain ⟨x0, x1, x2, x3, x4, x5, x6, x7, x8, x9, xA⟩ := cells11 ho8.out 6 rfl
        obtain ⟨u0, u1, u2, u3, u4, u5, u6, u7, u8, u9, uA⟩ := cells11 ho8.out 2 rfl
        have hl1 := ho8.out.lt 6 rfl
        have hl7 := ho8.out.lt 2 rfl
        refine FlW.stage (fun zz => Kept (fun _ => False) w9 zz) (Kept.refl _ _) ?_
        repeat (first | (refine StQ.skip (by rfl) ?_; simp only [Act.put, List.setIfInBounds_toArray, List.set_cons_zero, List.set_cons_succ]) | (refine StQ.go' (by rfl) (Exists.intro ?_ (And.intro (fun w' hS => ?_) ?_)); rotate_left; (focus (have hc := Kept.cell0 hS; go_simp; try with_reducible rfl)); simp only [Act.put, List.setIfInBounds_toArray, List.set_cons_zero, List.set_cons_succ]))
        refine StQ.nil ?_
        refine FlO.go (by rfl) (fun K hK => ?_)
        go_simp
        (refine (frIdle_any n f sl gp rh d0 d1 mg A pn a B on b C rn c ps z _ ⟨hpl.out, row_cells ho8.out 5 rfl⟩ bP hi.out hd.out hs.out).mono ?_; rintro e wA ⟨rfl, hb⟩; rw [hl.out, hRe.out]; have ho9 := Hidd.mk (ho8.out.ext hb))
        refine hK.out _ _ (.inr ⟨Kept.below hb, trivial⟩) ?_
        clear hK K
        clear hb ho8 x0 x1 x2 x3 x4 x5 x6 x7 x8 x9 xA u0 u1 u2 u3 u4 u5 u6 u7 u8 u9 uA hl1 hl7
        refine FlW.stage (fun _ => True) trivial (StQ.nil ?_)
        refine FlO.go (by rfl) (fun K hK => ?_)
        go_simp
        (refine (rIdle_any n f sl gp rh d0 d1 mg PA pn pc OA on oc RA rn rc ps z _ (hP.out.below (ho9.out.below fun _ => id)) bP hi.out hs.out).mono ?_; rintro e wB ⟨rfl, hb⟩; rw [hRe2.out]; have hoD := Hidd.mk (ho9.out.ext hb))
        refine hK.out _ _ (.inr trivial) ?_
        clear hK K
        clear hb ho9
        refine FlW.heads (fun zz => zz = _) rfl ?_
        repeat (first | (refine StQ.skip (by rfl) ?_; simp only [Act.put, List.setIfInBounds_toArray, List.set_cons_zero, List.set_cons_succ]) | (refine StQ.go' (by rfl) (Exists.intro ?_ (And.intro (fun w' hS => ?_) ?_)); rotate_left; (focus (rw [hS]; go_simp; try with_reducible rfl)); simp only [Act.put, List.setIfInBounds_toArray, List.set_cons_zero, List.set_cons_succ]))
        refine StQ.nil ?_
        refine FlW.nil (Calm.normal ?_)
        go_wp2
        go_ret
        exact ⟨rfl, hoD.out.below fun _ => id⟩
end Go.Proofs.Ytcamoldjljfbeaa
