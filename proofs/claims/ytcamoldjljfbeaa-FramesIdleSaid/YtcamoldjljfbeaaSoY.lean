/- FramesIdle walked. -/
import Derived.Test.YtcamoldjljfbeaaSoX
import Derived.Test.YtcamoldjljfbeaaSoM
namespace Go.Proofs.Ytcamoldjljfbeaa
open Go.RowKit

set_option maxRecDepth 100000
set_option maxHeartbeats 8000000
theorem framesIdle_walk (n f sl gp rh d0 d1 mg : Int) (PA : Option Addr) (pn pc : Nat) (pz : List (List Value)) (OA : Option Addr) (on oc : Nat) (oz : List (List Value)) (RA : Option Addr) (rn rc : Nat) (rz : List (List Value)) (z : Int) (w : World) (_h0 : (Lit.int .i64 n).wf = true) (_h1 : (Lit.int .i64 f).wf = true) (_h2 : (Lit.int .i64 sl).wf = true) (_h3 : (Lit.int .i64 gp).wf = true) (_h4 : (Lit.int .i64 rh).wf = true) (_h5 : (Lit.int .i64 d0).wf = true) (_h6 : (Lit.int .i64 d1).wf = true) (_h7 : (Lit.int .i64 mg).wf = true) (h8 : Rows' w 48 [.int .i64, .int .i64, .int .i64, .int .i64, .int .i64, .int .u8, .int .u8, .int .u8, .int .u8] PA pn pc pz) (h9 : Rows' w 40 [.int .i64, .int .u8, .bool, .int .i64, .int .i64, .int .i64] OA on oc oz) (hA : Rows' w 16 [.int .i64, .int .i64] RA rn rc rz) (_ : (Lit.int .i64 z).wf = true) :
    Calls Try.prog 13 #[.agg #[.int .i64 n, .int .i64 f, .int .i64 sl, .int .i64 gp, .int .i64 rh, .int .i64 d0, .int .i64 d1, .int .i64 mg, .slice PA pn pc, .slice OA on oc, .slice RA rn rc], .int .i64 z] w fun e w' => e = .returned (.bool true) ∧ Below w.heap.size w w' := by
  obtain ⟨ps, hP, oP⟩ := parts_of h8
  obtain ⟨qs, hQ, oQ⟩ := ports_of h9
  obtain ⟨rs, hR, _⟩ := routes_of hA
  clear _h0 _h1 _h2 _h3 _h4 _h5 _h6 _h7 h8 h9 hA
  have ho := Hidd.mk ((Own.nil w (fun _ => False)).alloc (.cells #[.int .i64 n, .int .i64 f, .int .i64 sl, .int .i64 gp, .int .i64 rh, .int .i64 d0, .int .i64 d1, .int .i64 mg, .slice PA pn pc, .slice OA on oc, .slice RA rn rc] 26))
  replace hP := Hidd.mk hP
  replace hQ := Hidd.mk hQ
  replace hR := Hidd.mk hR
  replace oP := Hidd.mk oP
  replace oQ := Hidd.mk oQ
  rcases hw : workB n f sl gp rh d0 d1 mg ps qs rs with _ | _
  · replace hw := Hidd.mk hw
    go_enter Try.func13, Try.ntmps13
    go_wp2_with (first
      | (go_at_call 34; refine (awake17_any _).mono ?_; rintro e w1 ⟨rfl, hb⟩; have ho1 := Hidd.mk (ho.out.ext hb); clear hb ho; obtain ⟨x0, x1, x2, x3, x4, x5, x6, x7, x8, x9, xA⟩ := cells11 ho1.out 0 rfl)
      | (go_at_call 25; refine (works_any n f sl gp rh d0 d1 mg PA pn pc OA on oc RA rn rc ps qs rs _ (hP.out.below (ho1.out.below fun _ => id)) (hQ.out.below (ho1.out.below fun _ => id)) (hR.out.below (ho1.out.below fun _ => id)) oP.out oQ.out _ hw.out).mono ?_; rintro e w2 ⟨rfl, hb⟩; have ho2 := Hidd.mk (ho1.out.ext hb); clear hb ho1))
    go_ret
    exact ⟨rfl, ho2.out.below fun _ => id⟩
  · have hS := Hidd.mk (Snd.of (work_tab hw))
    have bP := hS.out.tab.np
    rw [hP.out.1] at bP
    have hi := Hidd.mk (show ∀ p ∈ ps, PtIn p from fun p hp => PtIn.of (hS.out.tab.p p hp))
    have hd := Hidd.mk (Dis.of hS.out.win)
    have hs := Hidd.mk hS.out.tab.sc
    obtain ⟨l, hl⟩ : ∃ l, ordL ps z = l := ⟨_, rfl⟩
    have hO : Ord ps z l := by rw [← hl]; exact ordL_ord _ _
    obtain ⟨ln, hln⟩ : ∃ ln, l.length = ln := ⟨_, rfl⟩
    have hl12 : ln ≤ 12 := by rw [← hln]; have := hO.len; have := hP.out.1; omega
    have hbd := Hidd.mk (sumL_bd hi.out)
    have hst := Hidd.mk (st_bd hi.out)
    have hRb := hs.out.rnd
    obtain ⟨R, hRe⟩ : ∃ R, rnd n sl gp = R := ⟨_, rfl⟩
    rw [hRe] at hRb
    have hpl := Hidd.mk hP.out.1
    replace hw := Hidd.mk hw
    replace hl := Hidd.mk hl
    replace hln := Hidd.mk hln
    replace hO := Hidd.mk hO
    replace hRe := Hidd.mk hRe
    clear hS
    go_enter Try.func13, Try.ntmps13
    go_wp2_with (first
      | (go_at_call 34; refine (awake17_any _).mono ?_; rintro e w1 ⟨rfl, hb⟩; have ho1 := Hidd.mk (ho.out.ext hb); clear hb ho; obtain ⟨x0, x1, x2, x3, x4, x5, x6, x7, x8, x9, xA⟩ := cells11 ho1.out 0 rfl)
      | (go_at_call 25; refine (works_any n f sl gp rh d0 d1 mg PA pn pc OA on oc RA rn rc ps qs rs _ (hP.out.below (ho1.out.below fun _ => id)) (hQ.out.below (ho1.out.below fun _ => id)) (hR.out.below (ho1.out.below fun _ => id)) oP.out oQ.out _ hw.out).mono ?_; rintro e w2 ⟨rfl, hb⟩; have ho2 := Hidd.mk (ho1.out.ext hb); clear hb ho1; clear x0 x1 x2 x3 x4 x5 x6 x7 x8 x9 xA; obtain ⟨x0, x1, x2, x3, x4, x5, x6, x7, x8, x9, xA⟩ := cells11 ho2.out 0 rfl)
      | (go_at_call 41; refine (frIdle_any n f sl gp rh d0 d1 mg PA pn pc OA on oc RA rn rc ps z _ (hP.out.below (ho2.out.below fun _ => id)) bP hi.out hd.out hs.out).mono ?_; rintro e w3 ⟨rfl, hb⟩; rw [hl.out, hRe.out]; have ho3 := Hidd.mk (ho2.out.ext hb); clear hb ho2; clear x0 x1 x2 x3 x4 x5 x6 x7 x8 x9 xA; obtain ⟨x0, x1, x2, x3, x4, x5, x6, x7, x8, x9, xA⟩ := cells11 ho3.out 0 rfl)
      | (go_at_call 37; refine (wins_any n f sl gp rh d0 d1 mg PA pn pc OA on oc RA rn rc ps z l _ (hP.out.below (ho3.out.below fun _ => id)) bP hi.out hd.out hl.out ln hln.out).mono ?_; rintro e w4 ⟨A, c, rfl, hn⟩; have ho4 := Hidd.mk (ho3.out.madeL hn); clear hn))
    clear ho3 x0 x1 x2 x3 x4 x5 x6 x7 x8 x9 xA
    generalize w.heap.size = p1 at ho4 ⊢
    have hbl := hbd.out l
    obtain ⟨M, hM⟩ : ∃ M, sumL ps l = M := ⟨_, rfl⟩
    rw [hM] at hbl ⊢
    rw [hln.out] at hbl
    replace hM := Hidd.mk hM
    obtain ⟨hbl1, hbl2⟩ := hbl
    have hbl3 : M ≤ 3221225472 := by omega
    clear hbl2
    go_loopw [5, 20] (fun v5 v20 wr => ∃ (j : Nat), v20 = .int .i64 j ∧ v5 = .int .i64 (R - M + sumL ps (l.take j)) ∧ j ≤ ln ∧ Hidd (Own w (fun _ => False) wr [row 62 3 (.slice A ln c) ln (l.flatMap (winC ps)), blk p1 (.cells #[.int .i64 n, .int .i64 f, .int .i64 sl, .int .i64 gp, .int .i64 rh, .int .i64 d0, .int .i64 d1, .int .i64 mg, .slice PA pn pc, .slice OA on oc, .slice RA rn rc] 26)])) (fun _ v20 _ => ln - (intOf v20).toNat)
    case atStart => exact ⟨0, rfl, by simp [sumL], Nat.zero_le _, ho4⟩
    case round =>
      clear ho4
      obtain ⟨j, rfl, rfl, hjl, ho⟩ := hrel
      obtain ⟨x0, x1, x2, x3, x4, x5, x6, x7, x8, x9, xA⟩ := cells11 ho.out 1 rfl
      by_cases hlj : j < ln
      · obtain ⟨i, hi'⟩ : ∃ x, l[j]? = some x := ⟨_, List.getElem?_eq_getElem (by rw [hln.out]; exact hlj)⟩
        obtain ⟨p, hp, hnode, hpp⟩ := hO.out.at hi'
        obtain ⟨a', rfl, y0, y1, y2⟩ := At.win (w := wr) (A := A) (n := ln) ⟨hln.out, row_cells ho.out 0 rfl⟩ hi'
        have hyl := World.block_lt_of_cell? _ _ y0
        have bj0 : (0 : Int) ≤ (j : Int) := by omega
        have bj1 : (j : Int) < (ln : Int) := by omega
        have hsu : sumL ps (l.take (j + 1)) = sumL ps (l.take j) + lnOf ps i := by rw [take_put hi', sumL_app]; simp [sumL]
        have hb1 := hbd.out (l.take j)
        have hb0 : (l.take j).length ≤ 12 := by rw [List.length_take]; omega
        obtain ⟨q1', q2', q3', q4'⟩ := hst.out i
        have hs0 := stOf_at hp
        have hu0 := lnOf_at hp
        obtain ⟨m, hm⟩ : ∃ m, sumL ps (l.take j) = m := ⟨_, rfl⟩
        rw [hs0] at y1 y2 q1' q2'
        rw [hu0] at y2 q3' q4' hsu
        rw [hm] at hb1 hsu ⊢
        have hm2 : m ≤ 3221225472 := by omega
        obtain ⟨hm1, _⟩ := hb1
        have hpp' : i < pn := by rw [← hpl.out]; exact hpp
        have bp0 : (0 : Int) ≤ (i : Int) := by omega
        have bp1 : (i : Int) < (pn : Int) := by omega
        replace hp := Hidd.mk hp
        replace hsu := Hidd.mk hsu
        clear hs0 hu0 hm hi' hb0 hpp
        obtain ⟨q0, q1, q2, q3, q4, q5, q6, q7, q8⟩ := p
        simp only at y1 y2 q1' q2' q3' q4' hsu hnode
        have va : IntKind.i64.wrap (q1 + q2 - q1) = q2 := by rw [show q1 + q2 - q1 = q2 by omega]; exact IntWalk.i64_in _ (by omega)
        have vb : IntKind.i64.wrap (R - M + m + q2) = R - M + m + q2 := IntWalk.i64_in _ (by omega)
        have hen := ho.out.alloc (.cells #[.int .i64 (i : Int), .int .i64 q1, .int .i64 (q1 + q2)] 62)
        have ho5 := Hidd.mk hen
        clear hen
        have dn : (q0 != z) = false := by rw [bne_eq_false_iff_eq]; exact hnode
        clear hnode
        go_wp2
        clear x0 x1 x2 x3 x4 x5 x6 x7 x8 x9 xA y0 y1 y2 hyl ho
        generalize wr.heap.size = p4 at ho5 ⊢
        generalize World.alloc wr _ = wb at ho5 ⊢
        obtain ⟨W0, hW0⟩ : ∃ zz, zz = World.drew wb := ⟨_, rfl⟩
        refine wp_region_flow [([0, 2, 7, 1, 3, 4, 5, 6, 8, 9, 10, 12, 15, 17, 11, 13, 16, 18, 14, 19, 20, 21, 22, 23], none)] (by kernel_rfl) (by kernel_rfl) ?_
        rw [show ({ wb with drawn := wb.drawn + 1 } : World) = W0 from hW0.symm]
        replace hW0 := Hidd.mk hW0
        simp only [opsF, List.map_cons, List.map_nil, List.getD_cons_succ, List.getD_cons_zero, Option.map]
        have ho7 := Hidd.mk (show Own w (fun _ => False) W0 _ by rw [hW0.out]; exact ho5.out.drew)
        clear hW0 ho5
        obtain ⟨x0, x1, x2, x3, x4, x5, x6, x7, x8, x9, xA⟩ := cells11 ho7.out 2 rfl
        have z0 := ho7.out.cell 0 rfl 0
        have z1 := ho7.out.cell 0 rfl 1
        have z2 := ho7.out.cell 0 rfl 2
        simp at z0 z1 z2
        obtain ⟨a, rfl, y0, y1, y2, y3, y4, y5, y6, y7, y8⟩ := (hP.out.below (ho7.out.below fun _ => id)).part hp.out
        (try simp only at y0 y1 y2)
        have hend := Hidd.mk ho7.out.tail
        refine FlW.heads (fun zz => zz = _) rfl ?_
        repeat (first | (refine StQ.skip (by rfl) ?_; simp only [Act.put, List.setIfInBounds_toArray, List.set_cons_zero, List.set_cons_succ]) | (refine StQ.go' (by rfl) (Exists.intro ?_ (And.intro (fun w' hS => ?_) ?_)); rotate_left; (focus (rw [hS]; go_simp; try with_reducible rfl)); simp only [Act.put, List.setIfInBounds_toArray, List.set_cons_zero, List.set_cons_succ]))
        refine StQ.nil ?_
        refine FlW.nil (Calm.normal ?_)
        go_wp2
        go_roundw
        case rel => exact ⟨j + 1, by go_num, by rw [hsu.out]; go_num, by omega, hend⟩
        case measure => (simp [intOf]; try omega)
      · obtain rfl : ln = j := by omega
        have h1 : l.take ln = l := List.take_of_length_le (by rw [hln.out]; exact Nat.le_refl _)
        rw [h1, hM.out, show R - M + M = R by omega]
        clear h1
        go_wp2_with (go_at_call 43; refine (rround_any n f sl gp rh d0 d1 mg PA pn pc OA on oc RA rn rc _ hs.out).mono ?_; rintro e w9 ⟨rfl, hb⟩; rw [hRe.out]; have ho9 := Hidd.mk (ho.out.ext hb); clear hb)
        go_ret
        exact ⟨by simp, ho9.out.below fun _ => id⟩
end Go.Proofs.Ytcamoldjljfbeaa
