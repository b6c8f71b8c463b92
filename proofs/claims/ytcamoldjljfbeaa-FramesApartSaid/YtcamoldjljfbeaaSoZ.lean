/- FramesApart walked. -/
import Derived.Test.YtcamoldjljfbeaaSoX
import Derived.Test.YtcamoldjljfbeaaSoM
namespace Go.Proofs.Ytcamoldjljfbeaa
open Go.RowKit

set_option maxRecDepth 100000
set_option maxHeartbeats 8000000
theorem framesApart_walk (n f sl gp rh d0 d1 mg : Int) (PA : Option Addr) (pn pc : Nat) (pz : List (List Value)) (OA : Option Addr) (on oc : Nat) (oz : List (List Value)) (RA : Option Addr) (rn rc : Nat) (rz : List (List Value)) (z y : Int) (w : World) (_h0 : (Lit.int .i64 n).wf = true) (_h1 : (Lit.int .i64 f).wf = true) (_h2 : (Lit.int .i64 sl).wf = true) (_h3 : (Lit.int .i64 gp).wf = true) (_h4 : (Lit.int .i64 rh).wf = true) (_h5 : (Lit.int .i64 d0).wf = true) (_h6 : (Lit.int .i64 d1).wf = true) (_h7 : (Lit.int .i64 mg).wf = true) (h8 : Rows' w 48 [.int .i64, .int .i64, .int .i64, .int .i64, .int .i64, .int .u8, .int .u8, .int .u8, .int .u8] PA pn pc pz) (h9 : Rows' w 40 [.int .i64, .int .u8, .bool, .int .i64, .int .i64, .int .i64] OA on oc oz) (hA : Rows' w 16 [.int .i64, .int .i64] RA rn rc rz) (_ : (Lit.int .i64 z).wf = true) (_ : (Lit.int .i64 y).wf = true) :
    Calls Try.prog 12 #[.agg #[.int .i64 n, .int .i64 f, .int .i64 sl, .int .i64 gp, .int .i64 rh, .int .i64 d0, .int .i64 d1, .int .i64 mg, .slice PA pn pc, .slice OA on oc, .slice RA rn rc], .int .i64 z, .int .i64 y] w fun e w' => e = .returned (.bool true) ∧ Below w.heap.size w w' := by
  obtain ⟨ps, hP, oP⟩ := parts_of h8
  obtain ⟨qs, hQ, oQ⟩ := ports_of h9
  obtain ⟨rs, hR, _⟩ := routes_of hA
  clear _h0 _h1 _h2 _h3 _h4 _h5 _h6 _h7 h8 h9 hA
  have ho := Hidd.mk ((Own.nil w (fun _ => False)).alloc (.cells #[.int .i64 n, .int .i64 f, .int .i64 sl, .int .i64 gp, .int .i64 rh, .int .i64 d0, .int .i64 d1, .int .i64 mg, .slice PA pn pc, .slice OA on oc, .slice RA rn rc] 26))
  replace hP := Hidd.mk hP
  replace hQ := Hidd.mk hQ
  replace hR := Hidd.mk hR
  replace oP := Hidd.mk oP
  replace oQ := Hidd.mk oQ
  rcases hw : workB n f sl gp rh d0 d1 mg ps qs rs with _ | _
  · replace hw := Hidd.mk hw
    go_enter Try.func12, Try.ntmps12
    go_wp2_with (first
      | (go_at_call 34; refine (awake17_any _).mono ?_; rintro e w1 ⟨rfl, hb⟩; have ho1 := Hidd.mk (ho.out.ext hb); clear hb ho; obtain ⟨x0, x1, x2, x3, x4, x5, x6, x7, x8, x9, xA⟩ := cells11 ho1.out 0 rfl)
      | (go_at_call 25; refine (works_any n f sl gp rh d0 d1 mg PA pn pc OA on oc RA rn rc ps qs rs _ (hP.out.below (ho1.out.below fun _ => id)) (hQ.out.below (ho1.out.below fun _ => id)) (hR.out.below (ho1.out.below fun _ => id)) oP.out oQ.out _ hw.out).mono ?_; rintro e w2 ⟨rfl, hb⟩; have ho2 := Hidd.mk (ho1.out.ext hb); clear hb ho1))
    go_ret
    exact ⟨rfl, ho2.out.below fun _ => id⟩
  · have hS := Hidd.mk (Snd.of (work_tab hw))
    have bP := hS.out.tab.np
    rw [hP.out.1] at bP
    have hi := Hidd.mk (show ∀ p ∈ ps, PtIn p from fun p hp => PtIn.of (hS.out.tab.p p hp))
    have hd := Hidd.mk (Dis.of hS.out.win)
    have hs := Hidd.mk hS.out.tab.sc
    obtain ⟨l, hl⟩ : ∃ l, ordL ps z = l := ⟨_, rfl⟩
    have hO : Ord ps z l := by rw [← hl]; exact ordL_ord _ _
    obtain ⟨ln, hln⟩ : ∃ ln, l.length = ln := ⟨_, rfl⟩
    have hl12 : ln ≤ 12 := by rw [← hln]; have := hO.len; have := hP.out.1; omega
    have hbd := Hidd.mk (sumL_bd hi.out)
    have hst := Hidd.mk (st_bd hi.out)
    have hN' := hs.out.nsl
    obtain ⟨N, hNe⟩ : ∃ N, nsl n sl = N := ⟨_, rfl⟩
    have hwin := hS.out.win
    rw [hNe] at hN' hwin
    unfold nsl at hNe
    obtain ⟨hN1, hN2⟩ := hN'
    have vN : IntKind.i64.wrap (n * sl) = N := by rw [hNe]; exact IntWalk.i64_in _ (by omega)
    replace hwin := Hidd.mk hwin
    have hRb := hs.out.rnd
    have hRN : rnd n sl gp = N + gp := by unfold rnd nsl; rw [hNe]
    replace hNe := Hidd.mk hNe
    obtain ⟨R, hRe⟩ : ∃ R, rnd n sl gp = R := ⟨_, rfl⟩
    rw [hRe] at hRb hRN
    replace hRN := Hidd.mk hRN
    have hpl := Hidd.mk hP.out.1
    replace hw := Hidd.mk hw
    replace hl := Hidd.mk hl
    replace hln := Hidd.mk hln
    replace hO := Hidd.mk hO
    replace hRe := Hidd.mk hRe
    clear hS
    go_enter Try.func12, Try.ntmps12
    go_wp2_with (first
      | (go_at_call 34; refine (awake17_any _).mono ?_; rintro e w1 ⟨rfl, hb⟩; have ho1 := Hidd.mk (ho.out.ext hb); clear hb ho; obtain ⟨x0, x1, x2, x3, x4, x5, x6, x7, x8, x9, xA⟩ := cells11 ho1.out 0 rfl)
      | (go_at_call 25; refine (works_any n f sl gp rh d0 d1 mg PA pn pc OA on oc RA rn rc ps qs rs _ (hP.out.below (ho1.out.below fun _ => id)) (hQ.out.below (ho1.out.below fun _ => id)) (hR.out.below (ho1.out.below fun _ => id)) oP.out oQ.out _ hw.out).mono ?_; rintro e w2 ⟨rfl, hb⟩; have ho2 := Hidd.mk (ho1.out.ext hb); clear hb ho1; clear x0 x1 x2 x3 x4 x5 x6 x7 x8 x9 xA; obtain ⟨x0, x1, x2, x3, x4, x5, x6, x7, x8, x9, xA⟩ := cells11 ho2.out 0 rfl)
      | (go_at_call 37; refine (wins_any n f sl gp rh d0 d1 mg PA pn pc OA on oc RA rn rc ps z l _ (hP.out.below (ho2.out.below fun _ => id)) bP hi.out hd.out hl.out ln hln.out).mono ?_; rintro e w4 ⟨A, c, rfl, hn⟩; have ho4 := Hidd.mk (ho2.out.madeL hn); clear hn))
    clear ho2 x0 x1 x2 x3 x4 x5 x6 x7 x8 x9 xA
    generalize w.heap.size = p1 at ho4 ⊢
    have hfs := Hidd.mk fun (i : Nat) (_ : l[0]? = some i) => show (0 : Int) ≤ stOf ps i from (hst.out i).1
    have hap := Hidd.mk fun (j a b : Nat) (h1 : l[j]? = some a) (h2 : l[j + 1]? = some b) => hO.out.apart hi.out hd.out h1 h2 (Nat.lt_succ_self j)
    go_loopw [7, 20] (fun v7 v20 wr => ∃ (j : Nat) (la : Int), v20 = .int .i64 j ∧ v7 = .int .i64 la ∧ j ≤ ln ∧ Hidd (∀ i, l[j]? = some i → la ≤ stOf ps i) ∧ Hidd (sumL ps (l.take j) ≤ la ∧ la ≤ N) ∧ Hidd (Own w (fun _ => False) wr [row 62 3 (.slice A ln c) ln (l.flatMap (winC ps)), blk p1 (.cells #[.int .i64 n, .int .i64 f, .int .i64 sl, .int .i64 gp, .int .i64 rh, .int .i64 d0, .int .i64 d1, .int .i64 mg, .slice PA pn pc, .slice OA on oc, .slice RA rn rc] 26)])) (fun _ v20 _ => ln - (intOf v20).toNat)
    case atStart => exact ⟨0, 0, rfl, rfl, Nat.zero_le _, hfs, ⟨by simp [sumL], hN1⟩, ho4⟩
    case round =>
      clear ho4
      obtain ⟨j, la, rfl, rfl, hjl, hla, hsl, ho⟩ := hrel
      obtain ⟨x0, x1, x2, x3, x4, x5, x6, x7, x8, x9, xA⟩ := cells11 ho.out 1 rfl
      by_cases hlj : j < ln
      · obtain ⟨i, hi'⟩ : ∃ x, l[j]? = some x := ⟨_, List.getElem?_eq_getElem (by rw [hln.out]; exact hlj)⟩
        obtain ⟨p, hp, hnode, hpp⟩ := hO.out.at hi'
        obtain ⟨a', rfl, y0, y1, y2⟩ := At.win (w := wr) (A := A) (n := ln) ⟨hln.out, row_cells ho.out 0 rfl⟩ hi'
        have hyl := World.block_lt_of_cell? _ _ y0
        have hlt1 := ho.out.lt 1 rfl
        have bj0 : (0 : Int) ≤ (j : Int) := by omega
        have bj1 : (j : Int) < (ln : Int) := by omega
        have hsu : sumL ps (l.take (j + 1)) = sumL ps (l.take j) + lnOf ps i := by rw [take_put hi', sumL_app]; simp [sumL]
        obtain ⟨q1', q2', q3', q4'⟩ := hst.out i
        have hpi := (hi.out p (List.mem_of_getElem? hp)).c
        have hs0 := stOf_at hp
        have hu0 := lnOf_at hp
        have hle := hla.out i hi'
        have hwe := win_end hwin.out hp
        have hnd := (ndOf_at hp).trans hnode
        have hne : Hidd (∀ b, l[j + 1]? = some b → stOf ps i + lnOf ps i ≤ stOf ps b) := ⟨fun b hb => hap.out j i b hi' hb⟩
        have hinW : ∀ t, inW ps i t ↔ p.start ≤ t ∧ t < p.start + p.len := fun t => by unfold inW; rw [hs0, hu0]
        rw [hs0] at y1 y2 q1' q2' hle hne
        rw [hu0] at y2 q3' q4' hsu hne
        have hyes : Hidd (∀ t r, p.start ≤ t → t < p.start + p.len → AtIs ps z t r → r = (i : Int)) := ⟨fun t r h1 h2 h => h.uniq hd.out (.inl ⟨i, hpp, hnd, (hinW t).2 ⟨h1, h2⟩, rfl⟩)⟩
        have hno : Hidd (∀ r, AtIs ps z (p.start + p.len) r → ¬ r = (i : Int)) := ⟨fun r h e => by
          subst e
          rcases h with ⟨k, _, _, h3, e⟩ | ⟨_, e⟩
          · obtain rfl : i = k := by omega
            have := ((hinW _).1 h3).2
            omega
          · omega⟩
        have bp0 : (0 : Int) ≤ (i : Int) := by omega
        have hsl2 : Hidd (sumL ps (l.take (j + 1)) ≤ p.start + p.len ∧ p.start + p.len ≤ N) := ⟨by have := hsl.out; omega, hwe⟩
        clear hs0 hu0 hi' hpp hsu hwe hp hnd hnode hinW hsl
        obtain ⟨q0, q1, q2, q3, q4, q5, q6, q7, q8⟩ := p
        simp only at y1 y2 q1' q2' q3' q4' hle hpi hne hyes hno hsl2
        obtain ⟨D, rfl⟩ : ∃ D : Nat, q2 = (D : Int) := ⟨q2.toNat, by omega⟩
        obtain ⟨u, hu1, hu2, hu3⟩ := u64_mod y D (by omega)
        have va : IntKind.i64.wrap (q1 + D - q1) = D := by rw [show q1 + D - q1 = (D : Int) by omega]; exact IntWalk.i64_in _ (by omega)
        have vb : IntKind.u64.wrap (D : Int) = D := by unfold IntKind.wrap; simp [IntKind.signed, IntKind.bits]; omega
        have vc : IntKind.u64.wrap (u : Int) = u := by unfold IntKind.wrap; simp [IntKind.signed, IntKind.bits]; omega
        have vd : IntKind.i64.wrap (u : Int) = u := IntWalk.i64_in _ (by omega)
        have ve : IntKind.i64.wrap (q1 + u) = q1 + u := IntWalk.i64_in _ (by omega)
        have dA : decide (q1 < la) = false := by rw [decide_eq_false_iff_not]; omega
        have dB : decide (q1 + D ≤ q1) = false := by rw [decide_eq_false_iff_not]; omega
        have dC : decide (N < q1 + D) = false := by rw [decide_eq_false_iff_not]; have := hsl2.out.2; omega
        have dD : ¬ D = 0 := by omega
        have hen := ho.out.alloc (.cells #[.int .i64 (i : Int), .int .i64 q1, .int .i64 (q1 + (D : Int))] 62)
        have ho5 := Hidd.mk hen
        clear hen
        go_wp2
        clear x0 x1 x2 x3 x4 x5 x6 x7 x8 x9 xA y0 y1 y2 hyl hlt1 ho
        generalize wr.heap.size = p4 at ho5 ⊢
        generalize World.alloc wr _ = wb at ho5 ⊢
        obtain ⟨W0, hW0⟩ : ∃ zz, zz = World.drew wb := ⟨_, rfl⟩
        refine wp_region_flow [([0, 2, 4, 6, 1, 3, 5, 7, 8, 9, 10, 11, 12, 13], none)] (by kernel_rfl) (by kernel_rfl) ?_
        rw [show ({ wb with drawn := wb.drawn + 1 } : World) = W0 from hW0.symm]
        replace hW0 := Hidd.mk hW0
        simp only [opsF, List.map_cons, List.map_nil, List.getD_cons_succ, List.getD_cons_zero, Option.map]
        have ho7 := Hidd.mk (show Own w (fun _ => False) W0 _ by rw [hW0.out]; exact ho5.out.drew)
        clear hW0 ho5
        obtain ⟨x0, x1, x2, x3, x4, x5, x6, x7, x8, x9, xA⟩ := cells11 ho7.out 2 rfl
        have z0 := ho7.out.cell 0 rfl 0
        have z1 := ho7.out.cell 0 rfl 1
        have z2 := ho7.out.cell 0 rfl 2
        simp at z0 z1 z2
        refine FlW.heads (fun zz => zz = _) rfl ?_
        repeat (first | (refine StQ.skip (by rfl) ?_; simp only [Act.put, List.setIfInBounds_toArray, List.set_cons_zero, List.set_cons_succ]) | (refine StQ.go' (by rfl) (Exists.intro ?_ (And.intro (fun w' hS => ?_) ?_)); rotate_left; (focus (rw [hS]; go_simp; try with_reducible rfl)); simp only [Act.put, List.setIfInBounds_toArray, List.set_cons_zero, List.set_cons_succ]))
        refine StQ.nil ?_
        refine FlW.nil (Calm.normal ?_)
        have hY := Hidd.mk fun r h => hyes.out (q1 + u) r (by omega) (by omega) h
        clear hu1 hu2 hu3 va vb vc vd ve dA dB dC dD
        go_wp2
        clear x0 x1 x2 x3 x4 x5 x6 x7 x8 x9 xA z0 z1 z2
        obtain ⟨W1, hW1⟩ : ∃ zz, zz = World.drew W0 := ⟨_, rfl⟩
        refine wp_region_flow [([0, 1, 2, 4, 5], some (3, [true])), ([6, 7, 8, 9, 10, 13, 11, 14], some (12, [true, false])), ([15, 16], none)] (by kernel_rfl) (by kernel_rfl) ?_
        rw [show ({ W0 with drawn := W0.drawn + 1 } : World) = W1 from hW1.symm]
        replace hW1 := Hidd.mk hW1
        simp only [opsF, List.map_cons, List.map_nil, List.getD_cons_succ, List.getD_cons_zero, Option.map]
        have ho8 := Hidd.mk (show Own w (fun _ => False) W1 _ by rw [hW1.out]; exact ho7.out.drew)
        clear hW1 ho7
        obtain ⟨x0, x1, x2, x3, x4, x5, x6, x7, x8, x9, xA⟩ := cells11 ho8.out 2 rfl
        have z0 := ho8.out.cell 0 rfl 0
        simp at z0
        have hlt1 := ho8.out.lt 2 rfl
        have hlt4 := ho8.out.lt 0 rfl
        refine FlW.stage (fun zz => Kept (fun _ => False) W1 zz) (Kept.refl _ _) ?_
        repeat (first | (refine StQ.skip (by rfl) ?_; simp only [Act.put, List.setIfInBounds_toArray, List.set_cons_zero, List.set_cons_succ]) | (refine StQ.go' (by rfl) (Exists.intro ?_ (And.intro (fun w' hS => ?_) ?_)); rotate_left; (focus (have hc := Kept.cell0 hS; go_simp; try with_reducible rfl)); simp only [Act.put, List.setIfInBounds_toArray, List.set_cons_zero, List.set_cons_succ]))
        refine StQ.nil ?_
        refine FlO.go (by rfl) (fun K hK => ?_)
        go_simp
        (refine (frAt_any n f sl gp rh d0 d1 mg PA pn pc OA on oc RA rn rc ps z (q1 + u) _ (hP.out.below (ho8.out.below fun _ => id)) bP hi.out hd.out).mono ?_; rintro e w5 ⟨r, rfl, har, hb5⟩; have ho9 := Hidd.mk (ho8.out.ext hb5))
        refine hK.out _ _ (.inr ⟨Kept.below hb5, trivial⟩) ?_
        clear hK K
        obtain rfl := hY.out r har
        clear x0 x1 x2 x3 x4 x5 x6 x7 x8 x9 xA z0 hlt1 hlt4 hb5 ho8 har hY
        obtain ⟨x0, x1, x2, x3, x4, x5, x6, x7, x8, x9, xA⟩ := cells11 ho9.out 2 rfl
        have z0 := ho9.out.cell 0 rfl 0
        have z2 := ho9.out.cell 0 rfl 2
        simp at z0 z2
        have hlt1 := ho9.out.lt 2 rfl
        have hlt4 := ho9.out.lt 0 rfl
        refine FlW.stage (fun zz => Kept (fun _ => False) w5 zz) (Kept.refl _ _) ?_
        repeat (first | (refine StQ.skip (by rfl) ?_; simp only [Act.put, List.setIfInBounds_toArray, List.set_cons_zero, List.set_cons_succ]) | (refine StQ.go' (by rfl) (Exists.intro ?_ (And.intro (fun w' hS => ?_) ?_)); rotate_left; (focus (have hc := Kept.cell0 hS; go_simp; try with_reducible rfl)); simp only [Act.put, List.setIfInBounds_toArray, List.set_cons_zero, List.set_cons_succ]))
        refine StQ.nil ?_
        refine FlO.go (by rfl) (fun K hK => ?_)
        go_simp
        (refine (frAt_any n f sl gp rh d0 d1 mg PA pn pc OA on oc RA rn rc ps z (q1 + D) _ (hP.out.below (ho9.out.below fun _ => id)) bP hi.out hd.out).mono ?_; rintro e w6 ⟨r, rfl, har, hb6⟩; have hoA := Hidd.mk (ho9.out.ext hb6))
        refine hK.out _ _ (.inr ⟨Kept.below hb6, trivial⟩) ?_
        clear hK K
        have dE : (r == (i : Int)) = false := by rw [beq_eq_false_iff_ne]; exact hno.out r har
        clear x0 x1 x2 x3 x4 x5 x6 x7 x8 x9 xA z0 z2 hlt1 hlt4 hb6 ho9 har
        have z2 := hoA.out.cell 0 rfl 2
        simp at z2
        have hend := Hidd.mk hoA.out.tail
        refine FlW.heads (fun zz => zz = _) rfl ?_
        repeat (first | (refine StQ.skip (by rfl) ?_; simp only [Act.put, List.setIfInBounds_toArray, List.set_cons_zero, List.set_cons_succ]) | (refine StQ.go' (by rfl) (Exists.intro ?_ (And.intro (fun w' hS => ?_) ?_)); rotate_left; (focus (rw [hS]; go_simp; try with_reducible rfl)); simp only [Act.put, List.setIfInBounds_toArray, List.set_cons_zero, List.set_cons_succ]))
        refine StQ.nil ?_
        refine FlW.nil (Calm.normal ?_)
        go_wp2
        go_roundw
        case rel => exact ⟨j + 1, q1 + D, by go_num, rfl, by omega, hne, hsl2, hend⟩
        case measure => (simp [intOf]; try omega)
      · obtain rfl : ln = j := by omega
        have h1 : l.take ln = l := List.take_of_length_le (by rw [hln.out]; exact Nat.le_refl _)
        rw [h1] at hsl
        clear h1 x0 x1 x2 x3 x4 x5 x6 x7 x8 x9 xA
        have hfin : Hidd (decide (gp ≤ R - sumL ps l) = true) := ⟨by
          have := hsl.out
          have := hRN.out
          rw [decide_eq_true_eq]
          omega⟩
        go_wp2
        obtain ⟨W0, hW0⟩ : ∃ zz, zz = World.drew wr := ⟨_, rfl⟩
        refine wp_region_flow [([0, 1, 3, 4], some (2, [true])), ([5, 6], none)] (by kernel_rfl) (by kernel_rfl) ?_
        rw [show ({ wr with drawn := wr.drawn + 1 } : World) = W0 from hW0.symm]
        replace hW0 := Hidd.mk hW0
        simp only [opsF, List.map_cons, List.map_nil, List.getD_cons_succ, List.getD_cons_zero, Option.map]
        have ho7 := Hidd.mk (show Own w (fun _ => False) W0 _ by rw [hW0.out]; exact ho.out.drew)
        clear hW0 ho
        obtain ⟨x0, x1, x2, x3, x4, x5, x6, x7, x8, x9, xA⟩ := cells11 ho7.out 1 rfl
        have hlt1 := ho7.out.lt 1 rfl
        refine FlW.stage (fun zz => Kept (fun _ => False) W0 zz) (Kept.refl _ _) ?_
        repeat (first | (refine StQ.skip (by rfl) ?_; simp only [Act.put, List.setIfInBounds_toArray, List.set_cons_zero, List.set_cons_succ]) | (refine StQ.go' (by rfl) (Exists.intro ?_ (And.intro (fun w' hS => ?_) ?_)); rotate_left; (focus (have hc := Kept.cell0 hS; go_simp; try with_reducible rfl)); simp only [Act.put, List.setIfInBounds_toArray, List.set_cons_zero, List.set_cons_succ]))
        refine StQ.nil ?_
        refine FlO.go (by rfl) (fun K hK => ?_)
        go_simp
        (refine (frIdle_any n f sl gp rh d0 d1 mg PA pn pc OA on oc RA rn rc ps z _ (hP.out.below (ho7.out.below fun _ => id)) bP hi.out hd.out hs.out).mono ?_; rintro e w5 ⟨rfl, hb5⟩; rw [hl.out, hRe.out]; have ho9 := Hidd.mk (ho7.out.ext hb5))
        refine hK.out _ _ (.inr ⟨Kept.below hb5, trivial⟩) ?_
        clear hK K
        clear x0 x1 x2 x3 x4 x5 x6 x7 x8 x9 xA hlt1 hb5 ho7
        replace hfin := hfin.out
        refine FlW.heads (fun zz => zz = _) rfl ?_
        repeat (first | (refine StQ.skip (by rfl) ?_; simp only [Act.put, List.setIfInBounds_toArray, List.set_cons_zero, List.set_cons_succ]) | (refine StQ.go' (by rfl) (Exists.intro ?_ (And.intro (fun w' hS => ?_) ?_)); rotate_left; (focus (rw [hS]; go_simp; try with_reducible rfl)); simp only [Act.put, List.setIfInBounds_toArray, List.set_cons_zero, List.set_cons_succ]))
        refine StQ.nil ?_
        refine FlW.nil (Calm.normal ?_)
        go_wp2
        go_ret
        exact ⟨rfl, ho9.out.below fun _ => id⟩
end Go.Proofs.Ytcamoldjljfbeaa
