/- FramesWalk walked. -/
import Derived.Test.YtcamoldjljfbeaaSoX
import Derived.Test.YtcamoldjljfbeaaSoM
import Derived.Carry
namespace Go.Proofs.Ytcamoldjljfbeaa
open Go.RowKit

def endsE (ps : List Pt) (l : List Nat) : List Int := l.flatMap fun i => [stOf ps i, stOf ps i + lnOf ps i]
theorem endsE_len (ps : List Pt) : ∀ l, (endsE ps l).length = 2 * l.length
  | [] => rfl
  | i :: l => by
    have := endsE_len ps l
    unfold endsE at this ⊢
    rw [List.flatMap_cons, List.length_append, this]
    simp only [List.length_cons, List.length_nil]
    omega
theorem mem_endsE {ps : List Pt} {l : List Nat} {e : Int} (h : EndsL ps l e) : e ∈ endsE ps l := by
  obtain ⟨i, hi, he⟩ := h
  unfold endsE
  rw [List.mem_flatMap]
  exact ⟨i, hi, by rcases he with rfl | rfl <;> simp⟩
def leC (E : List Int) (v : Int) : Nat := (E.filter fun e => decide (e ≤ v)).length
theorem leC_le (E : List Int) (v : Int) : leC E v ≤ E.length := List.length_filter_le ..
theorem leC_mono {v a : Int} (h : v ≤ a) : ∀ E, leC E v ≤ leC E a
  | [] => Nat.le_refl _
  | e :: E => by
    have ih := leC_mono h E
    unfold leC at ih ⊢
    rw [List.filter_cons, List.filter_cons]
    by_cases h1 : e ≤ v
    · rw [if_pos (by simpa using h1), if_pos (by simp; omega)]
      simp only [List.length_cons]
      omega
    · rw [if_neg (by simpa using h1)]
      split
      · simp only [List.length_cons]
        omega
      · exact ih
theorem leC_more {v a : Int} (h : v < a) : ∀ E, a ∈ E → leC E v + 1 ≤ leC E a
  | [], hm => by cases hm
  | e :: E, hm => by
    by_cases h1 : e = a
    · subst h1
      have := leC_mono (Int.le_of_lt h) E
      unfold leC at this ⊢
      rw [List.filter_cons, List.filter_cons, if_neg (by simp; omega), if_pos (by simp)]
      simp only [List.length_cons]
      omega
    · have hm2 : a ∈ E := by
        rcases List.mem_cons.1 hm with h2 | h2
        · exact absurd h2.symm h1
        · exact h2
      have ih := leC_more h E hm2
      unfold leC at ih ⊢
      rw [List.filter_cons, List.filter_cons]
      by_cases h2 : e ≤ v
      · rw [if_pos (by simpa using h2), if_pos (by simp; omega)]
        simp only [List.length_cons]
        omega
      · rw [if_neg (by simpa using h2)]
        split
        · simp only [List.length_cons]
          omega
        · exact ih
/-- Between two changes nothing changes. -/
theorem AtIs.still {ps : List Pt} {z a b r : Int} (h : NextOf (EndOf ps z) a b true) (k : AtIs ps z a r) : AtIs ps z (b - 1) r := by
  rcases h with ⟨_, h1, h2, h3⟩ | ⟨h, _, _⟩
  rotate_left
  · cases h
  have key : ∀ i, i < ps.length → ndOf ps i = z → (inW ps i a ↔ inW ps i (b - 1)) := fun i h4 h5 => by
    unfold inW
    have e1 := h3 (stOf ps i) ⟨i, h4, h5, .inl rfl⟩
    have e2 := h3 (stOf ps i + lnOf ps i) ⟨i, h4, h5, .inr rfl⟩
    constructor
    · rintro ⟨k1, k2⟩
      have := e2 k2
      omega
    · rintro ⟨k1, k2⟩
      refine ⟨?_, by omega⟩
      rcases Int.lt_or_le a (stOf ps i) with h6 | h6
      · have := e1 h6
        omega
      · exact h6
  rcases k with ⟨i, h4, h5, h6, rfl⟩ | ⟨h4, rfl⟩
  · exact .inl ⟨i, h4, h5, (key i h4 h5).1 h6, rfl⟩
  · exact .inr ⟨fun i h5 h6 h7 => h4 i h5 h6 ((key i h5 h6).2 h7), rfl⟩
set_option maxRecDepth 100000
set_option maxHeartbeats 8000000
theorem framesWalk_walk (n f sl gp rh d0 d1 mg : Int) (PA : Option Addr) (pn pc : Nat) (pz : List (List Value)) (OA : Option Addr) (on oc : Nat) (oz : List (List Value)) (RA : Option Addr) (rn rc : Nat) (rz : List (List Value)) (z : Int) (w : World) (_h0 : (Lit.int .i64 n).wf = true) (_h1 : (Lit.int .i64 f).wf = true) (_h2 : (Lit.int .i64 sl).wf = true) (_h3 : (Lit.int .i64 gp).wf = true) (_h4 : (Lit.int .i64 rh).wf = true) (_h5 : (Lit.int .i64 d0).wf = true) (_h6 : (Lit.int .i64 d1).wf = true) (_h7 : (Lit.int .i64 mg).wf = true) (h8 : Rows' w 48 [.int .i64, .int .i64, .int .i64, .int .i64, .int .i64, .int .u8, .int .u8, .int .u8, .int .u8] PA pn pc pz) (h9 : Rows' w 40 [.int .i64, .int .u8, .bool, .int .i64, .int .i64, .int .i64] OA on oc oz) (hA : Rows' w 16 [.int .i64, .int .i64] RA rn rc rz) (_ : (Lit.int .i64 z).wf = true) :
    Calls Try.prog 10 #[.agg #[.int .i64 n, .int .i64 f, .int .i64 sl, .int .i64 gp, .int .i64 rh, .int .i64 d0, .int .i64 d1, .int .i64 mg, .slice PA pn pc, .slice OA on oc, .slice RA rn rc], .int .i64 z] w fun e w' => e = .returned (.bool true) ∧ Below w.heap.size w w' := by
  obtain ⟨ps, hP, oP⟩ := parts_of h8
  obtain ⟨qs, hQ, oQ⟩ := ports_of h9
  obtain ⟨rs, hR, _⟩ := routes_of hA
  clear _h0 _h1 _h2 _h3 _h4 _h5 _h6 _h7 h8 h9 hA
  have ho := Hidd.mk ((Own.nil w (fun _ => False)).alloc (.cells #[.int .i64 n, .int .i64 f, .int .i64 sl, .int .i64 gp, .int .i64 rh, .int .i64 d0, .int .i64 d1, .int .i64 mg, .slice PA pn pc, .slice OA on oc, .slice RA rn rc] 26))
  replace hP := Hidd.mk hP
  replace hQ := Hidd.mk hQ
  replace hR := Hidd.mk hR
  replace oP := Hidd.mk oP
  replace oQ := Hidd.mk oQ
  rcases hw : workB n f sl gp rh d0 d1 mg ps qs rs with _ | _
  · replace hw := Hidd.mk hw
    go_enter Try.func10, Try.ntmps10
    go_wp2_with (first
      | (go_at_call 34; refine (awake17_any _).mono ?_; rintro e w1 ⟨rfl, hb⟩; have ho1 := Hidd.mk (ho.out.ext hb); clear hb ho; obtain ⟨x0, x1, x2, x3, x4, x5, x6, x7, x8, x9, xA⟩ := cells11 ho1.out 0 rfl)
      | (go_at_call 25; refine (works_any n f sl gp rh d0 d1 mg PA pn pc OA on oc RA rn rc ps qs rs _ (hP.out.below (ho1.out.below fun _ => id)) (hQ.out.below (ho1.out.below fun _ => id)) (hR.out.below (ho1.out.below fun _ => id)) oP.out oQ.out _ hw.out).mono ?_; rintro e w2 ⟨rfl, hb⟩; have ho2 := Hidd.mk (ho1.out.ext hb); clear hb ho1))
    go_ret
    exact ⟨rfl, ho2.out.below fun _ => id⟩
  · have hS := Hidd.mk (Snd.of (work_tab hw))
    have bP := hS.out.tab.np
    rw [hP.out.1] at bP
    have hi := Hidd.mk (show ∀ p ∈ ps, PtIn p from fun p hp => PtIn.of (hS.out.tab.p p hp))
    have hd := Hidd.mk (Dis.of hS.out.win)
    have hs := Hidd.mk hS.out.tab.sc
    obtain ⟨l, hl⟩ : ∃ l, ordL ps z = l := ⟨_, rfl⟩
    have hO : Ord ps z l := by rw [← hl]; exact ordL_ord _ _
    obtain ⟨ln, hln⟩ : ∃ ln, l.length = ln := ⟨_, rfl⟩
    have hl12 : ln ≤ 12 := by rw [← hln]; have := hO.len; have := hP.out.1; omega
    have hbd := Hidd.mk (sumL_bd hi.out)
    have hst := Hidd.mk (st_bd hi.out)
    have hpl := Hidd.mk hP.out.1
    replace hw := Hidd.mk hw
    replace hl := Hidd.mk hl
    replace hln := Hidd.mk hln
    replace hO := Hidd.mk hO
    have hE := Hidd.mk (show ∀ e, EndOf ps z e → 0 ≤ e ∧ e ≤ 536870912 from fun e ⟨i, _, _, he⟩ => by have := hst.out i; omega)
    have hEm := Hidd.mk fun (e : Int) (h : EndOf ps z e) => mem_endsE ((EndsL.ord hO.out e).2 h)
    have hEl : (endsE ps l).length ≤ 24 := by rw [endsE_len, hln.out]; omega
    obtain ⟨E, hEe⟩ : ∃ E, endsE ps l = E := ⟨_, rfl⟩
    rw [hEe] at hEm hEl
    clear hS hEe hbd
    go_enter Try.func10, Try.ntmps10
    go_upto_region 5 with (first
      | (go_at_call 34; refine (awake17_any _).mono ?_; rintro e w1 ⟨rfl, hb⟩; have ho1 := Hidd.mk (ho.out.ext hb); clear hb ho; obtain ⟨x0, x1, x2, x3, x4, x5, x6, x7, x8, x9, xA⟩ := cells11 ho1.out 0 rfl)
      | (go_at_call 25; refine (works_any n f sl gp rh d0 d1 mg PA pn pc OA on oc RA rn rc ps qs rs _ (hP.out.below (ho1.out.below fun _ => id)) (hQ.out.below (ho1.out.below fun _ => id)) (hR.out.below (ho1.out.below fun _ => id)) oP.out oQ.out _ hw.out).mono ?_; rintro e w2 ⟨rfl, hb⟩; have ho2 := Hidd.mk (ho1.out.ext hb); clear hb ho1; clear x0 x1 x2 x3 x4 x5 x6 x7 x8 x9 xA))
    have ho3 := Hidd.mk (set_new ho2.out)
    clear ho2
    have hmm := @run_makeMap Try.prog
    generalize w.heap.size = p1 at ho3 ⊢
    go_upto_region 6 with fail
    clear hmm
    generalize w2.heap.size = pm at ho3 ⊢
    generalize World.alloc w2 _ = wm at ho3 ⊢
    obtain ⟨x0, x1, x2, x3, x4, x5, x6, x7, x8, x9, xA⟩ := cells11 ho3.out 1 rfl
    go_wp2_with (go_at_call 35; refine (frNext_any n f sl gp rh d0 d1 mg PA pn pc OA on oc RA rn rc ps z (-1) _ (hP.out.below (ho3.out.below fun _ => id)) bP hi.out hd.out).mono ?_; rintro e w4 ⟨b, fd, rfl, hnx, hb⟩; have hnx4 := Hidd.mk hnx; have ho4 := Hidd.mk (ho3.out.ext hb); clear hb hnx)
    clear ho3 x0 x1 x2 x3 x4 x5 x6 x7 x8 x9 xA
    go_loopw [6, 7, 8] (fun v6 v7 v8 wr => ∃ (k : Nat) (pv b : Int) (fd : Bool) (F : Int → Bool), v8 = .int .i64 k ∧ v6 = .int .i64 b ∧ v7 = .bool fd ∧ Hidd (k ≤ leC E pv) ∧ Hidd (NextOf (EndOf ps z) pv b fd) ∧ Hidd (∀ t, F t = true ↔ EndOf ps z t ∧ t ≤ pv) ∧ Hidd (Own w (fun _ => False) wr [setRes pm k F, blk p1 (.cells #[.int .i64 n, .int .i64 f, .int .i64 sl, .int .i64 gp, .int .i64 rh, .int .i64 d0, .int .i64 d1, .int .i64 mg, .slice PA pn pc, .slice OA on oc, .slice RA rn rc] 26)])) (fun _ _ v8 _ => 41 - (intOf v8).toNat)
    case atStart => exact ⟨0, -1, b, fd, _, rfl, rfl, rfl, ⟨Nat.zero_le _⟩, hnx4, ⟨fun t => ⟨(by intro h; cases h), fun h => by have := (hE.out t h.1).1; omega⟩⟩, ho4⟩
    case round =>
      clear ho4 hnx4
      obtain ⟨k, pv, b, fd, F, rfl, rfl, rfl, hk, hnx, hF, ho⟩ := hrel
      cases fd
      · have hF2 : Hidd (∀ t, EndOf ps z t → F t = true) := ⟨fun t ht => (hF.out t).2 ⟨ht, by
          rcases hnx.out with ⟨h, _⟩ | ⟨_, _, h⟩
          · cases h
          · have := h t ht
            omega⟩⟩
        clear hF hnx hk
        obtain ⟨x0, x1, x2, x3, x4, x5, x6, x7, x8, x9, xA⟩ := cells11 ho.out 1 rfl
        go_wp2_with (go_at_call 37; refine (wins_any n f sl gp rh d0 d1 mg PA pn pc OA on oc RA rn rc ps z l _ (hP.out.below (ho.out.below fun _ => id)) bP hi.out hd.out hl.out ln hln.out).mono ?_; rintro e w5 ⟨A, c, rfl, hn⟩; have hm5 := ho.out.madeL hn; simp only [List.cons_append, List.nil_append] at hm5; have ho5 := Hidd.mk hm5; clear hn hm5)
        clear ho x0 x1 x2 x3 x4 x5 x6 x7 x8 x9 xA
        go_loopw [63] (fun v63 wz => ∃ (j : Nat), v63 = .int .i64 j ∧ j ≤ ln ∧ Hidd (Own w (fun _ => False) wz [row 62 3 (.slice A ln c) ln (l.flatMap (winC ps)), setRes pm k F])) (fun v63 _ => ln - (intOf v63).toNat)
        case atStart => exact ⟨0, rfl, Nat.zero_le _, ⟨ho5.out.reorder [0, 1] rfl (by decide)⟩⟩
        case round =>
          clear ho5
          obtain ⟨j, rfl, hjl, ho⟩ := hrel
          by_cases hlj : j < ln
          · obtain ⟨i, hi'⟩ : ∃ x, l[j]? = some x := ⟨_, List.getElem?_eq_getElem (by rw [hln.out]; exact hlj)⟩
            obtain ⟨p, hp, hnode, hpp⟩ := hO.out.at hi'
            obtain ⟨a', rfl, y0, y1, y2⟩ := At.win (w := wr) (A := A) (n := ln) ⟨hln.out, row_cells ho.out 0 rfl⟩ hi'
            have hyl := World.block_lt_of_cell? _ _ y0
            have bj0 : (0 : Int) ≤ (j : Int) := by omega
            have bj1 : (j : Int) < (ln : Int) := by omega
            have hnd := (ndOf_at hp).trans hnode
            have hx1 := hF2.out _ ⟨i, hpp, hnd, .inl rfl⟩
            have hx2 := hF2.out _ ⟨i, hpp, hnd, .inr rfl⟩
            obtain ⟨q1', q2', q3', q4'⟩ := hst.out i
            obtain ⟨s, hs'⟩ : ∃ s, stOf ps i = s := ⟨_, rfl⟩
            obtain ⟨u, hu'⟩ : ∃ u, stOf ps i + lnOf ps i = u := ⟨_, rfl⟩
            rw [hu'] at y2 hx2
            rw [hs'] at y1 hx1 q1' q2'
            have hub : 0 ≤ u ∧ u ≤ 536870912 := by omega
            have hw1 : (Lit.int .i64 s).wf = true := by simp only [Lit.wf, Bool.and_eq_true, decide_eq_true_eq]; exact ⟨by show (-9223372036854775808 : Int) ≤ _; omega, by show _ ≤ (9223372036854775807 : Int); omega⟩
            have hw2 : (Lit.int .i64 u).wf = true := by simp only [Lit.wf, Bool.and_eq_true, decide_eq_true_eq]; exact ⟨by show (-9223372036854775808 : Int) ≤ _; omega, by show _ ≤ (9223372036854775807 : Int); omega⟩
            have ho6 := Hidd.mk (ho.out.alloc (.cells #[.int .i64 (i : Int), .int .i64 s, .int .i64 u] 62))
            clear hs' hu' hp hi' hnode hnd hpp
            go_upto_region 20 with fail
            clear y0 y1 y2 hyl ho
            generalize wr.heap.size = p4 at ho6 ⊢
            generalize World.alloc wr _ = wb at ho6 ⊢
            have hl1 := set_look (show SetAt wb pm k F from ho6.out.get 2 rfl) s hw1
            have hl2 := set_look (show SetAt wb pm k F from ho6.out.get 2 rfl) u hw2
            rw [hx1] at hl1
            rw [hx2] at hl2
            have z1 := ho6.out.cell 0 rfl 1
            have z2 := ho6.out.cell 0 rfl 2
            simp at z1 z2
            have hend := Hidd.mk ho6.out.tail
            clear hx1 hx2 hw1 hw2
            go_wp2
            go_roundw
            case rel => exact ⟨j + 1, by go_num, by omega, hend⟩
            case measure => (simp [intOf]; try omega)
          · obtain rfl : ln = j := by omega
            go_wp2
            go_ret
            exact ⟨rfl, ho.out.below fun _ => id⟩
      · have hk24 : k ≤ 24 := by have := hk.out; have := leC_le E pv; omega
        have bk0 : decide ((40 : Int) < (k : Int)) = false := by rw [decide_eq_false_iff_not]; omega
        obtain ⟨h1, h2, h3⟩ : EndOf ps z b ∧ pv < b ∧ ∀ e, EndOf ps z e → pv < e → b ≤ e := by
          rcases hnx.out with ⟨_, h1, h2, h3⟩ | ⟨h, _, _⟩
          · exact ⟨h1, h2, h3⟩
          · cases h
        have hFb : F b = false := by
          rcases h : F b with _ | _
          · rfl
          · have := ((hF.out b).1 h).2
            omega
        have hbb := hE.out b h1
        have hwf : (Lit.int .i64 b).wf = true := by simp only [Lit.wf, Bool.and_eq_true, decide_eq_true_eq]; exact ⟨by show (-9223372036854775808 : Int) ≤ _; omega, by show _ ≤ (9223372036854775807 : Int); omega⟩
        have hlk := set_look (show SetAt wr pm k F from ho.out.get 0 rfl) b hwf
        rw [hFb] at hlk
        obtain ⟨w8, hput, ho8⟩ := set_put (k := 0) ho.out rfl b hwf (by unfold maxLen; omega)
        simp only [List.set_cons_zero] at ho8
        have hF2 : Hidd (∀ t, (F t || decide (t = b)) = true ↔ EndOf ps z t ∧ t ≤ b) := ⟨fun t => by
          rw [Bool.or_eq_true, decide_eq_true_eq]
          constructor
          · rintro (h | rfl)
            · have := (hF.out t).1 h
              exact ⟨this.1, by omega⟩
            · exact ⟨h1, Int.le_refl _⟩
          · rintro ⟨h4, h5⟩
            rcases Int.lt_or_le pv t with h6 | h6
            · have := h3 t h4 h6
              exact .inr (by omega)
            · exact .inl ((hF.out t).2 ⟨h4, h6⟩)⟩
        have hk2 : Hidd (k + 1 ≤ leC E b) := ⟨by have := leC_more h2 E (hEm.out b h1); have := hk.out; omega⟩
        replace ho8 := Hidd.mk ho8
        clear h1 h2 h3 hFb hwf hk hnx hF
        obtain ⟨x0, x1, x2, x3, x4, x5, x6, x7, x8, x9, xA⟩ := cells11 ho8.out 1 rfl
        go_wp2_with (go_at_call 35; refine (frNext_any n f sl gp rh d0 d1 mg PA pn pc OA on oc RA rn rc ps z b _ (hP.out.below (ho8.out.below fun _ => id)) bP hi.out hd.out).mono ?_; rintro e w4 ⟨b', fd', rfl, hnx', hb⟩; have hnx4 := Hidd.mk hnx'; have ho4 := Hidd.mk (ho8.out.ext hb); clear hb hnx')
        clear x0 x1 x2 x3 x4 x5 x6 x7 x8 x9 xA hput hlk ho8 bk0
        obtain ⟨W0, hW0⟩ : ∃ zz, zz = World.drew w4 := ⟨_, rfl⟩
        refine wp_region_flow [([0, 1, 2, 3, 4, 6, 7, 8, 9], some (5, [true])), ([], some (10, [false, false])), ([11, 12], none)] (by kernel_rfl) (by kernel_rfl) ?_
        rw [show ({ w4 with drawn := w4.drawn + 1 } : World) = W0 from hW0.symm]
        replace hW0 := Hidd.mk hW0
        simp only [opsF, List.map_cons, List.map_nil, List.getD_cons_succ, List.getD_cons_zero, Option.map]
        have ho5 := Hidd.mk (show Own w (fun _ => False) W0 _ by rw [hW0.out]; exact ho4.out.drew)
        clear hW0 ho4
        cases fd'
        · refine FlW.stage (fun zz => zz = _) rfl ?_
          repeat (first | (refine StQ.skip (by rfl) ?_; simp only [Act.put, List.setIfInBounds_toArray, List.set_cons_zero, List.set_cons_succ]) | (refine StQ.go' (by rfl) (Exists.intro ?_ (And.intro (fun w' hS => ?_) ?_)); rotate_left; (focus (rw [hS]; go_simp; try with_reducible rfl)); simp only [Act.put, List.setIfInBounds_toArray, List.set_cons_zero, List.set_cons_succ]))
          refine StQ.nil ?_
          refine FlO.skip (by rfl) ?_; simp only [Act.put, List.setIfInBounds_toArray, List.set_cons_zero, List.set_cons_succ]
          refine FlW.stage (fun _ => True) trivial (StQ.nil ?_)
          refine FlO.skip (by rfl) ?_; simp only [Act.put, List.setIfInBounds_toArray, List.set_cons_zero, List.set_cons_succ]
          refine FlW.heads (fun zz => zz = _) rfl ?_
          repeat (first | (refine StQ.skip (by rfl) ?_; simp only [Act.put, List.setIfInBounds_toArray, List.set_cons_zero, List.set_cons_succ]) | (refine StQ.go' (by rfl) (Exists.intro ?_ (And.intro (fun w' hS => ?_) ?_)); rotate_left; (focus (rw [hS]; go_simp; try with_reducible rfl)); simp only [Act.put, List.setIfInBounds_toArray, List.set_cons_zero, List.set_cons_succ]))
          refine StQ.nil ?_
          refine FlW.nil (Calm.normal ?_)
          go_wp2
          go_roundw
          case rel => exact ⟨k + 1, b, b', false, _, by go_num, rfl, rfl, hk2, hnx4, hF2, ho5⟩
          case measure => (simp [intOf]; try omega)
        · obtain ⟨x0, x1, x2, x3, x4, x5, x6, x7, x8, x9, xA⟩ := cells11 ho5.out 1 rfl
          have hlt1 := ho5.out.lt 1 rfl
          have hbb2 : 0 ≤ b' ∧ b' ≤ 536870912 := by
            rcases hnx4.out with ⟨_, h1, _⟩ | ⟨h, _, _⟩
            · exact hE.out b' h1
            · cases h
          have va : IntKind.i64.wrap (b' - 1) = b' - 1 := IntWalk.i64_in _ (by omega)
          refine FlW.stage (fun zz => Kept (fun _ => False) W0 zz) (Kept.refl _ _) ?_
          repeat (first | (refine StQ.skip (by rfl) ?_; simp only [Act.put, List.setIfInBounds_toArray, List.set_cons_zero, List.set_cons_succ]) | (refine StQ.go' (by rfl) (Exists.intro ?_ (And.intro (fun w' hS => ?_) ?_)); rotate_left; (focus (have hc := Kept.cell0 hS; go_simp; try with_reducible rfl)); simp only [Act.put, List.setIfInBounds_toArray, List.set_cons_zero, List.set_cons_succ]))
          refine StQ.nil ?_
          refine FlO.go (by rfl) (fun K hK => ?_)
          go_simp
          (refine (frAt_any n f sl gp rh d0 d1 mg PA pn pc OA on oc RA rn rc ps z b _ (hP.out.below (ho5.out.below fun _ => id)) bP hi.out hd.out).mono ?_; rintro e w5 ⟨r, rfl, har, hb5⟩; have ho6 := Hidd.mk (ho5.out.ext hb5))
          refine hK.out _ _ (.inr ⟨Kept.below hb5, trivial⟩) ?_
          clear hK K
          have har2 := Hidd.mk (AtIs.still hnx4.out har)
          clear har hb5 ho5 x0 x1 x2 x3 x4 x5 x6 x7 x8 x9 xA hlt1
          refine FlW.stage (fun _ => True) trivial (StQ.nil ?_)
          refine FlO.go (by rfl) (fun K hK => ?_)
          go_simp
          (refine (frAt_any n f sl gp rh d0 d1 mg PA pn pc OA on oc RA rn rc ps z (b' - 1) _ (hP.out.below (ho6.out.below fun _ => id)) bP hi.out hd.out).mono ?_; rintro e w6 ⟨r2, rfl, har, hb5⟩; have ho7 := Hidd.mk (ho6.out.ext hb5))
          refine hK.out _ _ (.inr trivial) ?_
          clear hK K
          obtain rfl := har.uniq hd.out har2.out
          clear har har2 hb5 ho6
          refine FlW.heads (fun zz => zz = _) rfl ?_
          repeat (first | (refine StQ.skip (by rfl) ?_; simp only [Act.put, List.setIfInBounds_toArray, List.set_cons_zero, List.set_cons_succ]) | (refine StQ.go' (by rfl) (Exists.intro ?_ (And.intro (fun w' hS => ?_) ?_)); rotate_left; (focus (rw [hS]; go_simp; try with_reducible rfl)); simp only [Act.put, List.setIfInBounds_toArray, List.set_cons_zero, List.set_cons_succ]))
          refine StQ.nil ?_
          refine FlW.nil (Calm.normal ?_)
          go_wp2
          go_roundw
          case rel => exact ⟨k + 1, b, b', true, _, by go_num, rfl, rfl, hk2, hnx4, hF2, ho7⟩
          case measure => (simp [intOf]; try omega)
end Go.Proofs.Ytcamoldjljfbeaa
