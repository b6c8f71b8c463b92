/- SoundOrders walked. -/
import Derived.Test.YtcamoldjljfbeaaSoU0
import Derived.Test.YtcamoldjljfbeaaSoM
namespace Go.Proofs.Ytcamoldjljfbeaa
open Go.RowKit

set_option maxRecDepth 100000
set_option maxHeartbeats 8000000
theorem soundOrders_walk (n f sl gp rh d0 d1 mg : Int) (PA : Option Addr) (pn pc : Nat) (pz : List (List Value)) (OA : Option Addr) (on oc : Nat) (oz : List (List Value)) (RA : Option Addr) (rn rc : Nat) (rz : List (List Value)) (w : World) (_h0 : (Lit.int .i64 n).wf = true) (_h1 : (Lit.int .i64 f).wf = true) (_h2 : (Lit.int .i64 sl).wf = true) (_h3 : (Lit.int .i64 gp).wf = true) (_h4 : (Lit.int .i64 rh).wf = true) (_h5 : (Lit.int .i64 d0).wf = true) (_h6 : (Lit.int .i64 d1).wf = true) (_h7 : (Lit.int .i64 mg).wf = true) (h8 : Rows' w 48 [.int .i64, .int .i64, .int .i64, .int .i64, .int .i64, .int .u8, .int .u8, .int .u8, .int .u8] PA pn pc pz) (h9 : Rows' w 40 [.int .i64, .int .u8, .bool, .int .i64, .int .i64, .int .i64] OA on oc oz) (hA : Rows' w 16 [.int .i64, .int .i64] RA rn rc rz) :
    Calls Try.prog 17 #[.agg #[.int .i64 n, .int .i64 f, .int .i64 sl, .int .i64 gp, .int .i64 rh, .int .i64 d0, .int .i64 d1, .int .i64 mg, .slice PA pn pc, .slice OA on oc, .slice RA rn rc]] w fun e w' => e = .returned (.bool true) ∧ Below w.heap.size w w' := by
  obtain ⟨ps, hP, oP⟩ := parts_of h8
  obtain ⟨qs, hQ, oQ⟩ := ports_of h9
  obtain ⟨rs, hR, _⟩ := routes_of hA
  clear _h0 _h1 _h2 _h3 _h4 _h5 _h6 _h7 h8 h9 hA
  have ho := Hidd.mk ((Own.nil w (fun _ => False)).alloc (.cells #[.int .i64 n, .int .i64 f, .int .i64 sl, .int .i64 gp, .int .i64 rh, .int .i64 d0, .int .i64 d1, .int .i64 mg, .slice PA pn pc, .slice OA on oc, .slice RA rn rc] 26))
  replace hP := Hidd.mk hP
  replace hQ := Hidd.mk hQ
  replace hR := Hidd.mk hR
  replace oP := Hidd.mk oP
  replace oQ := Hidd.mk oQ
  rcases hw : workB n f sl gp rh d0 d1 mg ps qs rs with _ | _
  · replace hw := Hidd.mk hw
    go_enter Try.func17, Try.ntmps17
    go_wp2_with (first
      | (go_at_call 18; refine (awake6_any _).mono ?_; rintro e w1 ⟨rfl, hb⟩; have ho1 := Hidd.mk (ho.out.ext hb); clear hb ho; obtain ⟨x0, x1, x2, x3, x4, x5, x6, x7, x8, x9, xA⟩ := cells11 ho1.out 0 rfl)
      | (go_at_call 25; refine (works_any n f sl gp rh d0 d1 mg PA pn pc OA on oc RA rn rc ps qs rs _ (hP.out.below (ho1.out.below fun _ => id)) (hQ.out.below (ho1.out.below fun _ => id)) (hR.out.below (ho1.out.below fun _ => id)) oP.out oQ.out _ hw.out).mono ?_; rintro e w2 ⟨rfl, hb⟩; have ho2 := Hidd.mk (ho1.out.ext hb); clear hb ho1))
    go_ret
    exact ⟨rfl, ho2.out.below fun _ => id⟩
  · have hS := Hidd.mk (Snd.of (work_tab hw))
    have bP := hS.out.tab.np
    rw [hP.out.1] at bP
    have hnd : Hidd (∀ k, k < ps.length → 0 ≤ ndOf ps k ∧ ndOf ps k < n ∧ 0 ≤ stOf ps k) := ⟨fun k hk => by
      have e := List.getElem?_eq_getElem hk
      have h := hS.out.tab.p _ (List.getElem_mem hk)
      rw [ndOf_at e, stOf_at e]
      simp only [ptB, inB, Bool.and_eq_true, decide_eq_true_eq] at h
      omega⟩
    have hn1 := hS.out.tab.sc.n1
    have hn2 := hS.out.tab.sc.n7
    replace hw := Hidd.mk hw
    clear hS
    have hm1 : ∀ W : World, (Instr.makeSlice 48 (.int .i64 (pn : Int)) (.int .i64 (pn : Int))).run Try.prog W = _ := run_make_row' 48 4 (.bool false) 1 (by rfl) info_bool rfl .i64 .i64 pn (by omega) (by omega)
    go_enter Try.func17, Try.ntmps17
    go_wp2_with (first
      | (go_at_call 18; refine (awake6_any _).mono ?_; rintro e w1 ⟨rfl, hb⟩; have ho1 := Hidd.mk (ho.out.ext hb); clear hb ho; obtain ⟨x0, x1, x2, x3, x4, x5, x6, x7, x8, x9, xA⟩ := cells11 ho1.out 0 rfl)
      | (go_at_call 25; refine (works_any n f sl gp rh d0 d1 mg PA pn pc OA on oc RA rn rc ps qs rs _ (hP.out.below (ho1.out.below fun _ => id)) (hQ.out.below (ho1.out.below fun _ => id)) (hR.out.below (ho1.out.below fun _ => id)) oP.out oQ.out _ hw.out).mono ?_; rintro e w2 ⟨rfl, hb⟩; have ho2 := Hidd.mk (ho1.out.ext hb); clear hb ho1; clear x0 x1 x2 x3 x4 x5 x6 x7 x8 x9 xA; obtain ⟨x0, x1, x2, x3, x4, x5, x6, x7, x8, x9, xA⟩ := cells11 ho2.out 0 rfl))
    have ho3 := Hidd.mk (row_lit ho2.out 4 1 pn (madeCells #[.bool false] pn) _ (made_bools pn) (made_bsize pn) (by unfold maxLen; omega))
    clear x0 x1 x2 x3 x4 x5 x6 x7 x8 x9 xA ho2 hm1
    generalize w.heap.size = p1 at ho3 ⊢
    generalize World.alloc w2 _ = W2 at ho3 ⊢
    generalize w2.heap.size = g at ho3 ⊢
    obtain ⟨N, hN'⟩ : ∃ N : Nat, (N : Int) = n := ⟨n.toNat, by omega⟩
    have hN := Hidd.mk hN'
    rw [← seenL_start ps pn (fun k hk => (hnd.out k (by rw [hP.out.1]; exact hk)).1)] at ho3
    clear hN' hn1
    have hpl := Hidd.mk hP.out.1
    go_loopw [4, 5] (fun v4 v5 wr => ∃ i : Nat, v5 = .int .i64 i ∧ v4 = .int .i64 ((((seenL ps pn i []).count true : Nat) : Nat) : Int) ∧ i ≤ N ∧ Hidd (Own w (fun _ => False) wr [row 4 1 (.slice (some ⟨g, 0, none⟩) pn pn) pn (bools (seenL ps pn i [])), blk p1 (.cells #[.int .i64 n, .int .i64 f, .int .i64 sl, .int .i64 gp, .int .i64 rh, .int .i64 d0, .int .i64 d1, .int .i64 mg, .slice PA pn pc, .slice OA on oc, .slice RA rn rc] 26)])) (fun _ v5 _ => N - (intOf v5).toNat)
    case atStart => exact ⟨0, rfl, by rw [show ((0 : Nat) : Int) = 0 from rfl, seenL_start ps pn (fun k hk => (hnd.out k (by rw [hP.out.1]; exact hk)).1)]; simp [List.count_replicate], Nat.zero_le _, ho3⟩
    case round =>
      clear ho3
      obtain ⟨i, rfl, rfl, hil, ho⟩ := hrel
      obtain ⟨x0, x1, x2, x3, x4, x5, x6, x7, x8, x9, xA⟩ := cells11 ho.out 1 rfl
      have hlt1 := ho.out.lt 1 rfl
      by_cases hlt : i < N
      · have bi1 : (i : Int) < n := by have := hN.out; omega
        go_wp2_with (go_at_call 47; refine (order_any n f sl gp rh d0 d1 mg PA pn pc OA on oc RA rn rc ps (i : Int) _ (hP.out.below (ho.out.below fun _ => id)) bP).mono ?_; rintro e w3 ⟨A, c, l, rfl, hO, hn⟩; have ho4 := ho.out.madeL hn; simp only [List.cons_append, List.nil_append] at ho4; replace ho4 := Hidd.mk ho4; replace hO := Hidd.mk hO; clear hn)
        clear ho x0 x1 x2 x3 x4 x5 x6 x7 x8 x9 xA hlt1
        obtain ⟨ln, hln⟩ : ∃ ln, l.length = ln := ⟨_, rfl⟩
        rw [hln] at ho4 ⊢
        have hl12 : ln ≤ 12 := by rw [← hln]; have := hO.out.len; have := hpl.out; omega
        replace hln := Hidd.mk hln
        have hnx := Hidd.mk fun (j p q : Nat) (h1 : l[j]? = some p) (h2 : l[j + 1]? = some q) => hO.out.up h1 h2
        have hfs := Hidd.mk fun (p : Nat) (h1 : l[0]? = some p) => show (-1 : Int) ≤ stOf ps p by
          have := (hnd.out p (hO.out.mem.1 (List.mem_of_getElem? h1)).1).2.2
          omega
        go_loopw [4, 6, 28] (fun v4 v6 v28 wz => ∃ (j : Nat) (la : Int), v28 = .int .i64 j ∧ v6 = .int .i64 la ∧ v4 = .int .i64 ((((seenL ps pn i (l.take j)).count true : Nat) : Nat) : Int) ∧ j ≤ ln ∧ Hidd (∀ p, l[j]? = some p → la ≤ stOf ps p) ∧ Hidd (Own w (fun _ => False) wz [row 3 1 (.slice A ln c) ln (nums .i64 (nats l)), row 4 1 (.slice (some ⟨g, 0, none⟩) pn pn) pn (bools (seenL ps pn i (l.take j))), blk p1 (.cells #[.int .i64 n, .int .i64 f, .int .i64 sl, .int .i64 gp, .int .i64 rh, .int .i64 d0, .int .i64 d1, .int .i64 mg, .slice PA pn pc, .slice OA on oc, .slice RA rn rc] 26 (0, 0))])) (fun _ _ v28 _ => ln - (intOf v28).toNat)
        case atStart => exact ⟨0, -1, rfl, rfl, rfl, Nat.zero_le _, hfs, ho4⟩
        case round =>
          clear ho4
          obtain ⟨j, la, rfl, rfl, rfl, hjl, hla, ho⟩ := hrel
          have hcn := cnt_le (seenL ps pn i (l.take j))
          rw [seenL_len] at hcn
          by_cases hlj : j < ln
          · obtain ⟨p, hp⟩ : ∃ x, l[j]? = some x := ⟨_, List.getElem?_eq_getElem (by rw [hln.out]; exact hlj)⟩
            obtain ⟨q, hq, hqn, hpp⟩ := hO.out.at hp
            have hpp' : p < pn := by rw [← hpl.out]; exact hpp
            have hfr := hO.out.fresh hp
            rw [hpl.out] at hfr
            have hc1 := cnt_put hfr
            rw [seenL_put, ← take_put hp] at hc1
            have hsp := seenL_put ps pn i (l.take j) p
            rw [← take_put hp] at hsp
            have hl2 := hla.out p hp
            rw [stOf_at hq] at hl2
            have hend := row_set ho.out 1 rfl p (.bool true)
            simp only [List.set_cons_zero, List.set_cons_succ] at hend
            rw [bools_set, hsp] at hend
            obtain ⟨cn, hcn'⟩ : ∃ cn, (seenL ps pn i (l.take j)).count true = cn := ⟨_, rfl⟩
            rw [hcn'] at hcn hc1 ⊢
            clear hcn'
            obtain ⟨g2, rfl, _⟩ := head_any (show wr.ownsRow 0 3 1 (.slice A ln c) ln _ from ho.out.get 0 rfl) (by omega)
            have z0 := cells_at (row_cells ho.out 0 rfl) (nats_get hp)
            have z1 := cells_at (row_cells ho.out 1 rfl) (bools_get hfr)
            have fz := (show wr.ownsRow 0 4 1 (.slice (some ⟨g, 0, none⟩) pn pn) pn (bools (seenL ps pn i (l.take j))) from ho.out.get 1 rfl).frozenAt p
            obtain ⟨x0, x1, x2, x3, x4, x5, x6, x7, x8, x9, xA⟩ := cells11 ho.out 2 rfl
            obtain ⟨a, rfl, y0, y1, y2, y3, y4, y5, y6, y7, y8⟩ := (hP.out.below (ho.out.below fun _ => id)).part hq
            have hnx2 := Hidd.mk fun (r : Nat) (h2 : l[j + 1]? = some r) => hnx.out j p r hp h2
            rw [stOf_at hq] at hnx2
            have bj0 : (0 : Int) ≤ (j : Int) := by omega
            have bj1 : (j : Int) < (ln : Int) := by omega
            have bp0 : (0 : Int) ≤ (p : Int) := by omega
            have bp1 : (p : Int) < (pn : Int) := by omega
            have dp0 : decide ((p : Int) < 0) = false := by rw [decide_eq_false_iff_not]; omega
            have dp1 : decide ((pn : Int) ≤ (p : Int)) = false := by rw [decide_eq_false_iff_not]; omega
            have dn : (q.node != (i : Int)) = false := by rw [bne_eq_false_iff_eq]; exact hqn
            have dl : decide (q.start < la) = false := by rw [decide_eq_false_iff_not]; omega
            replace hend := Hidd.mk hend
            replace hc1 := Hidd.mk hc1
            have vc : IntKind.i64.wrap ((cn : Int) + 1) = (cn : Int) + 1 := IntWalk.i64_in _ (by omega)
            clear hp hq hqn hfr hsp hl2 hpp
            obtain ⟨q0, q1, q2, q3, q4, q5, q6, q7, q8⟩ := q
            simp only at y0 y1 y2 y3 y4 y5 y6 y7 y8 dn dl hnx2
            go_wp2
            go_roundw
            case rel => exact ⟨j + 1, q1, by go_num, rfl, by rw [hc1.out]; go_num, by omega, hnx2, hend⟩
            case measure => (simp [intOf]; try omega)
          · obtain rfl : ln = j := by omega
            have h1 : l.take ln = l := List.take_of_length_le (by rw [hln.out]; exact Nat.le_refl _)
            have h2 := seenL_next ps (i : Int) l hO.out
            rw [hpl.out] at h2
            rw [h1, h2] at ho
            rw [h1, h2]
            clear h1 h2
            have bi9 : (i : Int) + 1 ≤ 8 := by omega
            have hend := Hidd.mk ho.out.tail
            go_wp2
            go_roundw
            case rel => exact ⟨i + 1, by go_num, rfl, by omega, hend⟩
            case measure => (simp [intOf]; try omega)
      · obtain rfl : N = i := by omega
        have hall := seenL_all ps pn (N : Int) (fun k hk => by rw [hN.out]; exact (hnd.out k (by rw [hP.out.1]; exact hk)).2.1)
        rw [hall]
        clear hall
        have bi1 : decide ((N : Int) < n) = false := by rw [decide_eq_false_iff_not, hN.out]; omega
        go_wp2_with (go_at_call 47; refine (order_any n f sl gp rh d0 d1 mg PA pn pc OA on oc RA rn rc ps n _ (hP.out.below (ho.out.below fun _ => id)) bP).mono ?_; rintro e w3 ⟨A, c, l, rfl, hO, hn⟩; (obtain rfl : l = [] := hO.none fun k hk => (hnd.out k hk).2.1); have ho4 := Hidd.mk (ho.out.madeL hn); clear hn)
        go_ret
        exact ⟨by simp, ho4.out.below fun _ => id⟩
end Go.Proofs.Ytcamoldjljfbeaa
