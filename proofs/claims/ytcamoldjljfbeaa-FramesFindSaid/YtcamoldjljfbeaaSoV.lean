/- frames.Windows. -/
import Derived.Test.YtcamoldjljfbeaaSoV0
namespace Go.Proofs.Ytcamoldjljfbeaa
open Go.RowKit

theorem info_win : (Try.prog.info? 62).map (fun i => (i.zero, i.size, i.bytes)) = some (some (.agg #[.int .i64 0, .int .i64 0, .int .i64 0]), 3, 24) := by kernel_rfl
theorem flat_take {l : List Nat} {j i : Nat} (f : Nat → List Value) (hj : l[j]? = some i) : (l.take j).flatMap f ++ f i = (l.take (j + 1)).flatMap f := by
  rw [take_put hj, List.flatMap_append]
  simp
set_option maxRecDepth 100000
set_option maxHeartbeats 8000000
theorem wins_any (n f sl gp rh d0 d1 mg : Int) (PA : Option Addr) (pn pc : Nat) (OA : Option Addr) (on oc : Nat) (RA : Option Addr) (rn rc : Nat) (ps : List Pt) (node : Int) (l : List Nat) (w : World) (hP : At Pt.cells w PA pn ps) (hpn : pn ≤ 12) (hi : ∀ p ∈ ps, PtIn p) (hd : Dis ps) (hl : ordL ps node = l) (ln : Nat) (hln : l.length = ln) :
    Calls Try.prog 37 #[.agg #[.int .i64 n, .int .i64 f, .int .i64 sl, .int .i64 gp, .int .i64 rh, .int .i64 d0, .int .i64 d1, .int .i64 mg, .slice PA pn pc, .slice OA on oc, .slice RA rn rc], .int .i64 node] w fun e w' => ∃ A c, e = .returned (.slice A ln c) ∧ Own w (fun _ => False) w' [row 62 3 (.slice A ln c) ln (l.flatMap (winC ps))] := by
  have ho0 := Hidd.mk (row_nil ((Own.nil w (fun _ => False)).alloc (.cells #[.int .i64 n, .int .i64 f, .int .i64 sl, .int .i64 gp, .int .i64 rh, .int .i64 d0, .int .i64 d1, .int .i64 mg, .slice PA pn pc, .slice OA on oc, .slice RA rn rc] 26)) 62 3)
  have hO : Ord ps node l := by rw [← hl]; exact ordL_ord _ _
  have hl12 : ln ≤ 12 := by rw [← hln]; have := hO.len; have := hP.1; omega
  obtain ⟨iW, hIW⟩ : ∃ i, _ := info_parts info_win
  replace hIW := Hidd.mk hIW
  have hpl := Hidd.mk hP.1
  replace hP := Hidd.mk hP
  replace hi := Hidd.mk hi
  replace hd := Hidd.mk hd
  replace hl := Hidd.mk hl
  replace hln := Hidd.mk hln
  replace hO := Hidd.mk hO
  go_enter Try.func37, Try.ntmps37
  go_wp2_with (go_at_call 47; refine (order_any n f sl gp rh d0 d1 mg PA pn pc OA on oc RA rn rc ps node _ (hP.out.below (ho0.out.below fun _ => id)) hpn).mono ?_; rintro e w1 ⟨A, c, l', rfl, hO', hn⟩; obtain rfl : l' = l := (hO'.uniq hi.out hd.out).trans hl.out; have ho1 := Hidd.mk (ho0.out.madeL hn); clear hn hO')
  rw [hln.out] at ho1 ⊢
  clear ho0
  generalize w.heap.size = p1 at ho1 ⊢
  go_loopw [5, 12] (fun v5 v12 wr => ∃ (j : Nat) (B : Option Addr) (b : Nat), v12 = .int .i64 j ∧ v5 = .slice B j b ∧ j ≤ ln ∧ Hidd (Own w (fun _ => False) wr [row 3 1 (.slice A ln c) ln (nums .i64 (nats l')), row 62 3 (.slice B j b) j ((l'.take j).flatMap (winC ps)), blk p1 (.cells #[.int .i64 n, .int .i64 f, .int .i64 sl, .int .i64 gp, .int .i64 rh, .int .i64 d0, .int .i64 d1, .int .i64 mg, .slice PA pn pc, .slice OA on oc, .slice RA rn rc] 26 (0, 0))])) (fun _ v12 _ => ln - (intOf v12).toNat)
  case atStart => exact ⟨0, none, 0, rfl, rfl, Nat.zero_le _, ho1⟩
  case round =>
    clear ho1
    obtain ⟨j, B, b, rfl, rfl, hjl, ho⟩ := hrel
    by_cases hlj : j < ln
    · obtain ⟨i, hi'⟩ : ∃ x, l'[j]? = some x := ⟨_, List.getElem?_eq_getElem (by rw [hln.out]; exact hlj)⟩
      obtain ⟨p, hp, _, hpp⟩ := hO.out.at hi'
      have hpp' : i < pn := by rw [← hpl.out]; exact hpp
      have hft := flat_take (winC ps) hi'
      obtain ⟨g2, rfl, _⟩ := head_any (show wr.ownsRow 0 3 1 (.slice A ln c) ln _ from ho.out.get 0 rfl) (by omega)
      have z0 := cells_at (row_cells ho.out 0 rfl) (nats_get hi')
      obtain ⟨i1, i2, i3, i4⟩ := hi.out p (List.mem_of_getElem? hp)
      have hs1 := stOf_at hp
      have hs2 := lnOf_at hp
      have bj0 : (0 : Int) ≤ (j : Int) := by omega
      have bj1 : (j : Int) < (ln : Int) := by omega
      have bp0 : (0 : Int) ≤ (i : Int) := by omega
      have bp1 : (i : Int) < (pn : Int) := by omega
      replace hs1 := Hidd.mk hs1
      replace hs2 := Hidd.mk hs2
      replace hft := Hidd.mk hft
      replace hp := Hidd.mk hp
      clear hi' hpp
      go_wp2
      obtain ⟨W0, hW0⟩ : ∃ zz, zz = World.drew wr := ⟨_, rfl⟩
      refine wp_region_flow [([0, 1, 2, 4, 8, 10, 14, 16, 3, 9, 15, 5, 11, 17, 6, 12, 18, 7, 13, 19, 20, 21], some (22, [true])), ([], some (23, [false, false])), ([24], none)] (by kernel_rfl) (by kernel_rfl) ?_
      rw [show ({ wr with drawn := wr.drawn + 1 } : World) = W0 from hW0.symm]
      replace hW0 := Hidd.mk hW0
      simp only [opsF, List.map_cons, List.map_nil, List.getD_cons_succ, List.getD_cons_zero, Option.map]
      have ho2 := Hidd.mk (show Own w (fun _ => False) W0 _ by rw [hW0.out]; exact ho.out.drew)
      clear hW0 ho z0
      obtain ⟨x0, x1, x2, x3, x4, x5, x6, x7, x8, x9, xA⟩ := cells11 ho2.out 2 rfl
      have hpl1 := ho2.out.lt 2 rfl
      obtain ⟨a, rfl, y0, y1, y2, y3, y4, y5, y6, y7, y8⟩ := (hP.out.below (ho2.out.below fun _ => id)).part hp.out
      have hyl := World.block_lt_of_cell? _ _ y0
      obtain ⟨q0, q1, q2, q3, q4, q5, q6, q7, q8⟩ := p
      simp only at y0 y1 y2 y3 y4 y5 y6 y7 y8 i1 i2 i3 i4
      have va : IntKind.i64.wrap (q1 + q2) = q1 + q2 := IntWalk.i64_in _ (by omega)
      refine FlW.stage (fun zz => Kept (fun _ => False) W0 zz) (Kept.refl _ _) ?_
      repeat (first | (refine StQ.skip (by rfl) ?_; simp only [Act.put, List.setIfInBounds_toArray, List.set_cons_zero, List.set_cons_succ]) | (refine StQ.go' (by rfl) (Exists.intro ?_ (And.intro (fun w' hS => ?_) ?_)); rotate_left; (focus (have hc := Kept.cell0 hS; go_simp; try with_reducible rfl)); simp only [Act.put, List.setIfInBounds_toArray, List.set_cons_zero, List.set_cons_succ]))
      refine StQ.nil ?_
      refine FlO.go (by rfl) (fun K hK => ?_); go_simp; refine hK.out _ _ (.inr ⟨Kept.alloc _ _ _, trivial⟩) ?_; clear hK K
      refine FlW.stage (fun _ => True) trivial (StQ.nil ?_)
      have hwc : winC ps i = [.int .i64 (i : Int), .int .i64 q1, .int .i64 (q1 + q2)] := by unfold winC; rw [hs1.out, hs2.out]
      have ho3 := Hidd.mk (ho2.out.alloc (.cells #[.int .i64 (i : Int), .int .i64 q1, .int .i64 (q1 + q2)] 62))
      clear ho2 x0 x1 x2 x3 x4 x5 x6 x7 x8 x9 xA y0 y1 y2 y3 y4 y5 y6 y7 y8 hyl hpl1
      replace hwc := Hidd.mk hwc
      refine FlO.go (by rfl) (fun K hK => ?_)
      (refine wp_row _ _ 59 rfl 62 iW (.agg #[.int .i64 0, .int .i64 0, .int .i64 0]) 3 24 Try.underlying59 hIW.out.1 hIW.out.2.1 hIW.out.2.2.1 hIW.out.2.2.2 (by rfl) (by decide) ho3.out 2 B j b _ rfl rfl (some ⟨W0.heap.size, 0, none⟩) 1 1 (winC ps i) rfl rfl (by rw [hwc.out]; exact Cells.new _ _ _ _ rfl) (by intro _ h; cases h) (winC_one _ _) (by unfold maxLen; omega) (by omega) ?_; intro A6 c6 w6 ho6 hk6)
      refine hK.out _ _ (.inr trivial) ?_
      clear hK K
      simp only [List.set_cons_zero, List.set_cons_succ] at ho6
      have hend := Hidd.mk ho6.tail
      rw [hft.out] at hend
      clear ho6 ho3 hk6
      refine FlW.heads (fun zz => zz = _) rfl ?_
      repeat (first | (refine StQ.skip (by rfl) ?_; simp only [Act.put, List.setIfInBounds_toArray, List.set_cons_zero, List.set_cons_succ]) | (refine StQ.go' (by rfl) (Exists.intro ?_ (And.intro (fun w' hS => ?_) ?_)); rotate_left; (focus (rw [hS]; go_simp; try with_reducible rfl)); simp only [Act.put, List.setIfInBounds_toArray, List.set_cons_zero, List.set_cons_succ]))
      refine StQ.nil ?_
      refine FlW.nil (Calm.normal ?_)
      go_wp2
      go_roundw
      case rel => exact ⟨j + 1, A6, c6, by go_num, rfl, by omega, hend⟩
      case measure => (simp [intOf]; try omega)
    · obtain rfl : ln = j := by omega
      have h1 : l'.take ln = l' := List.take_of_length_le (by rw [hln.out]; exact Nat.le_refl _)
      rw [h1] at ho
      have hend := Hidd.mk (ho.out.reorder (M := [_]) [1] rfl (by decide))
      go_wp2
      go_ret
      exact ⟨_, _, rfl, hend.out⟩
end Go.Proofs.Ytcamoldjljfbeaa
