/- table.Check: what it answers. -/
import Derived.Test.YtcamoldjljfbeaaSoB
namespace Go.Proofs.Ytcamoldjljfbeaa
open Go.RowKit

set_option maxRecDepth 100000
set_option maxHeartbeats 8000000
theorem tabCheck_any (n f sl gp rh d0 d1 mg : Int) (PA : Option Addr) (pn pc : Nat) (OA : Option Addr) (on oc : Nat) (RA : Option Addr) (rn rc : Nat) (ps : List Pt) (qs : List Qt) (rs : List Rt) (w : World) (hP : At Pt.cells w PA pn ps) (hQ : At Qt.cells w OA on qs) (hR : At Rt.cells w RA rn rs)
    (oP : ∀ p ∈ ps, p.Ok) (oQ : ∀ p ∈ qs, p.Ok) (er : Option (Int × Int)) (her : tabE n f sl gp rh d0 d1 mg ps qs rs = er) :
    Calls Try.prog 31 #[.agg #[.int .i64 n, .int .i64 f, .int .i64 sl, .int .i64 gp, .int .i64 rh, .int .i64 d0, .int .i64 d1, .int .i64 mg, .slice PA pn pc, .slice OA on oc, .slice RA rn rc]] w fun e w' => ∃ v, e = .returned v ∧ IsE w' er v ∧ Below w.heap.size w w' := by
  have ho := Hidd.mk ((Own.nil w (fun _ => False)).alloc (.cells #[.int .i64 n, .int .i64 f, .int .i64 sl, .int .i64 gp, .int .i64 rh, .int .i64 d0, .int .i64 d1, .int .i64 mg, .slice PA pn pc, .slice OA on oc, .slice RA rn rc] 26))
  have hpl := hP.1
  have hql := hQ.1
  have hrl := hR.1
  replace hP := Hidd.mk hP
  replace hQ := Hidd.mk hQ
  replace hR := Hidd.mk hR
  replace oP := Hidd.mk oP
  replace oQ := Hidd.mk oQ
  unfold tabE at her
  rw [hpl, hql, hrl] at her
  rcases k0 : inB n 1 7 with _ | _
  rotate_left
  rcases k1 : inB f 0 2 with _ | _
  rotate_left
  rcases k2 : inB sl 1 16777216 with _ | _
  rotate_left
  rcases k3 : inB gp 0 16777216 with _ | _
  rotate_left
  rcases k4 : inB rh 0 200 with _ | _
  rotate_left
  rcases k5 : inB d1 0 1048576 with _ | _
  rotate_left
  rcases k6 : inB d0 0 d1 with _ | _
  rotate_left
  rcases k7 : inB mg 0 16777216 with _ | _
  rotate_left
  · have hs : scalB n f sl gp rh d0 d1 mg = true := by simp [scalB, k0, k1, k2, k3, k4, k5, k6, k7]
    rw [hs, if_neg (by decide)] at her
    have hn : 1 ≤ n ∧ n ≤ 7 := by unfold inB at k0; simpa using k0
    by_cases hm : 12 < pn ∨ 24 < on ∨ 24 < rn
    · rw [if_pos hm] at her
      subst her
      have hcase : decide (12 < (pn : Int)) = true ∨ (decide (12 < (pn : Int)) = false ∧ decide (24 < (on : Int)) = true) ∨ (decide (12 < (pn : Int)) = false ∧ decide (24 < (on : Int)) = false ∧ decide (24 < (rn : Int)) = true) := by
        simp only [decide_eq_true_eq, decide_eq_false_iff_not]
        omega
      clear hs hn hm hpl hql hrl
      rcases hcase with d1' | ⟨d1', d2'⟩ | ⟨d1', d2', d3'⟩
      all_goals go_enter Try.func31, Try.ntmps31
      all_goals go_wp2_with (first
        | (go_at_call 65; refine (in_any _ _ _ _).mono ?_; rintro e w' ⟨rfl, rfl⟩; first | rw [k0] | rw [k1] | rw [k2] | rw [k3] | rw [k4] | rw [k5] | rw [k6] | rw [k7])
        | (go_at_call 52; refine (new_any 3 (-1) _ (by decide) (by decide)).mono ?_; rintro e w1 ⟨b, rfl, he, hb⟩; replace he := Hidd.mk he; replace hb := Hidd.mk ((ho.out.ext hb).below fun _ => id)))
      all_goals go_ret
      all_goals exact ⟨_, rfl, he.out, hb.out⟩
    · rw [if_neg hm] at her
      have e1' : decide (12 < (pn : Int)) = false := by rw [decide_eq_false_iff_not]; omega
      have e2' : decide (24 < (on : Int)) = false := by rw [decide_eq_false_iff_not]; omega
      have e3' : decide (24 < (rn : Int)) = false := by rw [decide_eq_false_iff_not]; omega
      have b1 : pn ≤ 12 := by omega
      have b2 : on ≤ 24 := by omega
      have b3 : rn ≤ 24 := by omega
      obtain ⟨hn0, hn1⟩ := hn
      replace hpl := Hidd.mk hpl
      replace hql := Hidd.mk hql
      replace hrl := Hidd.mk hrl
      replace her := Hidd.mk her
      clear hs hm
      go_enter Try.func31, Try.ntmps31
      go_wp2_with (go_at_call 65; refine (in_any _ _ _ _).mono ?_; rintro e w' ⟨rfl, rfl⟩; first | rw [k0] | rw [k1] | rw [k2] | rw [k3] | rw [k4] | rw [k5] | rw [k6] | rw [k7])
      clear k0 k1 k2 k3 k4 k5 k6 k7 e1' e2' e3'
      generalize w.heap.size = p1 at ho ⊢
      generalize World.alloc w _ = wa at ho ⊢
      go_loopw [66] (fun v66 wr => ∃ i : Nat, v66 = .int .i64 i ∧ i ≤ pn ∧ Hidd (firstE (ptB · n) 2 (ps.drop i) i = firstE (ptB · n) 2 ps 0) ∧ Hidd (Own w (fun _ => False) wr [blk p1 (.cells #[.int .i64 n, .int .i64 f, .int .i64 sl, .int .i64 gp, .int .i64 rh, .int .i64 d0, .int .i64 d1, .int .i64 mg, .slice PA pn pc, .slice OA on oc, .slice RA rn rc] 26)])) (fun v66 _ => pn - (intOf v66).toNat)
      case atStart => exact ⟨0, rfl, Nat.zero_le _, ⟨rfl⟩, ho⟩
      case round =>
        clear ho
        obtain ⟨i, rfl, hi, hre, ho⟩ := hrel
        obtain ⟨x0, x1, x2, x3, x4, x5, x6, x7, x8, x9, xA⟩ := cells11 ho.out 0 rfl
        have hlt1 := ho.out.lt 0 rfl
        by_cases hlt : i < pn
        · obtain ⟨p, hp⟩ : ∃ x, ps[i]? = some x := ⟨_, List.getElem?_eq_getElem (by rw [hpl.out]; exact hlt)⟩
          have hok := oP.out p (List.mem_of_getElem? hp)
          obtain ⟨a, rfl, y0, y1, y2, y3, y4, y5, y6, y7, y8⟩ := (hP.out.below (ho.out.below fun _ => id)).part hp
          have hdr := hre.out
          rw [drop_at hp, firstE] at hdr
          have hyl := World.block_lt_of_cell? wr _ y0
          have bi0 : (0 : Int) ≤ (i : Int) := by omega
          have bi1 : (i : Int) < (pn : Int) := by omega
          clear hp hre
          rcases hb : ptB p n with _ | _
          · rw [hb, if_neg (by decide)] at hdr
            replace hb := Hidd.mk hb
            replace hdr := Hidd.mk hdr
            replace hok := Hidd.mk hok
            obtain ⟨pn0, pn1, pn2, pn3, pn4, pn5, pn6, pn7, pn8⟩ := p
            simp only at y0 y1 y2 y3 y4 y5 y6 y7 y8
            go_wp2_with (first
              | (go_at_call 66; refine (part_any ⟨pn0, pn1, pn2, pn3, pn4, pn5, pn6, pn7, pn8⟩ n _ hok.out hn0 hn1).mono ?_; rintro e w1 ⟨rfl, hb1⟩; rw [hb.out]; have ho1 := Hidd.mk ((ho.out.alloc _).ext hb1); clear hb1 ho)
              | (go_at_call 52; refine (new_any 2 (i : Int) _ (by decide) (by omega)).mono ?_; rintro e w2 ⟨b, rfl, he, hb2⟩; replace he := Hidd.mk he; have ho2 := Hidd.mk ((ho1.out.ext hb2).below fun _ => id); clear hb2 ho1))
            go_ret
            refine ⟨_, rfl, ?_, ho2.out⟩
            have e1 := her.out
            rw [← hdr.out] at e1
            rw [← e1]
            exact he.out
          · rw [hb, if_pos rfl] at hdr
            replace hb := Hidd.mk hb
            replace hdr := Hidd.mk hdr
            replace hok := Hidd.mk hok
            obtain ⟨pn0, pn1, pn2, pn3, pn4, pn5, pn6, pn7, pn8⟩ := p
            simp only at y0 y1 y2 y3 y4 y5 y6 y7 y8
            go_wp2_with (go_at_call 66; refine (part_any ⟨pn0, pn1, pn2, pn3, pn4, pn5, pn6, pn7, pn8⟩ n _ hok.out hn0 hn1).mono ?_; rintro e w1 ⟨rfl, hb1⟩; rw [hb.out]; have ho1 := Hidd.mk ((ho.out.alloc _).ext hb1).tail; clear hb1 ho)
            go_roundw
            case rel => exact ⟨i + 1, by go_num, by omega, hdr, ho1⟩
            case measure => (simp [intOf]; try omega)
        · obtain rfl : i = pn := by omega
          have hm0 : firstE (ptB · n) 2 ps 0 = none := by
            rw [← hre.out, List.drop_of_length_le (by rw [hpl.out]; exact Nat.le_refl _)]
            rfl
          have e1 := her.out
          rw [hm0] at e1
          clear her hre hm0 hlt hi
          have her := Hidd.mk e1
          clear e1
          go_wp2
          clear x0 x1 x2 x3 x4 x5 x6 x7 x8 x9 xA hlt1
          go_loopw [82] (fun v82 wr => ∃ j : Nat, v82 = .int .i64 j ∧ j ≤ on ∧ Hidd (firstE (qtB · (i : Int)) 8 (qs.drop j) j = firstE (qtB · (i : Int)) 8 qs 0) ∧ Hidd (Own w (fun _ => False) wr [blk p1 (.cells #[.int .i64 n, .int .i64 f, .int .i64 sl, .int .i64 gp, .int .i64 rh, .int .i64 d0, .int .i64 d1, .int .i64 mg, .slice PA i pc, .slice OA on oc, .slice RA rn rc] 26)])) (fun v82 _ => on - (intOf v82).toNat)
          case atStart => exact ⟨0, rfl, Nat.zero_le _, ⟨rfl⟩, ho⟩
          case round =>
            clear ho
            obtain ⟨j, rfl, hj, hre, ho⟩ := hrel
            obtain ⟨x0, x1, x2, x3, x4, x5, x6, x7, x8, x9, xA⟩ := cells11 ho.out 0 rfl
            have hlt1 := ho.out.lt 0 rfl
            by_cases hlt : j < on
            · obtain ⟨p, hp⟩ : ∃ x, qs[j]? = some x := ⟨_, List.getElem?_eq_getElem (by rw [hql.out]; exact hlt)⟩
              have hok := oQ.out p (List.mem_of_getElem? hp)
              obtain ⟨a, rfl, y0, y1, y2, y3, y4, y5⟩ := (hQ.out.below (ho.out.below fun _ => id)).port hp
              have hdr := hre.out
              rw [drop_at hp, firstE] at hdr
              have hyl := World.block_lt_of_cell? wr _ y0
              have bi0 : (0 : Int) ≤ (j : Int) := by omega
              have bi1 : (j : Int) < (on : Int) := by omega
              clear hp hre
              rcases hb : qtB p (i : Int) with _ | _
              · rw [hb, if_neg (by decide)] at hdr
                replace hb := Hidd.mk hb
                replace hdr := Hidd.mk hdr
                replace hok := Hidd.mk hok
                obtain ⟨pn0, pn1, pn2, pn3, pn4, pn5⟩ := p
                simp only at y0 y1 y2 y3 y4 y5
                go_wp2_with (first
                  | (go_at_call 67; refine (port_any ⟨pn0, pn1, pn2, pn3, pn4, pn5⟩ (i : Int) _ hok.out (by omega) (by omega)).mono ?_; rintro e w1 ⟨rfl, hb1⟩; rw [hb.out]; have ho1 := Hidd.mk ((ho.out.alloc _).ext hb1); clear hb1 ho)
                  | (go_at_call 52; refine (new_any 8 (j : Int) _ (by decide) (by omega)).mono ?_; rintro e w2 ⟨b, rfl, he, hb2⟩; replace he := Hidd.mk he; have ho2 := Hidd.mk ((ho1.out.ext hb2).below fun _ => id); clear hb2 ho1))
                go_ret
                refine ⟨_, rfl, ?_, ho2.out⟩
                have e1 := her.out
                rw [← hdr.out] at e1
                rw [← e1]
                exact he.out
              · rw [hb, if_pos rfl] at hdr
                replace hb := Hidd.mk hb
                replace hdr := Hidd.mk hdr
                replace hok := Hidd.mk hok
                obtain ⟨pn0, pn1, pn2, pn3, pn4, pn5⟩ := p
                simp only at y0 y1 y2 y3 y4 y5
                go_wp2_with (go_at_call 67; refine (port_any ⟨pn0, pn1, pn2, pn3, pn4, pn5⟩ (i : Int) _ hok.out (by omega) (by omega)).mono ?_; rintro e w1 ⟨rfl, hb1⟩; rw [hb.out]; have ho1 := Hidd.mk ((ho.out.alloc _).ext hb1).tail; clear hb1 ho)
                go_roundw
                case rel => exact ⟨j + 1, by go_num, by omega, hdr, ho1⟩
                case measure => (simp [intOf]; try omega)
            · obtain rfl : j = on := by omega
              have hm0 : firstE (qtB · (i : Int)) 8 qs 0 = none := by
                rw [← hre.out, List.drop_of_length_le (by rw [hql.out]; exact Nat.le_refl _)]
                rfl
              have e1 := her.out
              rw [hm0] at e1
              clear her hre hm0 hlt hj
              have her := Hidd.mk e1
              clear e1
              go_wp2
              clear x0 x1 x2 x3 x4 x5 x6 x7 x8 x9 xA hlt1
              go_loopw [99] (fun v99 wr => ∃ k : Nat, v99 = .int .i64 k ∧ k ≤ rn ∧ Hidd (firstE (rtB · (j : Int)) 72 (rs.drop k) k = firstE (rtB · (j : Int)) 72 rs 0) ∧ Hidd (Own w (fun _ => False) wr [blk p1 (.cells #[.int .i64 n, .int .i64 f, .int .i64 sl, .int .i64 gp, .int .i64 rh, .int .i64 d0, .int .i64 d1, .int .i64 mg, .slice PA i pc, .slice OA j oc, .slice RA rn rc] 26)])) (fun v99 _ => rn - (intOf v99).toNat)
              case atStart => exact ⟨0, rfl, Nat.zero_le _, ⟨rfl⟩, ho⟩
              case round =>
                clear ho
                obtain ⟨k, rfl, hk, hre, ho⟩ := hrel
                obtain ⟨x0, x1, x2, x3, x4, x5, x6, x7, x8, x9, xA⟩ := cells11 ho.out 0 rfl
                have hlt1 := ho.out.lt 0 rfl
                by_cases hlt : k < rn
                · obtain ⟨p, hp⟩ : ∃ x, rs[k]? = some x := ⟨_, List.getElem?_eq_getElem (by rw [hrl.out]; exact hlt)⟩
                  obtain ⟨a, rfl, y0, y1⟩ := (hR.out.below (ho.out.below fun _ => id)).route hp
                  have hdr := hre.out
                  rw [drop_at hp, firstE, rtB] at hdr
                  have hyl := World.block_lt_of_cell? wr _ y0
                  have bi0 : (0 : Int) ≤ (k : Int) := by omega
                  have bi1 : (k : Int) < (rn : Int) := by omega
                  clear hp hre
                  obtain ⟨r0, r1⟩ := p
                  simp only at y0 y1 hdr
                  rcases q0 : inB r0 0 ((j : Int) - 1) with _ | _
                  rotate_left
                  rcases q1 : inB r1 0 ((j : Int) - 1) with _ | _
                  rotate_left
                  · rw [q0, q1, Bool.true_and, if_pos rfl] at hdr
                    replace hdr := Hidd.mk hdr
                    go_wp2_with (go_at_call 65; refine (in_any _ _ _ _).mono ?_; rintro e w' ⟨rfl, rfl⟩; first | rw [q0] | rw [q1])
                    go_roundw
                    case rel => exact ⟨k + 1, by go_num, by omega, hdr, ⟨(ho.out.alloc _).tail⟩⟩
                    case measure => (simp [intOf]; try omega)
                  all_goals (first | rw [q0] at hdr | skip)
                  all_goals (first | rw [q1] at hdr | skip)
                  all_goals simp only [Bool.false_and, Bool.and_false, Bool.false_eq_true, if_false] at hdr
                  all_goals replace hdr := Hidd.mk hdr
                  all_goals go_wp2_with (first
                    | (go_at_call 65; refine (in_any _ _ _ _).mono ?_; rintro e w' ⟨rfl, rfl⟩; first | rw [q0] | rw [q1])
                    | (go_at_call 52; refine (new_any 72 (k : Int) _ (by decide) (by omega)).mono ?_; rintro e w2 ⟨b, rfl, he, hb2⟩; replace he := Hidd.mk he; have ho2 := Hidd.mk (((ho.out.alloc _).ext hb2).below fun _ => id); clear hb2 ho))
                  all_goals go_ret
                  all_goals refine ⟨_, rfl, ?_, ho2.out⟩
                  all_goals have e1 := her.out
                  all_goals rw [← hdr.out] at e1
                  all_goals rw [← e1]
                  all_goals exact he.out
                · obtain rfl : k = rn := by omega
                  have hm0 : firstE (rtB · (j : Int)) 72 rs 0 = none := by
                    rw [← hre.out, List.drop_of_length_le (by rw [hrl.out]; exact Nat.le_refl _)]
                    rfl
                  have e1 := her.out
                  rw [hm0] at e1
                  go_wp2
                  go_ret
                  subst e1
                  exact ⟨_, rfl, rfl, ho.out.below fun _ => id⟩
  all_goals (have hs : scalB n f sl gp rh d0 d1 mg = false := by simp [scalB, *])
  all_goals rw [hs, if_pos rfl] at her
  all_goals subst her
  all_goals clear hs hpl hql hrl
  all_goals go_enter Try.func31, Try.ntmps31
  all_goals go_wp2_with (first
    | (go_at_call 65; refine (in_any _ _ _ _).mono ?_; rintro e w' ⟨rfl, rfl⟩; first | rw [k0] | rw [k1] | rw [k2] | rw [k3] | rw [k4] | rw [k5] | rw [k6] | rw [k7])
    | (go_at_call 52; refine (new_any 2 (-1) _ (by decide) (by decide)).mono ?_; rintro e w1 ⟨b, rfl, he, hb⟩; replace he := Hidd.mk he; replace hb := Hidd.mk ((ho.out.ext hb).below fun _ => id)))
  all_goals go_ret
  all_goals exact ⟨_, rfl, he.out, hb.out⟩
end Go.Proofs.Ytcamoldjljfbeaa
