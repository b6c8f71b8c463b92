/- SoundApart walked. -/
import Derived.Test.YtcamoldjljfbeaaSoM
import Derived.Test.YtcamoldjljfbeaaSoR0
import Derived.Carry
namespace Go.Proofs.Ytcamoldjljfbeaa
open Go.RowKit

set_option maxRecDepth 100000
set_option maxHeartbeats 8000000
theorem soundApart_walk (n f sl gp rh d0 d1 mg : Int) (PA : Option Addr) (pn pc : Nat) (pz : List (List Value)) (OA : Option Addr) (on oc : Nat) (oz : List (List Value)) (RA : Option Addr) (rn rc : Nat) (rz : List (List Value)) (w : World) (_h0 : (Lit.int .i64 n).wf = true) (_h1 : (Lit.int .i64 f).wf = true) (_h2 : (Lit.int .i64 sl).wf = true) (_h3 : (Lit.int .i64 gp).wf = true) (_h4 : (Lit.int .i64 rh).wf = true) (_h5 : (Lit.int .i64 d0).wf = true) (_h6 : (Lit.int .i64 d1).wf = true) (_h7 : (Lit.int .i64 mg).wf = true) (h8 : Rows' w 48 [.int .i64, .int .i64, .int .i64, .int .i64, .int .i64, .int .u8, .int .u8, .int .u8, .int .u8] PA pn pc pz) (h9 : Rows' w 40 [.int .i64, .int .u8, .bool, .int .i64, .int .i64, .int .i64] OA on oc oz) (hA : Rows' w 16 [.int .i64, .int .i64] RA rn rc rz) :
    Calls Try.prog 4 #[.agg #[.int .i64 n, .int .i64 f, .int .i64 sl, .int .i64 gp, .int .i64 rh, .int .i64 d0, .int .i64 d1, .int .i64 mg, .slice PA pn pc, .slice OA on oc, .slice RA rn rc]] w fun e w' => e = .returned (.bool true) ∧ Below w.heap.size w w' := by
  obtain ⟨ps, hP, oP⟩ := parts_of h8
  obtain ⟨qs, hQ, oQ⟩ := ports_of h9
  obtain ⟨rs, hR, _⟩ := routes_of hA
  have hpw := h8.wt
  have hqw := h9.wt
  have hrw := hA.wt
  unfold reachBytes at hpw hqw hrw
  clear _h0 _h1 _h2 _h3 _h4 _h5 _h6 _h7 h8 h9 hA
  have ho := Hidd.mk ((Own.nil w (fun _ => False)).alloc (.cells #[.int .i64 n, .int .i64 f, .int .i64 sl, .int .i64 gp, .int .i64 rh, .int .i64 d0, .int .i64 d1, .int .i64 mg, .slice PA pn pc, .slice OA on oc, .slice RA rn rc] 26))
  replace hP := Hidd.mk hP
  replace hQ := Hidd.mk hQ
  replace hR := Hidd.mk hR
  replace oP := Hidd.mk oP
  replace oQ := Hidd.mk oQ
  rcases hl : longB pn on rn with _ | _
  rotate_left
  · replace hl := Hidd.mk hl
    go_enter Try.func4, Try.ntmps4
    go_wp2_with (first
      | (go_at_call 18; refine (awake6_any _).mono ?_; rintro e w1 ⟨rfl, hb⟩; have ho1 := Hidd.mk (ho.out.ext hb); clear hb ho; obtain ⟨x0, x1, x2, x3, x4, x5, x6, x7, x8, x9, xA⟩ := cells11 ho1.out 0 rfl)
      | (go_at_call 19; refine (long_any n f sl gp rh d0 d1 mg PA pn pc OA on oc RA rn rc _).mono ?_; rintro e w2 ⟨rfl, hb⟩; rw [hl.out]; have ho2 := Hidd.mk (ho1.out.ext hb); clear hb ho1))
    go_ret
    exact ⟨rfl, ho2.out.below fun _ => id⟩
  · replace hl := Hidd.mk hl
    rcases he : soundE n f sl gp rh d0 d1 mg ps qs rs with _ | ⟨ec, ea⟩
    rotate_left
    · have her := Hidd.mk he
      clear he
      go_enter Try.func4, Try.ntmps4
      go_wp2_with (first
        | (go_at_call 18; refine (awake6_any _).mono ?_; rintro e w1 ⟨rfl, hb⟩; have ho1 := Hidd.mk (ho.out.ext hb); clear hb ho; obtain ⟨x0, x1, x2, x3, x4, x5, x6, x7, x8, x9, xA⟩ := cells11 ho1.out 0 rfl)
        | (go_at_call 19; refine (long_any n f sl gp rh d0 d1 mg PA pn pc OA on oc RA rn rc _).mono ?_; rintro e w2 ⟨rfl, hb⟩; rw [hl.out]; have ho2 := Hidd.mk (ho1.out.ext hb); clear hb ho1; clear x0 x1 x2 x3 x4 x5 x6 x7 x8 x9 xA; obtain ⟨x0, x1, x2, x3, x4, x5, x6, x7, x8, x9, xA⟩ := cells11 ho2.out 0 rfl)
        | (go_at_call 22; refine (copied_any n f sl gp rh d0 d1 mg PA pn pc OA on oc RA rn rc ps qs rs _ (hP.out.below (ho2.out.below fun _ => id)) (hQ.out.below (ho2.out.below fun _ => id)) (hR.out.below (ho2.out.below fun _ => id)) hpw hqw hrw).mono ?_; rintro e w3 ⟨A, a, B, b, C, c, rfl, hn⟩; have ho3 := Hidd.mk (ho2.out.madeL hn); clear hn ho2; clear x0 x1 x2 x3 x4 x5 x6 x7 x8 x9 xA; obtain ⟨l1, l2⟩ := row_le ho3.out 2 rfl; obtain ⟨l3, l4⟩ := row_le ho3.out 0 rfl; unfold maxLen at l2 l4)
        | (go_at_call 21; refine (soundCheck_any n f sl gp rh d0 d1 mg A pn a B on b C rn c ps qs rs _ ⟨hP.out.1, row_cells ho3.out 2 rfl⟩ ⟨hQ.out.1, row_cells ho3.out 1 rfl⟩ ⟨hR.out.1, row_cells ho3.out 0 rfl⟩ oP.out oQ.out l1 l2 l3 l4 _ her.out).mono ?_; rintro e w4 ⟨v, rfl, he, hb⟩; obtain ⟨be, rfl, _⟩ := he; have ho4 := Hidd.mk (ho3.out.ext hb).tail.tail.tail; clear hb ho3 l1 l2 l3 l4))
      go_ret
      exact ⟨rfl, ho4.out.below fun _ => id⟩
    have hS := Snd.of he
    have her := Hidd.mk he
    have hs := hS.tab.sc
    have m1 := hS.nodes
    have m2 := hS.margin
    have m3 := hS.slot
    have hD := hs.drf
    have hQp := hs.prc
    have hN := hs.nsl
    obtain ⟨N, hNe⟩ : ∃ N, nsl n sl = N := ⟨_, rfl⟩
    have hwin := hS.win
    rw [hNe] at hwin hN
    unfold nsl at hNe
    have hrou := Hidd.mk hS.rou
    replace hwin := Hidd.mk hwin
    have f0 := hs.f0
    have f2 := hs.f2
    have g1 := hs.d0a
    have g2 := hs.d0b
    have g3 := hs.d1b
    have g4 := hs.m0
    have g5 := hs.m2
    have vN : IntKind.i64.wrap (n * sl) = N := by rw [hNe]; exact IntWalk.i64_in _ (by omega)
    have vf : IntKind.i64.wrap (3 * f) = 3 * f := IntWalk.i64_in _ (by omega)
    have vf2 : IntKind.i64.wrap (3 * f + 1) = 3 * f + 1 := IntWalk.i64_in _ (by omega)
    have vm : IntKind.i64.wrap (2 * mg) = 2 * mg := IntWalk.i64_in _ (by omega)
    obtain ⟨D, hDe⟩ : ∃ D, drf rh (rnd n sl gp) = D := ⟨_, rfl⟩
    rw [hDe] at m2 m3 hD hQp
    obtain ⟨P, hPe⟩ : ∃ P, prc d0 d1 D = P := ⟨_, rfl⟩
    have hP2 : 2 ≤ P := by rw [← hPe]; unfold prc; omega
    rw [hPe] at m2 m3 hQp
    have dn := decide_eq_true m1
    have dm := decide_eq_true (show 2 * mg < sl by omega)
    have dp := decide_eq_true (show P ≤ mg by omega)
    have hin : Hidd (∀ p ∈ ps, PtIn p) := ⟨fun p hp => PtIn.of (hS.tab.p p hp)⟩
    have hrt : Hidd (∀ p ∈ rs, rtB p (on : Int) = true) := ⟨by rw [← hQ.out.1]; exact hS.tab.r⟩
    have b1 := hS.tab.np
    have b2 := hS.tab.nq
    have b3 := hS.tab.nr
    rw [hP.out.1] at b1
    rw [hQ.out.1] at b2
    rw [hR.out.1] at b3
    replace hDe := Hidd.mk hDe
    replace hPe := Hidd.mk hPe
    replace hs := Hidd.mk hs
    clear he hS hNe m1 m2 m3 hQp hD f0 f2 g1 g2 g3 g4 g5 hP2
    go_enter Try.func4, Try.ntmps4
    go_wp2_with (first
      | (go_at_call 18; refine (awake6_any _).mono ?_; rintro e w1 ⟨rfl, hb⟩; have ho1 := Hidd.mk (ho.out.ext hb); clear hb ho; obtain ⟨x0, x1, x2, x3, x4, x5, x6, x7, x8, x9, xA⟩ := cells11 ho1.out 0 rfl)
      | (go_at_call 19; refine (long_any n f sl gp rh d0 d1 mg PA pn pc OA on oc RA rn rc _).mono ?_; rintro e w2 ⟨rfl, hb⟩; rw [hl.out]; have ho2 := Hidd.mk (ho1.out.ext hb); clear hb ho1; clear x0 x1 x2 x3 x4 x5 x6 x7 x8 x9 xA; obtain ⟨x0, x1, x2, x3, x4, x5, x6, x7, x8, x9, xA⟩ := cells11 ho2.out 0 rfl)
      | (go_at_call 22; refine (copied_any n f sl gp rh d0 d1 mg PA pn pc OA on oc RA rn rc ps qs rs _ (hP.out.below (ho2.out.below fun _ => id)) (hQ.out.below (ho2.out.below fun _ => id)) (hR.out.below (ho2.out.below fun _ => id)) hpw hqw hrw).mono ?_; rintro e w3 ⟨A, a, B, b, C, c, rfl, hn⟩; have ho3 := Hidd.mk (ho2.out.madeL hn); clear hn ho2; clear x0 x1 x2 x3 x4 x5 x6 x7 x8 x9 xA; obtain ⟨l1, l2⟩ := row_le ho3.out 2 rfl; obtain ⟨l3, l4⟩ := row_le ho3.out 0 rfl; unfold maxLen at l2 l4)
      | (go_at_call 21; refine (soundCheck_any n f sl gp rh d0 d1 mg A pn a B on b C rn c ps qs rs _ ⟨hP.out.1, row_cells ho3.out 2 rfl⟩ ⟨hQ.out.1, row_cells ho3.out 1 rfl⟩ ⟨hR.out.1, row_cells ho3.out 0 rfl⟩ oP.out oQ.out l1 l2 l3 l4 _ her.out).mono ?_; rintro e w4 ⟨v, rfl, he, hb⟩; obtain rfl := show v = .nilIface from he; have ho4 := Hidd.mk (ho3.out.ext hb).tail.tail.tail; clear hb ho3 l1 l2 l3 l4 he; obtain ⟨x0, x1, x2, x3, x4, x5, x6, x7, x8, x9, xA⟩ := cells11 ho4.out 0 rfl))
    generalize w.heap.size = p1 at ho4 ⊢
    clear x0 x1 x2 x3 x4 x5 x6 x7 x8 x9 xA
    go_loopw [23] (fun v23 wr => ∃ i : Nat, v23 = .int .i64 i ∧ i ≤ pn ∧ Hidd (Own w (fun _ => False) wr [blk p1 (.cells #[.int .i64 n, .int .i64 f, .int .i64 sl, .int .i64 gp, .int .i64 rh, .int .i64 d0, .int .i64 d1, .int .i64 mg, .slice PA pn pc, .slice OA on oc, .slice RA rn rc] 26)])) (fun v23 _ => pn - (intOf v23).toNat)
    case atStart => exact ⟨0, rfl, Nat.zero_le _, ho4⟩
    case round =>
      clear ho4
      obtain ⟨i, rfl, hil, ho⟩ := hrel
      obtain ⟨x0, x1, x2, x3, x4, x5, x6, x7, x8, x9, xA⟩ := cells11 ho.out 0 rfl
      have hlt1 := ho.out.lt 0 rfl
      by_cases hlt : i < pn
      · obtain ⟨p, hp⟩ : ∃ x, ps[i]? = some x := ⟨_, List.getElem?_eq_getElem (by rw [hP.out.1]; exact hlt)⟩
        obtain ⟨i1, i2, i3, i4⟩ := hin.out p (List.mem_of_getElem? hp)
        obtain ⟨a, rfl, y0, y1, y2, y3, y4, y5, y6, y7, y8⟩ := (hP.out.below (ho.out.below fun _ => id)).part hp
        have hen := win_end hwin.out hp
        have htw := Hidd.mk fun (k : Nat) (q : Pt) (hq : ps[k]? = some q) (hk : i ≠ k) => win_two hwin.out hp hq hk
        have hyl := World.block_lt_of_cell? wr _ y0
        have bi0 : (0 : Int) ≤ (i : Int) := by omega
        have bi1 : (i : Int) < (pn : Int) := by omega
        clear hp
        obtain ⟨q0, q1, q2, q3, q4, q5, q6, q7, q8⟩ := p
        simp only at y0 y1 y2 y3 y4 y5 y6 y7 y8 i1 i2 i3 i4 hen htw
        have va : IntKind.i64.wrap (q1 + q2) = q1 + q2 := IntWalk.i64_in _ (by omega)
        have de : decide (N < q1 + q2) = false := by rw [decide_eq_false_iff_not]; omega
        have ho4 := Hidd.mk (ho.out.alloc (.cells #[.int .i64 q0, .int .i64 q1, .int .i64 q2, .int .i64 q3, .int .i64 q4, .int .u8 (q5 : Int), .int .u8 (q6 : Int), .int .u8 (q7 : Int), .int .u8 (q8 : Int)] 38))
        go_wp2
        generalize wr.heap.size = p4 at ho4 ⊢
        generalize World.alloc wr _ = wb at ho4 ⊢
        clear y0 y1 y2 y3 y4 y5 y6 y7 y8 hyl hlt1 de hen
        clear x0 x1 x2 x3 x4 x5 x6 x7 x8 x9 xA
        go_loopw [42] (fun v42 wz => ∃ k : Nat, v42 = .int .i64 k ∧ k ≤ pn ∧ Hidd (Own w (fun _ => False) wz [blk p4 (.cells #[.int .i64 q0, .int .i64 q1, .int .i64 q2, .int .i64 q3, .int .i64 q4, .int .u8 (q5 : Int), .int .u8 (q6 : Int), .int .u8 (q7 : Int), .int .u8 (q8 : Int)] 38), blk p1 (.cells #[.int .i64 n, .int .i64 f, .int .i64 sl, .int .i64 gp, .int .i64 rh, .int .i64 d0, .int .i64 d1, .int .i64 mg, .slice (some a) pn pc, .slice OA on oc, .slice RA rn rc] 26)])) (fun v42 _ => pn - (intOf v42).toNat)
        case atStart => exact ⟨0, rfl, Nat.zero_le _, ho4⟩
        case round =>
          clear ho4
          obtain ⟨k, rfl, hk, ho4⟩ := hrel
          by_cases hlk : k < pn
          · obtain ⟨q, hq⟩ : ∃ x, ps[k]? = some x := ⟨_, List.getElem?_eq_getElem (by rw [hP.out.1]; omega)⟩
            obtain ⟨j1, j2, j3, j4⟩ := hin.out q (List.mem_of_getElem? hq)
            obtain ⟨a', eq, y0, y1, y2, y3, y4, y5, y6, y7, y8⟩ := (hP.out.below (ho4.out.below fun _ => id)).part hq
            injection eq with eq
            subst eq
            have z0 := ho4.out.cell 0 rfl 0
            have z1 := ho4.out.cell 0 rfl 1
            have z2 := ho4.out.cell 0 rfl 2
            simp at z0 z1 z2
            have hyl := World.block_lt_of_cell? _ _ y0
            have hpl4 := ho4.out.lt 0 rfl
            have bk0 : (0 : Int) ≤ (k : Int) := by omega
            have bk1 : (k : Int) < (pn : Int) := by omega
            have ht2 := htw.out k q hq
            clear hq
            obtain ⟨u0, u1, u2, u3, u4, u5, u6, u7, u8⟩ := q
            simp only at y0 y1 y2 y3 y4 y5 y6 y7 y8 j1 j2 j3 j4 ht2
            have vb : IntKind.i64.wrap (u1 + u2) = u1 + u2 := IntWalk.i64_in _ (by omega)
            have hend := Hidd.mk (ho4.out.alloc (.cells #[.int .i64 u0, .int .i64 u1, .int .i64 u2, .int .i64 u3, .int .i64 u4, .int .u8 (u5 : Int), .int .u8 (u6 : Int), .int .u8 (u7 : Int), .int .u8 (u8 : Int)] 38)).tail
            by_cases hik : i = k
            · have e0 : ((i : Int) != (k : Int)) = false := by rw [bne_eq_false_iff_eq]; omega
              clear ht2
              go_wp2
              go_roundw
              case rel => exact ⟨k + 1, by go_num, by omega, hend⟩
              case measure => (simp [intOf]; try omega)
            · have e0 : ((i : Int) != (k : Int)) = true := by rw [bne_iff_ne]; omega
              have ht3 := ht2 hik
              clear ht2
              by_cases c0 : q0 = u0
              · have e1 : (q0 == u0) = true := by simpa using c0
                by_cases c1 : q1 < u1 + u2
                · have e2 := decide_eq_true c1
                  have e3 : decide (u1 < q1 + q2) = false := by rw [decide_eq_false_iff_not]; omega
                  clear c0 c1 ht3
                  go_wp2
                  go_roundw
                  case rel => exact ⟨k + 1, by go_num, by omega, hend⟩
                  case measure => (simp [intOf]; try omega)
                · have e2 := decide_eq_false c1
                  clear c0 c1 ht3
                  go_wp2
                  go_roundw
                  case rel => exact ⟨k + 1, by go_num, by omega, hend⟩
                  case measure => (simp [intOf]; try omega)
              · have e1 : (q0 == u0) = false := by simpa using c0
                clear c0 ht3
                go_wp2
                go_roundw
                case rel => exact ⟨k + 1, by go_num, by omega, hend⟩
                case measure => (simp [intOf]; try omega)
          · obtain rfl : k = pn := by omega
            have hend := Hidd.mk ho4.out.tail
            go_wp2
            go_roundw
            case rel => exact ⟨i + 1, by go_num, by omega, hend⟩
            case measure => (simp [intOf]; try omega)
      · obtain rfl : i = pn := by omega
        have ho6 := Hidd.mk (set_new ho.out)
        have hmm := @run_makeMap Try.prog
        go_wp2
        clear hmm
        generalize wr.heap.size = pm at ho6 ⊢
        generalize World.alloc wr _ = wm at ho6 ⊢
        clear ho hlt1
        clear x0 x1 x2 x3 x4 x5 x6 x7 x8 x9 xA
        go_loopw [83] (fun v83 wz => ∃ j : Nat, v83 = .int .i64 j ∧ j ≤ rn ∧ Hidd (Own w (fun _ => False) wz [setRes pm j (fun t => (rs.take j).any fun q => decide (q.dst = t)), blk p1 (.cells #[.int .i64 n, .int .i64 f, .int .i64 sl, .int .i64 gp, .int .i64 rh, .int .i64 d0, .int .i64 d1, .int .i64 mg, .slice PA i pc, .slice OA on oc, .slice RA rn rc] 26)])) (fun v83 _ => rn - (intOf v83).toNat)
        case atStart => exact ⟨0, rfl, Nat.zero_le _, ho6⟩
        case round =>
          clear ho6
          obtain ⟨j, rfl, hjl, ho⟩ := hrel
          obtain ⟨x0, x1, x2, x3, x4, x5, x6, x7, x8, x9, xA⟩ := cells11 ho.out 1 rfl
          have hlt1 := ho.out.lt 1 rfl
          by_cases hlj : j < rn
          · obtain ⟨r, hr⟩ : ∃ x, rs[j]? = some x := ⟨_, List.getElem?_eq_getElem (by rw [hR.out.1]; exact hlj)⟩
            have hbad := rou_ok hrou.out hr
            have hnx := fun (t : Int) => any_take (f := fun q : Rt => decide (q.dst = t)) hr
            obtain ⟨s, t, rfl, hs', ht'⟩ := rt_nat (hrt.out r (List.mem_of_getElem? hr))
            obtain ⟨qa, hqa⟩ : ∃ x, qs[s]? = some x := ⟨_, List.getElem?_eq_getElem (by rw [hQ.out.1]; exact hs')⟩
            obtain ⟨qb, hqb⟩ : ∃ x, qs[t]? = some x := ⟨_, List.getElem?_eq_getElem (by rw [hQ.out.1]; exact ht')⟩
            unfold rouBad at hbad
            simp only [qat_nat _ _ _ hqa, qat_nat _ _ _ hqb] at hbad
            rw [Bool.or_eq_false_iff] at hbad
            obtain ⟨hb1, hb2⟩ := hbad
            obtain ⟨a, rfl, y0, y1⟩ := (hR.out.below (ho.out.below fun _ => id)).route hr
            (try simp only at y0 y1)
            have hyl := World.block_lt_of_cell? wr _ y0
            have ho5 := Hidd.mk (ho.out.alloc (.cells #[.int .i64 (s : Int), .int .i64 (t : Int)] 41))
            have bj0 : (0 : Int) ≤ (j : Int) := by omega
            have bj1 : (j : Int) < (rn : Int) := by omega
            have bs0 : (0 : Int) ≤ (s : Int) := by omega
            have bs1 : (s : Int) < (on : Int) := by omega
            have bt0 : (0 : Int) ≤ (t : Int) := by omega
            have bt1 : (t : Int) < (on : Int) := by omega
            have hwf : (Lit.int .i64 (t : Int)).wf = true := by simp only [Lit.wf, Bool.and_eq_true, decide_eq_true_eq]; exact ⟨by show (-9223372036854775808 : Int) ≤ _; omega, by show _ ≤ (9223372036854775807 : Int); omega⟩
            replace hb1 := Hidd.mk hb1
            replace hb2 := Hidd.mk hb2
            replace hnx := Hidd.mk hnx
            replace hqa := Hidd.mk hqa
            replace hqb := Hidd.mk hqb
            clear hr
            go_wp2
            generalize wr.heap.size = p9 at ho5 ⊢
            generalize World.alloc wr _ = wb at ho5 ⊢
            clear x0 x1 x2 x3 x4 x5 x6 x7 x8 x9 xA
            clear y0 y1 hyl hlt1 ho
            obtain ⟨W0, hW0⟩ : ∃ zz, zz = World.drew wb := ⟨_, rfl⟩
            refine wp_region_flow [([0, 1, 2, 3, 4, 5, 7, 6, 8, 9, 10, 11, 12, 13, 14, 15, 17, 16, 18, 19, 20, 21, 22, 23, 24, 26, 31, 33, 25, 27, 32, 34, 28, 35, 29, 36, 30, 37, 38, 39], none)] (by kernel_rfl) (by kernel_rfl) ?_
            rw [show ({ wb with drawn := wb.drawn + 1 } : World) = W0 from hW0.symm]
            replace hW0 := Hidd.mk hW0
            simp only [opsF, List.map_cons, List.map_nil, List.getD_cons_succ, List.getD_cons_zero, Option.map]
            have ho7 := Hidd.mk (show Own w (fun _ => False) W0 _ by rw [hW0.out]; exact ho5.out.drew)
            clear hW0 ho5
            obtain ⟨x0, x1, x2, x3, x4, x5, x6, x7, x8, x9, xA⟩ := cells11 ho7.out 2 rfl
            have z0 := ho7.out.cell 0 rfl 0
            have z1 := ho7.out.cell 0 rfl 1
            simp at z0 z1
            obtain ⟨aq, rfl, u0, u1, u2, _, _, _⟩ := (hQ.out.below (ho7.out.below fun _ => id)).port hqa.out
            obtain ⟨aq', eq, v0, v1, v2, _, _, _⟩ := (hQ.out.below (ho7.out.below fun _ => id)).port hqb.out
            injection eq with eq
            subst eq
            obtain ⟨b0, b1', b2', b3', b4, b5⟩ := qa
            obtain ⟨c0, c1, c2, c3, c4, c5⟩ := qb
            simp only at u0 u1 u2 v0 v1 v2
            have hen := hb1.out
            simp only [ends, Bool.or_eq_false_iff, Bool.not_eq_false', decide_eq_false_iff_not, Decidable.not_not] at hen
            obtain ⟨⟨⟨rfl, rfl⟩, rfl⟩, _⟩ := hen
            have hlk := set_look (show SetAt W0 pm j _ from ho7.out.get 1 rfl) (t : Int) hwf
            have hb3 : ((rs.take j).any fun q => decide (q.dst = (t : Int))) = false := hb2.out
            simp only [hb3] at hlk
            refine FlW.heads (fun zz => zz = _) rfl ?_
            repeat (first | (refine StQ.skip (by rfl) ?_; simp only [Act.put, List.setIfInBounds_toArray, List.set_cons_zero, List.set_cons_succ]) | (refine StQ.go' (by rfl) (Exists.intro ?_ (And.intro (fun w' hS => ?_) ?_)); rotate_left; (focus (rw [hS]; go_simp; try with_reducible rfl)); simp only [Act.put, List.setIfInBounds_toArray, List.set_cons_zero, List.set_cons_succ]))
            refine StQ.nil ?_
            refine FlW.nil (Calm.normal ?_)
            obtain ⟨w8, hput, ho8⟩ := set_put (k := 1) ho7.out rfl (t : Int) hwf (by unfold maxLen; omega)
            simp only [List.set_cons_zero, List.set_cons_succ] at ho8
            have hf : (fun q : Int => ((rs.take j).any fun r => decide (r.dst = q)) || decide (q = (t : Int))) = fun q : Int => (rs.take (j + 1)).any fun r => decide (r.dst = q) := by
              funext q
              rw [hnx.out q]
              congr 1
              exact decide_eq_decide.2 eq_comm
            rw [hf] at ho8
            have hend := Hidd.mk ho8.tail
            clear ho8 hf hlk hb3
            go_wp2
            go_roundw
            case rel => exact ⟨j + 1, by go_num, by omega, hend⟩
            case measure => (simp [intOf]; try omega)
          · obtain rfl : j = rn := by omega
            have ho5 := Hidd.mk ho.out.tail
            go_wp2
            clear ho hlt1
            clear x0 x1 x2 x3 x4 x5 x6 x7 x8 x9 xA
            obtain ⟨W0, hW0⟩ : ∃ zz, zz = World.drew wr := ⟨_, rfl⟩
            refine wp_region_flow [([0, 2, 1, 3, 4, 5, 6, 7, 8, 10, 9, 11, 12, 13, 14, 15, 16, 18, 17], some (19, [true])), ([20, 21, 22], none)] (by kernel_rfl) (by kernel_rfl) ?_
            rw [show ({ wr with drawn := wr.drawn + 1 } : World) = W0 from hW0.symm]
            replace hW0 := Hidd.mk hW0
            simp only [opsF, List.map_cons, List.map_nil, List.getD_cons_succ, List.getD_cons_zero, Option.map]
            have ho7 := Hidd.mk (show Own w (fun _ => False) W0 _ by rw [hW0.out]; exact ho5.out.drew)
            clear hW0 ho5
            obtain ⟨x0, x1, x2, x3, x4, x5, x6, x7, x8, x9, xA⟩ := cells11 ho7.out 0 rfl
            have hpl1 := ho7.out.lt 0 rfl
            refine FlW.stage (fun zz => Kept (fun _ => False) W0 zz) (Kept.refl _ _) ?_
            repeat (first | (refine StQ.skip (by rfl) ?_; simp only [Act.put, List.setIfInBounds_toArray, List.set_cons_zero, List.set_cons_succ]) | (refine StQ.go' (by rfl) (Exists.intro ?_ (And.intro (fun w' hS => ?_) ?_)); rotate_left; (focus (have hc := Kept.cell0 hS; go_simp; try with_reducible rfl)); simp only [Act.put, List.setIfInBounds_toArray, List.set_cons_zero, List.set_cons_succ]))
            refine StQ.nil ?_
            refine FlO.go (by rfl) (fun K hK => ?_)
            go_simp
            (refine (prec_any n f sl gp rh d0 d1 mg PA i pc OA on oc RA j rc _ hs.out).mono ?_; rintro e w8 ⟨rfl, hb8⟩; rw [hDe.out, hPe.out]; have ho9 := Hidd.mk (ho7.out.ext hb8))
            refine hK.out _ _ (.inr ⟨Kept.below hb8, trivial⟩) ?_
            clear hK K
            clear hb8 ho7
            clear x0 x1 x2 x3 x4 x5 x6 x7 x8 x9 xA
            refine FlW.heads (fun zz => zz = _) rfl ?_
            repeat (first | (refine StQ.skip (by rfl) ?_; simp only [Act.put, List.setIfInBounds_toArray, List.set_cons_zero, List.set_cons_succ]) | (refine StQ.go' (by rfl) (Exists.intro ?_ (And.intro (fun w' hS => ?_) ?_)); rotate_left; (focus (rw [hS]; go_simp; try with_reducible rfl)); simp only [Act.put, List.setIfInBounds_toArray, List.set_cons_zero, List.set_cons_succ]))
            refine StQ.nil ?_
            refine FlW.nil (Calm.normal ?_)
            go_wp2
            go_ret
            exact ⟨rfl, ho9.out.below fun _ => id⟩
end Go.Proofs.Ytcamoldjljfbeaa
