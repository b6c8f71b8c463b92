/- SoundReach walked. -/
import Derived.Test.YtcamoldjljfbeaaSoP
import Derived.Test.YtcamoldjljfbeaaSoM
namespace Go.Proofs.Ytcamoldjljfbeaa
open Go.RowKit

set_option maxRecDepth 100000
set_option maxHeartbeats 8000000
theorem soundReach_walk (n f sl gp rh d0 d1 mg : Int) (PA : Option Addr) (pn pc : Nat) (pz : List (List Value)) (OA : Option Addr) (on oc : Nat) (oz : List (List Value)) (RA : Option Addr) (rn rc : Nat) (rz : List (List Value)) (z : Int) (w : World) (_h0 : (Lit.int .i64 n).wf = true) (_h1 : (Lit.int .i64 f).wf = true) (_h2 : (Lit.int .i64 sl).wf = true) (_h3 : (Lit.int .i64 gp).wf = true) (_h4 : (Lit.int .i64 rh).wf = true) (_h5 : (Lit.int .i64 d0).wf = true) (_h6 : (Lit.int .i64 d1).wf = true) (_h7 : (Lit.int .i64 mg).wf = true) (h8 : Rows' w 48 [.int .i64, .int .i64, .int .i64, .int .i64, .int .i64, .int .u8, .int .u8, .int .u8, .int .u8] PA pn pc pz) (h9 : Rows' w 40 [.int .i64, .int .u8, .bool, .int .i64, .int .i64, .int .i64] OA on oc oz) (hA : Rows' w 16 [.int .i64, .int .i64] RA rn rc rz) (_ : (Lit.int .i64 z).wf = true) :
    Calls Try.prog 7 #[.agg #[.int .i64 n, .int .i64 f, .int .i64 sl, .int .i64 gp, .int .i64 rh, .int .i64 d0, .int .i64 d1, .int .i64 mg, .slice PA pn pc, .slice OA on oc, .slice RA rn rc], .int .i64 z] w fun e w' => e = .returned (.bool true) ∧ Below w.heap.size w w' := by
  obtain ⟨ps, hP, oP⟩ := parts_of h8
  obtain ⟨qs, hQ, oQ⟩ := ports_of h9
  obtain ⟨rs, hR, _⟩ := routes_of hA
  have hpw := h8.wt
  have hqw := h9.wt
  have hrw := hA.wt
  unfold reachBytes at hpw hqw hrw
  clear _h0 _h1 _h2 _h3 _h4 _h5 _h6 _h7 h8 h9 hA
  have ho := Hidd.mk ((Own.nil w (fun _ => False)).alloc (.cells #[.int .i64 n, .int .i64 f, .int .i64 sl, .int .i64 gp, .int .i64 rh, .int .i64 d0, .int .i64 d1, .int .i64 mg, .slice PA pn pc, .slice OA on oc, .slice RA rn rc] 26))
  replace hP := Hidd.mk hP
  replace hQ := Hidd.mk hQ
  replace hR := Hidd.mk hR
  replace oP := Hidd.mk oP
  replace oQ := Hidd.mk oQ
  rcases hw : workB n f sl gp rh d0 d1 mg ps qs rs with _ | _
  · replace hw := Hidd.mk hw
    go_enter Try.func7, Try.ntmps7
    go_wp2_with (first
      | (go_at_call 18; refine (awake6_any _).mono ?_; rintro e w1 ⟨rfl, hb⟩; have ho1 := Hidd.mk (ho.out.ext hb); clear hb ho; obtain ⟨x0, x1, x2, x3, x4, x5, x6, x7, x8, x9, xA⟩ := cells11 ho1.out 0 rfl)
      | (go_at_call 25; refine (works_any n f sl gp rh d0 d1 mg PA pn pc OA on oc RA rn rc ps qs rs _ (hP.out.below (ho1.out.below fun _ => id)) (hQ.out.below (ho1.out.below fun _ => id)) (hR.out.below (ho1.out.below fun _ => id)) oP.out oQ.out _ hw.out).mono ?_; rintro e w2 ⟨rfl, hb⟩; have ho2 := Hidd.mk (ho1.out.ext hb); clear hb ho1))
    go_ret
    exact ⟨rfl, ho2.out.below fun _ => id⟩
  · have hS := Hidd.mk (Snd.of (work_tab hw))
    have bP := hS.out.tab.np
    have bQ := hS.out.tab.nq
    have bR := hS.out.tab.nr
    rw [hP.out.1] at bP
    rw [hQ.out.1] at bQ
    rw [hR.out.1] at bR
    have hi : Hidd (∀ r ∈ rs, rtB r (on : Int) = true) := ⟨by rw [← hQ.out.1]; exact hS.out.tab.r⟩
    have hq : Hidd (∀ q ∈ qs, qtB q (pn : Int) = true) := ⟨by rw [← hP.out.1]; exact hS.out.tab.q⟩
    replace hw := Hidd.mk hw
    clear hS hpw hqw hrw
    by_cases hz0 : z < 0
    · have dz0 := decide_eq_true hz0
      go_enter Try.func7, Try.ntmps7
      go_wp2_with (first
        | (go_at_call 18; refine (awake6_any _).mono ?_; rintro e w1 ⟨rfl, hb⟩; have ho1 := Hidd.mk (ho.out.ext hb); clear hb ho; obtain ⟨x0, x1, x2, x3, x4, x5, x6, x7, x8, x9, xA⟩ := cells11 ho1.out 0 rfl)
        | (go_at_call 25; refine (works_any n f sl gp rh d0 d1 mg PA pn pc OA on oc RA rn rc ps qs rs _ (hP.out.below (ho1.out.below fun _ => id)) (hQ.out.below (ho1.out.below fun _ => id)) (hR.out.below (ho1.out.below fun _ => id)) oP.out oQ.out _ hw.out).mono ?_; rintro e w2 ⟨rfl, hb⟩; have ho2 := Hidd.mk (ho1.out.ext hb); clear hb ho1; clear x0 x1 x2 x3 x4 x5 x6 x7 x8 x9 xA; obtain ⟨x0, x1, x2, x3, x4, x5, x6, x7, x8, x9, xA⟩ := cells11 ho2.out 0 rfl))
      go_ret
      exact ⟨rfl, ho2.out.below fun _ => id⟩
    have dz0 := decide_eq_false hz0
    by_cases hz1 : (pn : Int) ≤ z
    · have dz1 := decide_eq_true hz1
      go_enter Try.func7, Try.ntmps7
      go_wp2_with (first
        | (go_at_call 18; refine (awake6_any _).mono ?_; rintro e w1 ⟨rfl, hb⟩; have ho1 := Hidd.mk (ho.out.ext hb); clear hb ho; obtain ⟨x0, x1, x2, x3, x4, x5, x6, x7, x8, x9, xA⟩ := cells11 ho1.out 0 rfl)
        | (go_at_call 25; refine (works_any n f sl gp rh d0 d1 mg PA pn pc OA on oc RA rn rc ps qs rs _ (hP.out.below (ho1.out.below fun _ => id)) (hQ.out.below (ho1.out.below fun _ => id)) (hR.out.below (ho1.out.below fun _ => id)) oP.out oQ.out _ hw.out).mono ?_; rintro e w2 ⟨rfl, hb⟩; have ho2 := Hidd.mk (ho1.out.ext hb); clear hb ho1; clear x0 x1 x2 x3 x4 x5 x6 x7 x8 x9 xA; obtain ⟨x0, x1, x2, x3, x4, x5, x6, x7, x8, x9, xA⟩ := cells11 ho2.out 0 rfl))
      go_ret
      exact ⟨rfl, ho2.out.below fun _ => id⟩
    have dz1 := decide_eq_false hz1
    obtain ⟨p, rfl⟩ : ∃ p : Nat, z = (p : Int) := ⟨z.toNat, by omega⟩
    have hp : p < pn := by omega
    obtain ⟨es, hes⟩ : ∃ es, edgesL qs rs = es := ⟨_, rfl⟩
    replace hes := Hidd.mk hes
    have bp0 : (0 : Int) ≤ (p : Int) := by omega
    have bp1 : (p : Int) < (pn : Int) := by omega
    go_enter Try.func7, Try.ntmps7
    go_wp2_with (first
      | (go_at_call 18; refine (awake6_any _).mono ?_; rintro e w1 ⟨rfl, hb⟩; have ho1 := Hidd.mk (ho.out.ext hb); clear hb ho; obtain ⟨x0, x1, x2, x3, x4, x5, x6, x7, x8, x9, xA⟩ := cells11 ho1.out 0 rfl)
      | (go_at_call 25; refine (works_any n f sl gp rh d0 d1 mg PA pn pc OA on oc RA rn rc ps qs rs _ (hP.out.below (ho1.out.below fun _ => id)) (hQ.out.below (ho1.out.below fun _ => id)) (hR.out.below (ho1.out.below fun _ => id)) oP.out oQ.out _ hw.out).mono ?_; rintro e w2 ⟨rfl, hb⟩; have ho2 := Hidd.mk (ho1.out.ext hb); clear hb ho1; clear x0 x1 x2 x3 x4 x5 x6 x7 x8 x9 xA; obtain ⟨x0, x1, x2, x3, x4, x5, x6, x7, x8, x9, xA⟩ := cells11 ho2.out 0 rfl)
      | (go_at_call 26; have hqq := ho2.out; clear hqq; refine (reach_any n f sl gp rh d0 d1 mg PA pn pc OA on oc RA rn rc qs rs p _ (hQ.out.below (ho2.out.below fun _ => id)) (hR.out.below (ho2.out.below fun _ => id)) hi.out hq.out hp bP bQ bR).mono ?_; rintro e w3 ⟨A, c, rfl, hn⟩; rw [hes.out] at hn; obtain ⟨g, rfl, _⟩ := head_any (show w3.ownsRow 0 4 1 (.slice A pn c) pn _ from hn.get 0 rfl) (by omega); have ho3 := ho2.out.madeL hn; simp only [List.cons_append, List.nil_append] at ho3; replace ho3 := Hidd.mk ho3; clear hn ho2 x0 x1 x2 x3 x4 x5 x6 x7 x8 x9 xA; obtain ⟨x0, x1, x2, x3, x4, x5, x6, x7, x8, x9, xA⟩ := cells11 ho3.out 1 rfl; have hy := cells_at (row_cells ho3.out 0 rfl) (bools_get (reach_self es hp))))
    generalize w.heap.size = p1 at ho3 ⊢
    clear hy dz0 dz1 bp0 bp1 hz0 hz1 x0 x1 x2 x3 x4 x5 x6 x7 x8 x9 xA
    go_loopw [43] (fun v43 wr => ∃ i : Nat, v43 = .int .i64 i ∧ i ≤ pn ∧ Hidd (Own w (fun _ => False) wr [row 4 1 (.slice (some ⟨g, 0, none⟩) pn c) pn (bools (reachL es pn p)), blk p1 (.cells #[.int .i64 n, .int .i64 f, .int .i64 sl, .int .i64 gp, .int .i64 rh, .int .i64 d0, .int .i64 d1, .int .i64 mg, .slice PA pn pc, .slice OA on oc, .slice RA rn rc] 26)])) (fun v43 _ => pn - (intOf v43).toNat)
    case atStart => exact ⟨0, rfl, Nat.zero_le _, ho3⟩
    case round =>
      clear ho3
      obtain ⟨i, rfl, hil, ho⟩ := hrel
      obtain ⟨x0, x1, x2, x3, x4, x5, x6, x7, x8, x9, xA⟩ := cells11 ho.out 1 rfl
      by_cases hlt : i < pn
      · obtain ⟨b, hb⟩ := get_some (reach_len es pn p) hlt
        have y := cells_at (row_cells ho.out 0 rfl) (bools_get hb)
        have bi0 : (0 : Int) ≤ (i : Int) := by omega
        have bi1 : (i : Int) < (pn : Int) := by omega
        rcases b with _ | _
        · clear hb
          go_wp2
          go_roundw
          case rel => exact ⟨i + 1, by go_num, by omega, ho⟩
          case measure => (simp [intOf]; try omega)
        · replace hb := Hidd.mk hb
          go_wp2_with (go_at_call 26; have hqq := ho.out; clear hqq; refine (reach_any n f sl gp rh d0 d1 mg PA pn pc OA on oc RA rn rc qs rs i _ (hQ.out.below (ho.out.below fun _ => id)) (hR.out.below (ho.out.below fun _ => id)) hi.out hq.out hlt bP bQ bR).mono ?_; rintro e w4 ⟨B, cb, rfl, hn⟩; rw [hes.out] at hn; obtain ⟨gb, rfl, _⟩ := head_any (show w4.ownsRow 0 4 1 (.slice B pn cb) pn _ from hn.get 0 rfl) (by omega); have ho4 := Hidd.mk (ho.out.madeL hn); clear hn ho y x0 x1 x2 x3 x4 x5 x6 x7 x8 x9 xA)
          go_loopw [55] (fun v55 wz => ∃ k : Nat, v55 = .int .i64 k ∧ k ≤ pn ∧ Hidd (Own w (fun _ => False) wz ([row 4 1 (.slice (some ⟨gb, 0, none⟩) pn cb) pn (bools (reachL es pn i))] ++ [row 4 1 (.slice (some ⟨g, 0, none⟩) pn c) pn (bools (reachL es pn p)), blk p1 (.cells #[.int .i64 n, .int .i64 f, .int .i64 sl, .int .i64 gp, .int .i64 rh, .int .i64 d0, .int .i64 d1, .int .i64 mg, .slice PA pn pc, .slice OA on oc, .slice RA rn rc] 26)]))) (fun v55 _ => pn - (intOf v55).toNat)
          case atStart => exact ⟨0, rfl, Nat.zero_le _, ho4⟩
          case round =>
            clear ho4
            obtain ⟨k, rfl, hkl, ho5⟩ := hrel
            by_cases hlk : k < pn
            · obtain ⟨b2, hb2⟩ := get_some (reach_len es pn i) hlk
              obtain ⟨b3, hb3⟩ := get_some (reach_len es pn p) hlk
              have y2 := cells_at (row_cells ho5.out 0 rfl) (bools_get hb2)
              have y3 := cells_at (row_cells ho5.out 1 rfl) (bools_get hb3)
              have bk0 : (0 : Int) ≤ (k : Int) := by omega
              have bk1 : (k : Int) < (pn : Int) := by omega
              rcases b2 with _ | _
              · clear hb2 hb3
                go_wp2
                go_roundw
                case rel => exact ⟨k + 1, by go_num, by omega, ho5⟩
                case measure => (simp [intOf]; try omega)
              · have h3 := reach_tr hp hb.out hb2
                rw [hb3] at h3
                injection h3 with h3
                subst h3
                clear hb2 hb3
                go_wp2
                go_roundw
                case rel => exact ⟨k + 1, by go_num, by omega, ho5⟩
                case measure => (simp [intOf]; try omega)
            · obtain rfl : k = pn := by omega
              have hend := Hidd.mk ho5.out.tail
              go_wp2
              go_roundw
              case rel => exact ⟨i + 1, by go_num, by omega, hend⟩
              case measure => (simp [intOf]; try omega)
      · obtain rfl : i = pn := by omega
        go_wp2
        go_ret
        exact ⟨rfl, ho.out.below fun _ => id⟩
end Go.Proofs.Ytcamoldjljfbeaa
