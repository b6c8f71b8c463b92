/- The reference's Check of ranges. -/
import Derived.Test.YtcamoldjljfbeaaSoC
namespace Go.Proofs.Ytcamoldjljfbeaa
open Go.RowKit

def textE : Option (Int × Int) → ByteArray
  | none => ⟨#[]⟩
  | some (c, a) => atB c a
theorem errB_erL (er : Option (Int × Int)) : errB (erL er) none = textE er := by
  rcases er with _ | ⟨c, a⟩
  · rfl
  · show atB c a ++ ⟨#[]⟩ = atB c a
    exact ByteArray.append_empty ..
set_option maxRecDepth 100000
set_option maxHeartbeats 16000000
theorem up_any (n lo hi : Int) (w : World) : Calls Try.prog 68 #[.int .i64 n, .int .i64 lo, .int .i64 hi] w fun e w' => e = .returned (.bool (inB n lo hi)) ∧ w = w' := by
  by_cases h1 : lo ≤ n
  · have d1 : decide (lo ≤ n) = true := by simpa using h1
    by_cases h2 : n ≤ hi
    · have d2 : decide (n ≤ hi) = true := by simpa using h2
      have e : inB n lo hi = true := by unfold inB; simp [h1, h2]
      rw [e]
      clear e h1 h2
      go_enter Try.func68, Try.ntmps68
      go_wp2
      go_ret
      exact ⟨rfl, rfl⟩
    · have d2 : decide (n ≤ hi) = false := by simpa using h2
      have e : inB n lo hi = false := by unfold inB; simp; omega
      rw [e]
      clear e h1 h2
      go_enter Try.func68, Try.ntmps68
      go_wp2
      go_ret
      exact ⟨rfl, rfl⟩
  · have d1 : decide (lo ≤ n) = false := by simpa using h1
    have e : inB n lo hi = false := by unfold inB; simp; omega
    rw [e]
    clear e h1
    go_enter Try.func68, Try.ntmps68
    go_wp2
    go_ret
    exact ⟨rfl, rfl⟩
theorem refTab_any (n f sl gp rh d0 d1 mg : Int) (PA : Option Addr) (pn pc : Nat) (OA : Option Addr) (on oc : Nat) (RA : Option Addr) (rn rc : Nat) (ps : List Pt) (qs : List Qt) (rs : List Rt) (w : World) (hP : At Pt.cells w PA pn ps) (hQ : At Qt.cells w OA on qs) (hR : At Rt.cells w RA rn rs)
    (oP : ∀ p ∈ ps, p.Ok) (oQ : ∀ p ∈ qs, p.Ok) (er : Option (Int × Int)) (her : tabE n f sl gp rh d0 d1 mg ps qs rs = er) :
    Calls Try.prog 32 #[.agg #[.int .i64 n, .int .i64 f, .int .i64 sl, .int .i64 gp, .int .i64 rh, .int .i64 d0, .int .i64 d1, .int .i64 mg, .slice PA pn pc, .slice OA on oc, .slice RA rn rc]] w fun e w' => e = .returned (.string (textE er)) ∧ Below w.heap.size w w' := by
  have ho := Hidd.mk ((Own.nil w (fun _ => False)).alloc (.cells #[.int .i64 n, .int .i64 f, .int .i64 sl, .int .i64 gp, .int .i64 rh, .int .i64 d0, .int .i64 d1, .int .i64 mg, .slice PA pn pc, .slice OA on oc, .slice RA rn rc] 26))
  have hpl := hP.1
  have hql := hQ.1
  have hrl := hR.1
  replace hP := Hidd.mk hP
  replace hQ := Hidd.mk hQ
  replace hR := Hidd.mk hR
  replace oP := Hidd.mk oP
  replace oQ := Hidd.mk oQ
  unfold tabE at her
  rw [hpl, hql, hrl] at her
  rcases k0 : inB n 1 7 with _ | _
  rotate_left
  rcases k1 : inB f 0 2 with _ | _
  rotate_left
  rcases k2 : inB sl 1 16777216 with _ | _
  rotate_left
  rcases k3 : inB gp 0 16777216 with _ | _
  rotate_left
  rcases k4 : inB rh 0 200 with _ | _
  rotate_left
  rcases k5 : inB d1 0 1048576 with _ | _
  rotate_left
  rcases k6 : inB d0 0 d1 with _ | _
  rotate_left
  rcases k7 : inB mg 0 16777216 with _ | _
  rotate_left
  · have hs : scalB n f sl gp rh d0 d1 mg = true := by simp [scalB, k0, k1, k2, k3, k4, k5, k6, k7]
    rw [hs, if_neg (by decide)] at her
    have hn : 1 ≤ n ∧ n ≤ 7 := by unfold inB at k0; simpa using k0
    by_cases hm : 12 < pn ∨ 24 < on ∨ 24 < rn
    · rw [if_pos hm] at her
      subst her
      have hcase : decide (12 < (pn : Int)) = true ∨ (decide (12 < (pn : Int)) = false ∧ decide (24 < (on : Int)) = true) ∨ (decide (12 < (pn : Int)) = false ∧ decide (24 < (on : Int)) = false ∧ decide (24 < (rn : Int)) = true) := by
        simp only [decide_eq_true_eq, decide_eq_false_iff_not]
        omega
      clear hs hn hm hpl hql hrl
      rcases hcase with d1' | ⟨d1', d2'⟩ | ⟨d1', d2', d3'⟩
      all_goals go_enter Try.func32, Try.ntmps32
      all_goals go_wp2_with (first
        | (go_at_call 68; refine (up_any _ _ _ _).mono ?_; rintro e w' ⟨rfl, rfl⟩; first | rw [k0] | rw [k1] | rw [k2] | rw [k3] | rw [k4] | rw [k5] | rw [k6] | rw [k7])
        | (go_at_call 51; refine (at_any 3 (-1) _ (by decide) (by decide) (by decide) (by decide)).mono ?_; rintro e w1 ⟨rfl, hb⟩; replace hb := Hidd.mk ((ho.out.ext hb).below fun _ => id)))
      all_goals go_ret
      all_goals exact ⟨rfl, hb.out⟩
    · rw [if_neg hm] at her
      have e1' : decide (12 < (pn : Int)) = false := by rw [decide_eq_false_iff_not]; omega
      have e2' : decide (24 < (on : Int)) = false := by rw [decide_eq_false_iff_not]; omega
      have e3' : decide (24 < (rn : Int)) = false := by rw [decide_eq_false_iff_not]; omega
      have b1 : pn ≤ 12 := by omega
      have b2 : on ≤ 24 := by omega
      have b3 : rn ≤ 24 := by omega
      obtain ⟨hn0, hn1⟩ := hn
      replace hpl := Hidd.mk hpl
      replace hql := Hidd.mk hql
      replace hrl := Hidd.mk hrl
      replace her := Hidd.mk her
      clear hs hm
      go_enter Try.func32, Try.ntmps32
      go_wp2_with (go_at_call 68; refine (up_any _ _ _ _).mono ?_; rintro e w' ⟨rfl, rfl⟩; first | rw [k0] | rw [k1] | rw [k2] | rw [k3] | rw [k4] | rw [k5] | rw [k6] | rw [k7])
      clear k0 k1 k2 k3 k4 k5 k6 k7 e1' e2' e3'
      generalize w.heap.size = p1 at ho ⊢
      generalize World.alloc w _ = wa at ho ⊢
      go_loopw [3] (fun v3 wr => ∃ i : Nat, v3 = .int .i64 i ∧ i ≤ pn ∧ Hidd (firstE (ptB · n) 2 (ps.drop i) i = firstE (ptB · n) 2 ps 0) ∧ Hidd (Own w (fun _ => False) wr [blk p1 (.cells #[.int .i64 n, .int .i64 f, .int .i64 sl, .int .i64 gp, .int .i64 rh, .int .i64 d0, .int .i64 d1, .int .i64 mg, .slice PA pn pc, .slice OA on oc, .slice RA rn rc] 26)])) (fun v3 _ => pn - (intOf v3).toNat)
      case atStart => exact ⟨0, rfl, Nat.zero_le _, ⟨rfl⟩, ho⟩
      case round =>
        clear ho
        obtain ⟨i, rfl, hi, hre, ho⟩ := hrel
        obtain ⟨x0, x1, x2, x3, x4, x5, x6, x7, x8, x9, xA⟩ := cells11 ho.out 0 rfl
        have hlt1 := ho.out.lt 0 rfl
        by_cases hlt : i < pn
        · obtain ⟨p, hp⟩ : ∃ x, ps[i]? = some x := ⟨_, List.getElem?_eq_getElem (by rw [hpl.out]; exact hlt)⟩
          obtain ⟨_, _, _, _, _, hr0, hr1, hr2, hr3⟩ := oP.out p (List.mem_of_getElem? hp)
          obtain ⟨a, rfl, y0, y1, y2, y3, y4, y5, y6, y7, y8⟩ := (hP.out.below (ho.out.below fun _ => id)).part hp
          have hdr := hre.out
          rw [drop_at hp, firstE] at hdr
          have hyl := World.block_lt_of_cell? wr _ y0
          have bi0 : (0 : Int) ≤ (i : Int) := by omega
          have bi1 : (i : Int) < (pn : Int) := by omega
          clear hp hre
          obtain ⟨q0, q1, q2, q3, q4, r0, r1, r2, r3⟩ := p
          simp only at y0 y1 y2 y3 y4 y5 y6 y7 y8 hr0 hr1 hr2 hr3
          have e3 : ∀ r : Nat, decide ((r : Int) ≤ 3) = decide (r ≤ 3) := fun r => by
            by_cases h : r ≤ 3
            · simp [h]; omega
            · simp [h]; omega
          have E0 := e3 r0
          have E1 := e3 r1
          have E2 := e3 r2
          have E3 := e3 r3
          clear e3
          rcases c0 : inB q0 0 (n - 1) with _ | _
          · have hpt : ptB ⟨q0, q1, q2, q3, q4, r0, r1, r2, r3⟩ n = false := by simp only [ptB, c0, Bool.false_and, Bool.and_false]
            rw [hpt, if_neg (by decide)] at hdr
            have hres : Hidd (er = some (2, (i : Int))) := ⟨by rw [← her.out, ← hdr]⟩
            clear hdr hpt
            go_wp2_with (go_at_call 68; refine (up_any _ _ _ _).mono ?_; rintro e w' ⟨rfl, rfl⟩; first | rw [c0])
            refine wp_loop_rounds 5 ?_
            rw [rounds_succ]
            go_wp2
            rw [rounds_succ]
            go_wp2
            rw [rounds_succ]
            go_wp2
            rw [rounds_succ]
            go_wp2
            rw [rounds_succ]
            go_wp2_with (go_at_call 51; refine (at_any 2 (i : Int) _ (by decide) (by decide) (by omega) (by omega)).mono ?_; rintro e w1 ⟨rfl, hb⟩; replace hb := Hidd.mk (((ho.out.alloc _).ext hb).below fun _ => id))
            go_ret
            exact ⟨ret_str (by rw [hres.out]; rfl), hb.out⟩
          rcases c1 : inB q1 0 268435456 with _ | _
          · have hpt : ptB ⟨q0, q1, q2, q3, q4, r0, r1, r2, r3⟩ n = false := by simp only [ptB, c0, c1, Bool.false_and, Bool.and_false]
            rw [hpt, if_neg (by decide)] at hdr
            have hres : Hidd (er = some (2, (i : Int))) := ⟨by rw [← her.out, ← hdr]⟩
            clear hdr hpt
            go_wp2_with (go_at_call 68; refine (up_any _ _ _ _).mono ?_; rintro e w' ⟨rfl, rfl⟩; first | rw [c0] | rw [c1])
            refine wp_loop_rounds 5 ?_
            rw [rounds_succ]
            go_wp2
            rw [rounds_succ]
            go_wp2
            rw [rounds_succ]
            go_wp2
            rw [rounds_succ]
            go_wp2
            rw [rounds_succ]
            go_wp2_with (go_at_call 51; refine (at_any 2 (i : Int) _ (by decide) (by decide) (by omega) (by omega)).mono ?_; rintro e w1 ⟨rfl, hb⟩; replace hb := Hidd.mk (((ho.out.alloc _).ext hb).below fun _ => id))
            go_ret
            exact ⟨ret_str (by rw [hres.out]; rfl), hb.out⟩
          rcases c2 : inB q2 1 268435456 with _ | _
          · have hpt : ptB ⟨q0, q1, q2, q3, q4, r0, r1, r2, r3⟩ n = false := by simp only [ptB, c0, c1, c2, Bool.false_and, Bool.and_false]
            rw [hpt, if_neg (by decide)] at hdr
            have hres : Hidd (er = some (2, (i : Int))) := ⟨by rw [← her.out, ← hdr]⟩
            clear hdr hpt
            go_wp2_with (go_at_call 68; refine (up_any _ _ _ _).mono ?_; rintro e w' ⟨rfl, rfl⟩; first | rw [c0] | rw [c1] | rw [c2])
            refine wp_loop_rounds 5 ?_
            rw [rounds_succ]
            go_wp2
            rw [rounds_succ]
            go_wp2
            rw [rounds_succ]
            go_wp2
            rw [rounds_succ]
            go_wp2
            rw [rounds_succ]
            go_wp2_with (go_at_call 51; refine (at_any 2 (i : Int) _ (by decide) (by decide) (by omega) (by omega)).mono ?_; rintro e w1 ⟨rfl, hb⟩; replace hb := Hidd.mk (((ho.out.alloc _).ext hb).below fun _ => id))
            go_ret
            exact ⟨ret_str (by rw [hres.out]; rfl), hb.out⟩
          rcases c3 : inB q3 0 64 with _ | _
          · have hpt : ptB ⟨q0, q1, q2, q3, q4, r0, r1, r2, r3⟩ n = false := by simp only [ptB, c0, c1, c2, c3, Bool.false_and, Bool.and_false]
            rw [hpt, if_neg (by decide)] at hdr
            have hres : Hidd (er = some (2, (i : Int))) := ⟨by rw [← her.out, ← hdr]⟩
            clear hdr hpt
            go_wp2_with (go_at_call 68; refine (up_any _ _ _ _).mono ?_; rintro e w' ⟨rfl, rfl⟩; first | rw [c0] | rw [c1] | rw [c2] | rw [c3])
            refine wp_loop_rounds 5 ?_
            rw [rounds_succ]
            go_wp2
            rw [rounds_succ]
            go_wp2
            rw [rounds_succ]
            go_wp2
            rw [rounds_succ]
            go_wp2
            rw [rounds_succ]
            go_wp2_with (go_at_call 51; refine (at_any 2 (i : Int) _ (by decide) (by decide) (by omega) (by omega)).mono ?_; rintro e w1 ⟨rfl, hb⟩; replace hb := Hidd.mk (((ho.out.alloc _).ext hb).below fun _ => id))
            go_ret
            exact ⟨ret_str (by rw [hres.out]; rfl), hb.out⟩
          rcases c4 : inB q4 0 16 with _ | _
          · have hpt : ptB ⟨q0, q1, q2, q3, q4, r0, r1, r2, r3⟩ n = false := by simp only [ptB, c0, c1, c2, c3, c4, Bool.and_false]
            rw [hpt, if_neg (by decide)] at hdr
            have hres : Hidd (er = some (2, (i : Int))) := ⟨by rw [← her.out, ← hdr]⟩
            clear hdr hpt
            go_wp2_with (go_at_call 68; refine (up_any _ _ _ _).mono ?_; rintro e w' ⟨rfl, rfl⟩; first | rw [c0] | rw [c1] | rw [c2] | rw [c3] | rw [c4])
            refine wp_loop_rounds 5 ?_
            rw [rounds_succ]
            go_wp2
            rw [rounds_succ]
            go_wp2
            rw [rounds_succ]
            go_wp2
            rw [rounds_succ]
            go_wp2
            rw [rounds_succ]
            go_wp2_with (go_at_call 51; refine (at_any 2 (i : Int) _ (by decide) (by decide) (by omega) (by omega)).mono ?_; rintro e w1 ⟨rfl, hb⟩; replace hb := Hidd.mk (((ho.out.alloc _).ext hb).below fun _ => id))
            go_ret
            exact ⟨ret_str (by rw [hres.out]; rfl), hb.out⟩
          rcases h0 : decide (r0 ≤ 3) with _ | _
          · rw [h0] at E0
            have hpt : ptB ⟨q0, q1, q2, q3, q4, r0, r1, r2, r3⟩ n = false := by simp only [ptB, c0, c1, c2, c3, c4, h0, Bool.false_and]
            rw [hpt, if_neg (by decide)] at hdr
            have hres : Hidd (er = some (2, (i : Int))) := ⟨by rw [← her.out, ← hdr]⟩
            clear hdr hpt
            clear h0
            go_wp2_with (go_at_call 68; refine (up_any _ _ _ _).mono ?_; rintro e w' ⟨rfl, rfl⟩; first | rw [c0] | rw [c1] | rw [c2] | rw [c3] | rw [c4])
            refine wp_loop_rounds 5 ?_
            rw [rounds_succ]
            go_wp2
            rw [rounds_succ]
            go_wp2
            rw [rounds_succ]
            go_wp2
            rw [rounds_succ]
            go_wp2
            rw [rounds_succ]
            go_wp2_with (go_at_call 51; refine (at_any 2 (i : Int) _ (by decide) (by decide) (by omega) (by omega)).mono ?_; rintro e w1 ⟨rfl, hb⟩; replace hb := Hidd.mk (((ho.out.alloc _).ext hb).below fun _ => id))
            go_ret
            exact ⟨ret_str (by rw [hres.out]; rfl), hb.out⟩
          rcases h1 : decide (r1 ≤ 3) with _ | _
          · rw [h0] at E0
            rw [h1] at E1
            have hpt : ptB ⟨q0, q1, q2, q3, q4, r0, r1, r2, r3⟩ n = false := by simp only [ptB, c0, c1, c2, c3, c4, h0, h1, Bool.false_and, Bool.and_false]
            rw [hpt, if_neg (by decide)] at hdr
            have hres : Hidd (er = some (2, (i : Int))) := ⟨by rw [← her.out, ← hdr]⟩
            clear hdr hpt
            clear h0 h1
            go_wp2_with (go_at_call 68; refine (up_any _ _ _ _).mono ?_; rintro e w' ⟨rfl, rfl⟩; first | rw [c0] | rw [c1] | rw [c2] | rw [c3] | rw [c4])
            refine wp_loop_rounds 5 ?_
            rw [rounds_succ]
            go_wp2
            rw [rounds_succ]
            go_wp2
            rw [rounds_succ]
            go_wp2
            rw [rounds_succ]
            go_wp2
            rw [rounds_succ]
            go_wp2_with (go_at_call 51; refine (at_any 2 (i : Int) _ (by decide) (by decide) (by omega) (by omega)).mono ?_; rintro e w1 ⟨rfl, hb⟩; replace hb := Hidd.mk (((ho.out.alloc _).ext hb).below fun _ => id))
            go_ret
            exact ⟨ret_str (by rw [hres.out]; rfl), hb.out⟩
          rcases h2 : decide (r2 ≤ 3) with _ | _
          · rw [h0] at E0
            rw [h1] at E1
            rw [h2] at E2
            have hpt : ptB ⟨q0, q1, q2, q3, q4, r0, r1, r2, r3⟩ n = false := by simp only [ptB, c0, c1, c2, c3, c4, h0, h1, h2, Bool.false_and, Bool.and_false]
            rw [hpt, if_neg (by decide)] at hdr
            have hres : Hidd (er = some (2, (i : Int))) := ⟨by rw [← her.out, ← hdr]⟩
            clear hdr hpt
            clear h0 h1 h2
            go_wp2_with (go_at_call 68; refine (up_any _ _ _ _).mono ?_; rintro e w' ⟨rfl, rfl⟩; first | rw [c0] | rw [c1] | rw [c2] | rw [c3] | rw [c4])
            refine wp_loop_rounds 5 ?_
            rw [rounds_succ]
            go_wp2
            rw [rounds_succ]
            go_wp2
            rw [rounds_succ]
            go_wp2
            rw [rounds_succ]
            go_wp2
            rw [rounds_succ]
            go_wp2_with (go_at_call 51; refine (at_any 2 (i : Int) _ (by decide) (by decide) (by omega) (by omega)).mono ?_; rintro e w1 ⟨rfl, hb⟩; replace hb := Hidd.mk (((ho.out.alloc _).ext hb).below fun _ => id))
            go_ret
            exact ⟨ret_str (by rw [hres.out]; rfl), hb.out⟩
          rcases h3 : decide (r3 ≤ 3) with _ | _
          · rw [h0] at E0
            rw [h1] at E1
            rw [h2] at E2
            rw [h3] at E3
            have hpt : ptB ⟨q0, q1, q2, q3, q4, r0, r1, r2, r3⟩ n = false := by simp only [ptB, c0, c1, c2, c3, c4, h0, h1, h2, h3, Bool.false_and, Bool.and_false]
            rw [hpt, if_neg (by decide)] at hdr
            have hres : Hidd (er = some (2, (i : Int))) := ⟨by rw [← her.out, ← hdr]⟩
            clear hdr hpt
            clear h0 h1 h2 h3
            go_wp2_with (go_at_call 68; refine (up_any _ _ _ _).mono ?_; rintro e w' ⟨rfl, rfl⟩; first | rw [c0] | rw [c1] | rw [c2] | rw [c3] | rw [c4])
            refine wp_loop_rounds 5 ?_
            rw [rounds_succ]
            go_wp2
            rw [rounds_succ]
            go_wp2
            rw [rounds_succ]
            go_wp2
            rw [rounds_succ]
            go_wp2
            rw [rounds_succ]
            go_wp2_with (go_at_call 51; refine (at_any 2 (i : Int) _ (by decide) (by decide) (by omega) (by omega)).mono ?_; rintro e w1 ⟨rfl, hb⟩; replace hb := Hidd.mk (((ho.out.alloc _).ext hb).below fun _ => id))
            go_ret
            exact ⟨ret_str (by rw [hres.out]; rfl), hb.out⟩
          · rw [h0] at E0
            rw [h1] at E1
            rw [h2] at E2
            rw [h3] at E3
            have hpt : ptB ⟨q0, q1, q2, q3, q4, r0, r1, r2, r3⟩ n = true := by simp only [ptB, c0, c1, c2, c3, c4, h0, h1, h2, h3, Bool.and_self]
            rw [hpt, if_pos rfl] at hdr
            have hdr2 := Hidd.mk hdr
            clear hdr hpt h0 h1 h2 h3
            go_wp2_with (go_at_call 68; refine (up_any _ _ _ _).mono ?_; rintro e w' ⟨rfl, rfl⟩; first | rw [c0] | rw [c1] | rw [c2] | rw [c3] | rw [c4])
            refine wp_loop_rounds 5 ?_
            rw [rounds_succ]
            go_wp2
            rw [rounds_succ]
            go_wp2
            rw [rounds_succ]
            go_wp2
            rw [rounds_succ]
            go_wp2
            rw [rounds_succ]
            go_wp2
            go_roundw
            case rel => exact ⟨i + 1, by go_num, by omega, hdr2, ⟨(ho.out.alloc _).tail⟩⟩
            case measure => (simp [intOf]; try omega)
        · obtain rfl : i = pn := by omega
          have hm0 : firstE (ptB · n) 2 ps 0 = none := by
            rw [← hre.out, List.drop_of_length_le (by rw [hpl.out]; exact Nat.le_refl _)]
            rfl
          have e1 := her.out
          rw [hm0] at e1
          clear her hre hm0 hlt hi
          have her := Hidd.mk e1
          clear e1
          go_wp2
          clear x0 x1 x2 x3 x4 x5 x6 x7 x8 x9 xA hlt1
          go_loopw [7] (fun v7 wr => ∃ j : Nat, v7 = .int .i64 j ∧ j ≤ on ∧ Hidd (firstE (qtB · (i : Int)) 8 (qs.drop j) j = firstE (qtB · (i : Int)) 8 qs 0) ∧ Hidd (Own w (fun _ => False) wr [blk p1 (.cells #[.int .i64 n, .int .i64 f, .int .i64 sl, .int .i64 gp, .int .i64 rh, .int .i64 d0, .int .i64 d1, .int .i64 mg, .slice PA i pc, .slice OA on oc, .slice RA rn rc] 26)])) (fun v7 _ => on - (intOf v7).toNat)
          case atStart => exact ⟨0, rfl, Nat.zero_le _, ⟨rfl⟩, ho⟩
          case round =>
            clear ho
            obtain ⟨j, rfl, hj, hre, ho⟩ := hrel
            obtain ⟨x0, x1, x2, x3, x4, x5, x6, x7, x8, x9, xA⟩ := cells11 ho.out 0 rfl
            have hlt1 := ho.out.lt 0 rfl
            by_cases hlt : j < on
            · obtain ⟨p, hp⟩ : ∃ x, qs[j]? = some x := ⟨_, List.getElem?_eq_getElem (by rw [hql.out]; exact hlt)⟩
              have hkd := (oQ.out p (List.mem_of_getElem? hp)).kind
              obtain ⟨a, rfl, y0, y1, y2, y3, y4, y5⟩ := (hQ.out.below (ho.out.below fun _ => id)).port hp
              have hdr := hre.out
              rw [drop_at hp, firstE] at hdr
              have hyl := World.block_lt_of_cell? wr _ y0
              have bi0 : (0 : Int) ≤ (j : Int) := by omega
              have bi1 : (j : Int) < (on : Int) := by omega
              clear hp hre
              obtain ⟨q0, kd, ou, sz, dp, fr⟩ := p
              simp only at y0 y1 y2 y3 y4 y5 hkd
              by_cases hk1 : kd = 1
              · subst hk1
                rcases c0 : inB q0 0 ((i : Int) - 1) with _ | _
                · have hpt : qtB ⟨q0, 1, ou, sz, dp, fr⟩ (i : Int) = false := by simp [qtB, c0]
                  rw [hpt, if_neg (by decide)] at hdr
                  have hres : Hidd (er = some (8, (j : Int))) := ⟨by rw [← her.out, ← hdr]⟩
                  clear hdr hpt
                  go_wp2_with (first
                    | (go_at_call 68; refine (up_any _ _ _ _).mono ?_; rintro e w' ⟨rfl, rfl⟩; first | rw [c0])
                    | (go_at_call 51; refine (at_any 8 (j : Int) _ (by decide) (by decide) (by omega) (by omega)).mono ?_; rintro e w1 ⟨rfl, hb⟩; replace hb := Hidd.mk (((ho.out.alloc _).ext hb).below fun _ => id)))
                  go_ret
                  exact ⟨ret_str (by rw [hres.out]; rfl), hb.out⟩
                rcases c1 : inB sz 0 16 with _ | _
                · have hpt : qtB ⟨q0, 1, ou, sz, dp, fr⟩ (i : Int) = false := by simp [qtB, c0, c1]
                  rw [hpt, if_neg (by decide)] at hdr
                  have hres : Hidd (er = some (8, (j : Int))) := ⟨by rw [← her.out, ← hdr]⟩
                  clear hdr hpt
                  go_wp2_with (first
                    | (go_at_call 68; refine (up_any _ _ _ _).mono ?_; rintro e w' ⟨rfl, rfl⟩; first | rw [c0] | rw [c1])
                    | (go_at_call 51; refine (at_any 8 (j : Int) _ (by decide) (by decide) (by omega) (by omega)).mono ?_; rintro e w1 ⟨rfl, hb⟩; replace hb := Hidd.mk (((ho.out.alloc _).ext hb).below fun _ => id)))
                  go_ret
                  exact ⟨ret_str (by rw [hres.out]; rfl), hb.out⟩
                by_cases c2 : dp = 0
                rotate_left
                · have e2 : (dp == 0) = false := by rw [beq_eq_false_iff_ne]; exact c2
                  have hpt : qtB ⟨q0, 1, ou, sz, dp, fr⟩ (i : Int) = false := by simp [qtB, c0, c1, c2]
                  rw [hpt, if_neg (by decide)] at hdr
                  have hres : Hidd (er = some (8, (j : Int))) := ⟨by rw [← her.out, ← hdr]⟩
                  clear hdr hpt
                  go_wp2_with (first
                    | (go_at_call 68; refine (up_any _ _ _ _).mono ?_; rintro e w' ⟨rfl, rfl⟩; first | rw [c0] | rw [c1])
                    | (go_at_call 51; refine (at_any 8 (j : Int) _ (by decide) (by decide) (by omega) (by omega)).mono ?_; rintro e w1 ⟨rfl, hb⟩; replace hb := Hidd.mk (((ho.out.alloc _).ext hb).below fun _ => id)))
                  go_ret
                  exact ⟨ret_str (by rw [hres.out]; rfl), hb.out⟩
                have e2 : (dp == 0) = true := by rw [beq_iff_eq]; exact c2
                rcases c3 : inB fr 0 8 with _ | _
                · have hpt : qtB ⟨q0, 1, ou, sz, dp, fr⟩ (i : Int) = false := by simp [qtB, c0, c1, c2, c3]
                  rw [hpt, if_neg (by decide)] at hdr
                  have hres : Hidd (er = some (8, (j : Int))) := ⟨by rw [← her.out, ← hdr]⟩
                  clear hdr hpt
                  go_wp2_with (first
                    | (go_at_call 68; refine (up_any _ _ _ _).mono ?_; rintro e w' ⟨rfl, rfl⟩; first | rw [c0] | rw [c1] | rw [c3])
                    | (go_at_call 51; refine (at_any 8 (j : Int) _ (by decide) (by decide) (by omega) (by omega)).mono ?_; rintro e w1 ⟨rfl, hb⟩; replace hb := Hidd.mk (((ho.out.alloc _).ext hb).below fun _ => id)))
                  go_ret
                  exact ⟨ret_str (by rw [hres.out]; rfl), hb.out⟩
                rcases ou with _ | _
                · have hpt : qtB ⟨q0, 1, false, sz, dp, fr⟩ (i : Int) = true := by simp [qtB, c0, c1, c2, c3]
                  rw [hpt, if_pos rfl] at hdr
                  have hdr2 := Hidd.mk hdr
                  clear hdr hpt
                  go_wp2_with (go_at_call 68; refine (up_any _ _ _ _).mono ?_; rintro e w' ⟨rfl, rfl⟩; first | rw [c0] | rw [c1] | rw [c3])
                  go_roundw
                  case rel => exact ⟨j + 1, by go_num, by omega, hdr2, ⟨(ho.out.alloc _).tail⟩⟩
                  case measure => (simp [intOf]; try omega)
                by_cases c4 : fr = 0
                · have e4 : (fr != 0) = false := by rw [bne_eq_false_iff_eq]; exact c4
                  have hpt : qtB ⟨q0, 1, true, sz, dp, fr⟩ (i : Int) = true := by simp [qtB, c0, c1, c2, c3]; exact c4
                  rw [hpt, if_pos rfl] at hdr
                  have hdr2 := Hidd.mk hdr
                  clear hdr hpt c4
                  go_wp2_with (go_at_call 68; refine (up_any _ _ _ _).mono ?_; rintro e w' ⟨rfl, rfl⟩; first | rw [c0] | rw [c1] | rw [c3])
                  go_roundw
                  case rel => exact ⟨j + 1, by go_num, by omega, hdr2, ⟨(ho.out.alloc _).tail⟩⟩
                  case measure => (simp [intOf]; try omega)
                · have e4 : (fr != 0) = true := by rw [bne_iff_ne]; exact c4
                  have hpt : qtB ⟨q0, 1, true, sz, dp, fr⟩ (i : Int) = false := by simp [qtB, c0, c1, c2, c3, c4]
                  rw [hpt, if_neg (by decide)] at hdr
                  have hres : Hidd (er = some (8, (j : Int))) := ⟨by rw [← her.out, ← hdr]⟩
                  clear hdr hpt
                  go_wp2_with (first
                    | (go_at_call 68; refine (up_any _ _ _ _).mono ?_; rintro e w' ⟨rfl, rfl⟩; first | rw [c0] | rw [c1] | rw [c3])
                    | (go_at_call 51; refine (at_any 8 (j : Int) _ (by decide) (by decide) (by omega) (by omega)).mono ?_; rintro e w1 ⟨rfl, hb⟩; replace hb := Hidd.mk (((ho.out.alloc _).ext hb).below fun _ => id)))
                  go_ret
                  exact ⟨ret_str (by rw [hres.out]; rfl), hb.out⟩
              · have kk1 : ((kd : Int) == 1) = false := by rw [beq_eq_false_iff_ne]; omega
                rcases c0 : inB q0 0 ((i : Int) - 1) with _ | _
                · have hpt : qtB ⟨q0, kd, ou, sz, dp, fr⟩ (i : Int) = false := by simp [qtB, c0]
                  rw [hpt, if_neg (by decide)] at hdr
                  have hres : Hidd (er = some (8, (j : Int))) := ⟨by rw [← her.out, ← hdr]⟩
                  clear hdr hpt
                  go_wp2_with (first
                    | (go_at_call 68; refine (up_any _ _ _ _).mono ?_; rintro e w' ⟨rfl, rfl⟩; first | rw [c0])
                    | (go_at_call 51; refine (at_any 8 (j : Int) _ (by decide) (by decide) (by omega) (by omega)).mono ?_; rintro e w1 ⟨rfl, hb⟩; replace hb := Hidd.mk (((ho.out.alloc _).ext hb).below fun _ => id)))
                  go_ret
                  exact ⟨ret_str (by rw [hres.out]; rfl), hb.out⟩
                rcases c1 : inB sz 0 16 with _ | _
                · have hpt : qtB ⟨q0, kd, ou, sz, dp, fr⟩ (i : Int) = false := by simp [qtB, c0, c1]
                  rw [hpt, if_neg (by decide)] at hdr
                  have hres : Hidd (er = some (8, (j : Int))) := ⟨by rw [← her.out, ← hdr]⟩
                  clear hdr hpt
                  go_wp2_with (first
                    | (go_at_call 68; refine (up_any _ _ _ _).mono ?_; rintro e w' ⟨rfl, rfl⟩; first | rw [c0] | rw [c1])
                    | (go_at_call 51; refine (at_any 8 (j : Int) _ (by decide) (by decide) (by omega) (by omega)).mono ?_; rintro e w1 ⟨rfl, hb⟩; replace hb := Hidd.mk (((ho.out.alloc _).ext hb).below fun _ => id)))
                  go_ret
                  exact ⟨ret_str (by rw [hres.out]; rfl), hb.out⟩
                by_cases hk2 : kd = 2
                rotate_left
                · have kk2 : ((kd : Int) == 2) = false := by rw [beq_eq_false_iff_ne]; omega
                  have hpt : qtB ⟨q0, kd, ou, sz, dp, fr⟩ (i : Int) = false := by simp [qtB, c0, c1, hk1, hk2]
                  rw [hpt, if_neg (by decide)] at hdr
                  have hres : Hidd (er = some (8, (j : Int))) := ⟨by rw [← her.out, ← hdr]⟩
                  clear hdr hpt
                  go_wp2_with (first
                    | (go_at_call 68; refine (up_any _ _ _ _).mono ?_; rintro e w' ⟨rfl, rfl⟩; first | rw [c0] | rw [c1])
                    | (go_at_call 51; refine (at_any 8 (j : Int) _ (by decide) (by decide) (by omega) (by omega)).mono ?_; rintro e w1 ⟨rfl, hb⟩; replace hb := Hidd.mk (((ho.out.alloc _).ext hb).below fun _ => id)))
                  go_ret
                  exact ⟨ret_str (by rw [hres.out]; rfl), hb.out⟩
                subst hk2
                clear kk1
                rcases c3 : inB dp 1 4 with _ | _
                · have hpt : qtB ⟨q0, 2, ou, sz, dp, fr⟩ (i : Int) = false := by simp [qtB, c0, c1, c3]
                  rw [hpt, if_neg (by decide)] at hdr
                  have hres : Hidd (er = some (8, (j : Int))) := ⟨by rw [← her.out, ← hdr]⟩
                  clear hdr hpt
                  go_wp2_with (first
                    | (go_at_call 68; refine (up_any _ _ _ _).mono ?_; rintro e w' ⟨rfl, rfl⟩; first | rw [c0] | rw [c1] | rw [c3])
                    | (go_at_call 51; refine (at_any 8 (j : Int) _ (by decide) (by decide) (by omega) (by omega)).mono ?_; rintro e w1 ⟨rfl, hb⟩; replace hb := Hidd.mk (((ho.out.alloc _).ext hb).below fun _ => id)))
                  go_ret
                  exact ⟨ret_str (by rw [hres.out]; rfl), hb.out⟩
                by_cases c4 : fr = 0
                · have e4 : (fr == 0) = true := by rw [beq_iff_eq]; exact c4
                  have hpt : qtB ⟨q0, 2, ou, sz, dp, fr⟩ (i : Int) = true := by simp [qtB, c0, c1, c3]; exact c4
                  rw [hpt, if_pos rfl] at hdr
                  have hdr2 := Hidd.mk hdr
                  clear hdr hpt
                  go_wp2_with (go_at_call 68; refine (up_any _ _ _ _).mono ?_; rintro e w' ⟨rfl, rfl⟩; first | rw [c0] | rw [c1] | rw [c3])
                  go_roundw
                  case rel => exact ⟨j + 1, by go_num, by omega, hdr2, ⟨(ho.out.alloc _).tail⟩⟩
                  case measure => (simp [intOf]; try omega)
                · have e4 : (fr == 0) = false := by rw [beq_eq_false_iff_ne]; exact c4
                  have hpt : qtB ⟨q0, 2, ou, sz, dp, fr⟩ (i : Int) = false := by simp [qtB, c0, c1, c3, c4]
                  rw [hpt, if_neg (by decide)] at hdr
                  have hres : Hidd (er = some (8, (j : Int))) := ⟨by rw [← her.out, ← hdr]⟩
                  clear hdr hpt
                  go_wp2_with (first
                    | (go_at_call 68; refine (up_any _ _ _ _).mono ?_; rintro e w' ⟨rfl, rfl⟩; first | rw [c0] | rw [c1] | rw [c3])
                    | (go_at_call 51; refine (at_any 8 (j : Int) _ (by decide) (by decide) (by omega) (by omega)).mono ?_; rintro e w1 ⟨rfl, hb⟩; replace hb := Hidd.mk (((ho.out.alloc _).ext hb).below fun _ => id)))
                  go_ret
                  exact ⟨ret_str (by rw [hres.out]; rfl), hb.out⟩
            · obtain rfl : j = on := by omega
              have hm0 : firstE (qtB · (i : Int)) 8 qs 0 = none := by
                rw [← hre.out, List.drop_of_length_le (by rw [hql.out]; exact Nat.le_refl _)]
                rfl
              have e1 := her.out
              rw [hm0] at e1
              clear her hre hm0 hlt hj
              have her := Hidd.mk e1
              clear e1
              go_wp2
              clear x0 x1 x2 x3 x4 x5 x6 x7 x8 x9 xA hlt1
              go_loopw [10] (fun v10 wr => ∃ k : Nat, v10 = .int .i64 k ∧ k ≤ rn ∧ Hidd (firstE (rtB · (j : Int)) 72 (rs.drop k) k = firstE (rtB · (j : Int)) 72 rs 0) ∧ Hidd (Own w (fun _ => False) wr [blk p1 (.cells #[.int .i64 n, .int .i64 f, .int .i64 sl, .int .i64 gp, .int .i64 rh, .int .i64 d0, .int .i64 d1, .int .i64 mg, .slice PA i pc, .slice OA j oc, .slice RA rn rc] 26)])) (fun v10 _ => rn - (intOf v10).toNat)
              case atStart => exact ⟨0, rfl, Nat.zero_le _, ⟨rfl⟩, ho⟩
              case round =>
                clear ho
                obtain ⟨k, rfl, hk, hre, ho⟩ := hrel
                obtain ⟨x0, x1, x2, x3, x4, x5, x6, x7, x8, x9, xA⟩ := cells11 ho.out 0 rfl
                by_cases hlt : k < rn
                · obtain ⟨p, hp⟩ : ∃ x, rs[k]? = some x := ⟨_, List.getElem?_eq_getElem (by rw [hrl.out]; exact hlt)⟩
                  have hR2 := Hidd.mk fun (W : World) (h : Below w.heap.size w W) => (hR.out.below h).route hp
                  have hdr := hre.out
                  rw [drop_at hp, firstE, rtB] at hdr
                  have bi0 : (0 : Int) ≤ (k : Int) := by omega
                  have bi1 : (k : Int) < (rn : Int) := by omega
                  have wj : IntKind.i64.wrap ((j : Int) - 1) = (j : Int) - 1 := IntWalk.i64_in _ (by omega)
                  clear hp hre
                  obtain ⟨r0, r1⟩ := p
                  try simp only at hdr
                  go_wp2
                  clear x0 x1 x2 x3 x4 x5 x6 x7 x8 x9 xA
                  obtain ⟨W0, hW0⟩ : ∃ zz, zz = World.drew wr := ⟨_, rfl⟩
                  refine wp_region_flow [([0, 2, 6, 1, 7, 3, 8, 4, 9, 5], some (10, [false])), ([11, 12, 13, 15, 19, 14, 20, 16, 21, 17, 22, 18], some (23, [false, false])), ([24, 25], none)] (by kernel_rfl) (by kernel_rfl) ?_
                  rw [show ({ wr with drawn := wr.drawn + 1 } : World) = W0 from hW0.symm]
                  replace hW0 := Hidd.mk hW0
                  simp only [opsF, List.map_cons, List.map_nil, List.getD_cons_succ, List.getD_cons_zero, Option.map]
                  have ho2 := Hidd.mk (show Own w (fun _ => False) W0 _ by rw [hW0.out]; exact ho.out.drew)
                  clear hW0 ho
                  obtain ⟨x0, x1, x2, x3, x4, x5, x6, x7, x8, x9, xA⟩ := cells11 ho2.out 0 rfl
                  obtain ⟨a, rfl, y0, y1⟩ := hR2.out _ (ho2.out.below fun _ => id)
                  (try simp only at y0 y1)
                  rcases c0 : inB r0 0 ((j : Int) - 1) with _ | _
                  · rw [c0, Bool.false_and, if_neg (by decide)] at hdr
                    have hres : Hidd (er = some (72, (k : Int))) := ⟨by rw [← her.out, ← hdr]⟩
                    clear hdr
                    refine FlW.stage (fun zz => zz = _) rfl ?_
                    repeat (first | (refine StQ.skip (by rfl) ?_; simp only [Act.put, List.setIfInBounds_toArray, List.set_cons_zero, List.set_cons_succ]) | (refine StQ.go' (by rfl) (Exists.intro ?_ (And.intro (fun w' hS => ?_) ?_)); rotate_left; (focus (rw [hS]; go_simp; try with_reducible rfl)); simp only [Act.put, List.setIfInBounds_toArray, List.set_cons_zero, List.set_cons_succ]))
                    refine StQ.nil ?_
                    refine FlO.go (by rfl) (fun K hK => ?_)
                    go_simp
                    (refine (up_any _ _ _ _).mono ?_; rintro e w5 ⟨rfl, rfl⟩; rw [c0])
                    refine hK.out _ _ (.inl rfl) ?_
                    clear hK K
                    refine FlW.stage (fun zz => zz = _) rfl ?_
                    repeat (first | (refine StQ.skip (by rfl) ?_; simp only [Act.put, List.setIfInBounds_toArray, List.set_cons_zero, List.set_cons_succ]) | (refine StQ.go' (by rfl) (Exists.intro ?_ (And.intro (fun w' hS => ?_) ?_)); rotate_left; (focus (rw [hS]; go_simp; try with_reducible rfl)); simp only [Act.put, List.setIfInBounds_toArray, List.set_cons_zero, List.set_cons_succ]))
                    refine StQ.nil ?_
                    refine FlO.skip (by rfl) ?_; simp only [Act.put, List.setIfInBounds_toArray, List.set_cons_zero, List.set_cons_succ]
                    refine FlW.heads (fun zz => zz = _) rfl ?_
                    repeat (first | (refine StQ.skip (by rfl) ?_; simp only [Act.put, List.setIfInBounds_toArray, List.set_cons_zero, List.set_cons_succ]) | (refine StQ.go' (by rfl) (Exists.intro ?_ (And.intro (fun w' hS => ?_) ?_)); rotate_left; (focus (rw [hS]; go_simp; try with_reducible rfl)); simp only [Act.put, List.setIfInBounds_toArray, List.set_cons_zero, List.set_cons_succ]))
                    refine StQ.nil ?_
                    refine FlW.nil (Calm.normal ?_)
                    go_wp2_with (go_at_call 51; refine (at_any 72 (k : Int) _ (by decide) (by decide) (by omega) (by omega)).mono ?_; rintro e w1 ⟨rfl, hb⟩; replace hb := Hidd.mk ((ho2.out.ext hb).below fun _ => id))
                    go_ret
                    exact ⟨ret_str (by rw [hres.out]; rfl), hb.out⟩
                  · rcases c1 : inB r1 0 ((j : Int) - 1) with _ | _
                    · rw [c0, c1, Bool.true_and, if_neg (by decide)] at hdr
                      have hres : Hidd (er = some (72, (k : Int))) := ⟨by rw [← her.out, ← hdr]⟩
                      clear hdr
                      refine FlW.stage (fun zz => zz = _) rfl ?_
                      repeat (first | (refine StQ.skip (by rfl) ?_; simp only [Act.put, List.setIfInBounds_toArray, List.set_cons_zero, List.set_cons_succ]) | (refine StQ.go' (by rfl) (Exists.intro ?_ (And.intro (fun w' hS => ?_) ?_)); rotate_left; (focus (rw [hS]; go_simp; try with_reducible rfl)); simp only [Act.put, List.setIfInBounds_toArray, List.set_cons_zero, List.set_cons_succ]))
                      refine StQ.nil ?_
                      refine FlO.go (by rfl) (fun K hK => ?_)
                      go_simp
                      (refine (up_any _ _ _ _).mono ?_; rintro e w5 ⟨rfl, rfl⟩; rw [c0])
                      refine hK.out _ _ (.inl rfl) ?_
                      clear hK K
                      refine FlW.stage (fun zz => zz = _) rfl ?_
                      repeat (first | (refine StQ.skip (by rfl) ?_; simp only [Act.put, List.setIfInBounds_toArray, List.set_cons_zero, List.set_cons_succ]) | (refine StQ.go' (by rfl) (Exists.intro ?_ (And.intro (fun w' hS => ?_) ?_)); rotate_left; (focus (rw [hS]; go_simp; try with_reducible rfl)); simp only [Act.put, List.setIfInBounds_toArray, List.set_cons_zero, List.set_cons_succ]))
                      refine StQ.nil ?_
                      refine FlO.go (by rfl) (fun K hK => ?_)
                      go_simp
                      (refine (up_any _ _ _ _).mono ?_; rintro e w5 ⟨rfl, rfl⟩; rw [c1])
                      refine hK.out _ _ (.inl rfl) ?_
                      clear hK K
                      refine FlW.heads (fun zz => zz = _) rfl ?_
                      repeat (first | (refine StQ.skip (by rfl) ?_; simp only [Act.put, List.setIfInBounds_toArray, List.set_cons_zero, List.set_cons_succ]) | (refine StQ.go' (by rfl) (Exists.intro ?_ (And.intro (fun w' hS => ?_) ?_)); rotate_left; (focus (rw [hS]; go_simp; try with_reducible rfl)); simp only [Act.put, List.setIfInBounds_toArray, List.set_cons_zero, List.set_cons_succ]))
                      refine StQ.nil ?_
                      refine FlW.nil (Calm.normal ?_)
                      go_wp2_with (go_at_call 51; refine (at_any 72 (k : Int) _ (by decide) (by decide) (by omega) (by omega)).mono ?_; rintro e w1 ⟨rfl, hb⟩; replace hb := Hidd.mk ((ho2.out.ext hb).below fun _ => id))
                      go_ret
                      exact ⟨ret_str (by rw [hres.out]; rfl), hb.out⟩
                    · rw [c0, c1, Bool.true_and, if_pos rfl] at hdr
                      replace hdr := Hidd.mk hdr
                      refine FlW.stage (fun zz => zz = _) rfl ?_
                      repeat (first | (refine StQ.skip (by rfl) ?_; simp only [Act.put, List.setIfInBounds_toArray, List.set_cons_zero, List.set_cons_succ]) | (refine StQ.go' (by rfl) (Exists.intro ?_ (And.intro (fun w' hS => ?_) ?_)); rotate_left; (focus (rw [hS]; go_simp; try with_reducible rfl)); simp only [Act.put, List.setIfInBounds_toArray, List.set_cons_zero, List.set_cons_succ]))
                      refine StQ.nil ?_
                      refine FlO.go (by rfl) (fun K hK => ?_)
                      go_simp
                      (refine (up_any _ _ _ _).mono ?_; rintro e w5 ⟨rfl, rfl⟩; rw [c0])
                      refine hK.out _ _ (.inl rfl) ?_
                      clear hK K
                      refine FlW.stage (fun zz => zz = _) rfl ?_
                      repeat (first | (refine StQ.skip (by rfl) ?_; simp only [Act.put, List.setIfInBounds_toArray, List.set_cons_zero, List.set_cons_succ]) | (refine StQ.go' (by rfl) (Exists.intro ?_ (And.intro (fun w' hS => ?_) ?_)); rotate_left; (focus (rw [hS]; go_simp; try with_reducible rfl)); simp only [Act.put, List.setIfInBounds_toArray, List.set_cons_zero, List.set_cons_succ]))
                      refine StQ.nil ?_
                      refine FlO.go (by rfl) (fun K hK => ?_)
                      go_simp
                      (refine (up_any _ _ _ _).mono ?_; rintro e w5 ⟨rfl, rfl⟩; rw [c1])
                      refine hK.out _ _ (.inl rfl) ?_
                      clear hK K
                      refine FlW.heads (fun zz => zz = _) rfl ?_
                      repeat (first | (refine StQ.skip (by rfl) ?_; simp only [Act.put, List.setIfInBounds_toArray, List.set_cons_zero, List.set_cons_succ]) | (refine StQ.go' (by rfl) (Exists.intro ?_ (And.intro (fun w' hS => ?_) ?_)); rotate_left; (focus (rw [hS]; go_simp; try with_reducible rfl)); simp only [Act.put, List.setIfInBounds_toArray, List.set_cons_zero, List.set_cons_succ]))
                      refine StQ.nil ?_
                      refine FlW.nil (Calm.normal ?_)
                      go_wp2
                      go_roundw
                      case rel => exact ⟨k + 1, by go_num, by omega, hdr, ho2⟩
                      case measure => (simp [intOf]; try omega)
                · obtain rfl : k = rn := by omega
                  have hm0 : firstE (rtB · (j : Int)) 72 rs 0 = none := by
                    rw [← hre.out, List.drop_of_length_le (by rw [hrl.out]; exact Nat.le_refl _)]
                    rfl
                  have e1 := her.out
                  rw [hm0] at e1
                  have hres : Hidd (er = none) := ⟨e1.symm⟩
                  clear e1 hm0
                  go_wp2
                  go_ret
                  exact ⟨ret_str (by rw [hres.out]; rfl), ho.out.below fun _ => id⟩
  all_goals (have hs : scalB n f sl gp rh d0 d1 mg = false := by simp [scalB, *])
  all_goals rw [hs, if_pos rfl] at her
  all_goals subst her
  all_goals clear hs hpl hql hrl
  all_goals go_enter Try.func32, Try.ntmps32
  all_goals go_wp2_with (first
    | (go_at_call 68; refine (up_any _ _ _ _).mono ?_; rintro e w' ⟨rfl, rfl⟩; first | rw [k0] | rw [k1] | rw [k2] | rw [k3] | rw [k4] | rw [k5] | rw [k6] | rw [k7])
    | (go_at_call 51; refine (at_any 2 (-1) _ (by decide) (by decide) (by decide) (by decide)).mono ?_; rintro e w1 ⟨rfl, hb⟩; replace hb := Hidd.mk ((ho.out.ext hb).below fun _ => id)))
  all_goals go_ret
  all_goals exact ⟨rfl, hb.out⟩
end Go.Proofs.Ytcamoldjljfbeaa
