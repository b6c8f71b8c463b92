/- The fixed facts of layer 5; TableSizes walked. -/
import Derived.Test.YtcamoldjljfbeaaTbB
import Derived.Test.YtcamoldjljfbeaaSoH
import Derived.Test.YtcamoldjljfbeaaSoK
namespace Go.Proofs.Ytcamoldjljfbeaa
open Go.RowKit

set_option maxRecDepth 100000
set_option maxHeartbeats 8000000
theorem aw5_tab : tabE 1 0 1 0 0 0 0 0 [] [] [] = none := by decide +kernel
theorem aw5_bad : tabE 0 0 0 0 0 0 0 0 [] [] [] = some (2, -1) := by decide +kernel
theorem aw5_len : (imgB 1 0 1 0 0 0 0 0 [] [] []).length = 33 := by decide +kernel
theorem aw5_four : (crcSeal (imgB 1 0 1 0 0 0 0 0 [] [] [])).take 4 = [69, 83, 67, 49] := by decide +kernel
theorem aw5_txt : errB [(60, -1), (2, -1)] none = ⟨#[54, 48, 64, 45, 49, 62, 50, 64, 45, 49]⟩ := by decide +kernel
theorem awake5_any (w : World) : Calls Try.prog 27 #[] w fun e w' => e = .returned (.bool true) ∧ Below w.heap.size w w' := by
  have h1 := Hidd.mk (Tab.of aw5_tab)
  have h2 := Hidd.mk aw5_bad
  have h3 := Hidd.mk aw5_len
  have h4 := Hidd.mk aw5_four
  have h5 := Hidd.mk aw5_txt
  have ho := Hidd.mk (Own.nil w (fun _ => False))
  go_enter Try.func27, Try.ntmps27
  go_wp2_with (first
    | (go_at_call 29; have hq := ho.out; clear hq; refine (tabEnc_ok 1 0 1 0 0 0 0 0 none 0 0 none 0 0 none 0 0 [] [] [] _ (at_nil _ _) (at_nil _ _) (at_nil _ _) (by intro p hp; cases hp) (by intro p hp; cases hp) h1.out 33 h3.out).mono ?_; rintro e w1 ⟨A, c, rfl, hc, hn⟩; have ho1 := Hidd.mk (ho.out.made hn); clear hn ho)
    | (go_at_call 29; have hq := ho1.out; clear hq; refine (tabEnc_bad 0 0 0 0 0 0 0 0 none 0 0 none 0 0 none 0 0 [] [] [] _ (at_nil _ _) (at_nil _ _) (at_nil _ _) (by intro p hp; cases hp) (by intro p hp; cases hp) _ h2.out).mono ?_; rintro e w2 ⟨v, rfl, _, he, hb⟩; have ho2 := Hidd.mk (ho1.out.ext hb); replace he := Hidd.mk he; clear hb ho1; have hcv := conv_at (w := w2) (A := A) (n := 4) (c := c) (xs := (crcSeal (imgB 1 0 1 0 0 0 0 0 [] [] [])).take 4) (by rw [nums_take]; exact (row_cells ho2.out 0 rfl).take 4) (by rw [h4.out]; rfl); rw [h4.out, show strOfNums [69, 83, 67, 49] = ⟨#[69, 83, 67, 49]⟩ from rfl] at hcv)
    | (go_at_call 20; have hq := ho2.out; clear hq; refine (read_any [(60, -1), (2, -1)] none v _ he.out ⟨by decide, by decide, by simp⟩).mono ?_; rintro e w3 ⟨rfl, hb⟩; rw [h5.out]; have ho3 := Hidd.mk (ho2.out.ext hb); clear hb))
  go_ret
  exact ⟨rfl, ho3.out.below fun _ => id⟩
def lngB (pn on rn : Nat) : Bool := decide (100 < pn) || decide (100 < on) || decide (100 < rn)
theorem lng_any (n f sl gp rh d0 d1 mg : Int) (PA : Option Addr) (pn pc : Nat) (OA : Option Addr) (on oc : Nat) (RA : Option Addr) (rn rc : Nat) (w : World) : Calls Try.prog 28 #[.agg #[.int .i64 n, .int .i64 f, .int .i64 sl, .int .i64 gp, .int .i64 rh, .int .i64 d0, .int .i64 d1, .int .i64 mg, .slice PA pn pc, .slice OA on oc, .slice RA rn rc]] w fun e w' => e = .returned (.bool (lngB pn on rn)) ∧ Below w.heap.size w w' := by
  have hbw : Hidd (Below w.heap.size w (w.alloc (.cells #[.int .i64 n, .int .i64 f, .int .i64 sl, .int .i64 gp, .int .i64 rh, .int .i64 d0, .int .i64 d1, .int .i64 mg, .slice PA pn pc, .slice OA on oc, .slice RA rn rc] 26))) := ⟨below_alloc (Below.refl _ _) _⟩
  have key : (lngB pn on rn = true ∧ decide ((100 : Int) < pn) = true) ∨ (lngB pn on rn = true ∧ decide ((100 : Int) < pn) = false ∧ decide ((100 : Int) < on) = true) ∨ (lngB pn on rn = true ∧ decide ((100 : Int) < pn) = false ∧ decide ((100 : Int) < on) = false ∧ decide ((100 : Int) < rn) = true) ∨ (lngB pn on rn = false ∧ decide ((100 : Int) < pn) = false ∧ decide ((100 : Int) < on) = false ∧ decide ((100 : Int) < rn) = false) := by
    unfold lngB
    simp only [Bool.or_eq_true, Bool.or_eq_false_iff, decide_eq_true_eq, decide_eq_false_iff_not]
    omega
  rcases key with ⟨e, h1⟩ | ⟨e, h1, h2⟩ | ⟨e, h1, h2, h3⟩ | ⟨e, h1, h2, h3⟩
  all_goals rw [e]
  all_goals clear e
  all_goals go_enter Try.func28, Try.ntmps28
  all_goals go_wp2
  all_goals go_ret
  all_goals exact ⟨rfl, hbw.out⟩
theorem tableSizes_walk (n f sl gp rh d0 d1 mg : Int) (PA : Option Addr) (pn pc : Nat) (pz : List (List Value)) (OA : Option Addr) (on oc : Nat) (oz : List (List Value)) (RA : Option Addr) (rn rc : Nat) (rz : List (List Value)) (w : World) (_h0 : (Lit.int .i64 n).wf = true) (_h1 : (Lit.int .i64 f).wf = true) (_h2 : (Lit.int .i64 sl).wf = true) (_h3 : (Lit.int .i64 gp).wf = true) (_h4 : (Lit.int .i64 rh).wf = true) (_h5 : (Lit.int .i64 d0).wf = true) (_h6 : (Lit.int .i64 d1).wf = true) (_h7 : (Lit.int .i64 mg).wf = true) (h8 : Rows' w 48 [.int .i64, .int .i64, .int .i64, .int .i64, .int .i64, .int .u8, .int .u8, .int .u8, .int .u8] PA pn pc pz) (h9 : Rows' w 40 [.int .i64, .int .u8, .bool, .int .i64, .int .i64, .int .i64] OA on oc oz) (hA : Rows' w 16 [.int .i64, .int .i64] RA rn rc rz) :
    Calls Try.prog 9 #[.agg #[.int .i64 n, .int .i64 f, .int .i64 sl, .int .i64 gp, .int .i64 rh, .int .i64 d0, .int .i64 d1, .int .i64 mg, .slice PA pn pc, .slice OA on oc, .slice RA rn rc]] w fun e w' => e = .returned (.bool true) ∧ Below w.heap.size w w' := by
  obtain ⟨ps, hP, oP⟩ := parts_of h8
  obtain ⟨qs, hQ, oQ⟩ := ports_of h9
  obtain ⟨rs, hR, _⟩ := routes_of hA
  have hpw := h8.wt
  have hqw := h9.wt
  have hrw := hA.wt
  unfold reachBytes at hpw hqw hrw
  clear _h0 _h1 _h2 _h3 _h4 _h5 _h6 _h7 h8 h9 hA
  have ho := Hidd.mk ((Own.nil w (fun _ => False)).alloc (.cells #[.int .i64 n, .int .i64 f, .int .i64 sl, .int .i64 gp, .int .i64 rh, .int .i64 d0, .int .i64 d1, .int .i64 mg, .slice PA pn pc, .slice OA on oc, .slice RA rn rc] 26))
  replace hP := Hidd.mk hP
  replace hQ := Hidd.mk hQ
  replace hR := Hidd.mk hR
  replace oP := Hidd.mk oP
  replace oQ := Hidd.mk oQ
  rcases hl : lngB pn on rn with _ | _
  rotate_left
  · replace hl := Hidd.mk hl
    go_enter Try.func9, Try.ntmps9
    go_wp2_with (first
      | (go_at_call 27; refine (awake5_any _).mono ?_; rintro e w1 ⟨rfl, hb⟩; have ho1 := Hidd.mk (ho.out.ext hb); clear hb ho; obtain ⟨x0, x1, x2, x3, x4, x5, x6, x7, x8, x9, xA⟩ := cells11 ho1.out 0 rfl)
      | (go_at_call 28; refine (lng_any n f sl gp rh d0 d1 mg PA pn pc OA on oc RA rn rc _).mono ?_; rintro e w2 ⟨rfl, hb⟩; rw [hl.out]; have ho2 := Hidd.mk (ho1.out.ext hb); clear hb ho1))
    go_ret
    exact ⟨rfl, ho2.out.below fun _ => id⟩
  · replace hl := Hidd.mk hl
    rcases he : tabE n f sl gp rh d0 d1 mg ps qs rs with _ | q
    · have hT := Hidd.mk (Tab.of he)
      clear he
      have bP := hT.out.np
      have bQ := hT.out.nq
      have bR := hT.out.nr
      rw [hP.out.1] at bP
      rw [hQ.out.1] at bQ
      rw [hR.out.1] at bR
      obtain ⟨N, hN⟩ : ∃ N, (imgB n f sl gp rh d0 d1 mg ps qs rs).length = N := ⟨_, rfl⟩
      have hN2 : N = 33 + 15 * pn + 6 * on + 2 * rn := by rw [← hN, imgB_len, hP.out.1, hQ.out.1, hR.out.1]
      have hfin : ((((N + 4 : Nat) : Int) == 37 + 15 * (pn : Int) + 6 * (on : Int) + 2 * (rn : Int)) = true) := by rw [beq_iff_eq]; omega
      replace hN := Hidd.mk hN
      replace hN2 := Hidd.mk hN2
      go_enter Try.func9, Try.ntmps9
      go_wp2_with (first
        | (go_at_call 27; refine (awake5_any _).mono ?_; rintro e w1 ⟨rfl, hb⟩; have ho1 := Hidd.mk (ho.out.ext hb); clear hb ho; obtain ⟨x0, x1, x2, x3, x4, x5, x6, x7, x8, x9, xA⟩ := cells11 ho1.out 0 rfl)
        | (go_at_call 28; refine (lng_any n f sl gp rh d0 d1 mg PA pn pc OA on oc RA rn rc _).mono ?_; rintro e w2 ⟨rfl, hb⟩; rw [hl.out]; have ho2 := Hidd.mk (ho1.out.ext hb); clear hb ho1; clear x0 x1 x2 x3 x4 x5 x6 x7 x8 x9 xA; obtain ⟨x0, x1, x2, x3, x4, x5, x6, x7, x8, x9, xA⟩ := cells11 ho2.out 0 rfl)
        | (go_at_call 22; refine (copied_any n f sl gp rh d0 d1 mg PA pn pc OA on oc RA rn rc ps qs rs _ (hP.out.below (ho2.out.below fun _ => id)) (hQ.out.below (ho2.out.below fun _ => id)) (hR.out.below (ho2.out.below fun _ => id)) hpw hqw hrw).mono ?_; rintro e w3 ⟨A, a, B, b, C, c, rfl, hn⟩; have ho3 := Hidd.mk (ho2.out.madeL hn); clear hn ho2)
        | (go_at_call 29; refine (tabEnc_ok n f sl gp rh d0 d1 mg A pn a B on b C rn c ps qs rs _ ⟨hP.out.1, row_cells ho3.out 2 rfl⟩ ⟨hQ.out.1, row_cells ho3.out 1 rfl⟩ ⟨hR.out.1, row_cells ho3.out 0 rfl⟩ oP.out oQ.out hT.out N hN.out).mono ?_; rintro e w4 ⟨D, d, rfl, hcd, hn⟩; have hm := ho3.out.made hn; have ho4 := Hidd.mk hm; clear hn ho3 hm; clear x0 x1 x2 x3 x4 x5 x6 x7 x8 x9 xA; obtain ⟨x0, x1, x2, x3, x4, x5, x6, x7, x8, x9, xA⟩ := cells11 ho4.out 4 rfl))
      go_ret
      exact ⟨by first | rfl | (simp only [hN2.out]; simp; omega), ho4.out.below fun _ => id⟩
    · replace he := Hidd.mk he
      go_enter Try.func9, Try.ntmps9
      go_wp2_with (first
        | (go_at_call 27; refine (awake5_any _).mono ?_; rintro e w1 ⟨rfl, hb⟩; have ho1 := Hidd.mk (ho.out.ext hb); clear hb ho; obtain ⟨x0, x1, x2, x3, x4, x5, x6, x7, x8, x9, xA⟩ := cells11 ho1.out 0 rfl)
        | (go_at_call 28; refine (lng_any n f sl gp rh d0 d1 mg PA pn pc OA on oc RA rn rc _).mono ?_; rintro e w2 ⟨rfl, hb⟩; rw [hl.out]; have ho2 := Hidd.mk (ho1.out.ext hb); clear hb ho1; clear x0 x1 x2 x3 x4 x5 x6 x7 x8 x9 xA; obtain ⟨x0, x1, x2, x3, x4, x5, x6, x7, x8, x9, xA⟩ := cells11 ho2.out 0 rfl)
        | (go_at_call 22; refine (copied_any n f sl gp rh d0 d1 mg PA pn pc OA on oc RA rn rc ps qs rs _ (hP.out.below (ho2.out.below fun _ => id)) (hQ.out.below (ho2.out.below fun _ => id)) (hR.out.below (ho2.out.below fun _ => id)) hpw hqw hrw).mono ?_; rintro e w3 ⟨A, a, B, b, C, c, rfl, hn⟩; have ho3 := Hidd.mk (ho2.out.madeL hn); clear hn ho2)
        | (go_at_call 29; refine (tabEnc_bad n f sl gp rh d0 d1 mg A pn a B on b C rn c ps qs rs _ ⟨hP.out.1, row_cells ho3.out 2 rfl⟩ ⟨hQ.out.1, row_cells ho3.out 1 rfl⟩ ⟨hR.out.1, row_cells ho3.out 0 rfl⟩ oP.out oQ.out _ he.out).mono ?_; rintro e w4 ⟨v, rfl, ⟨vb, rfl⟩, _, hb⟩; have ho4 := Hidd.mk (ho3.out.ext hb); clear hb ho3))
      go_ret
      exact ⟨rfl, ho4.out.below fun _ => id⟩
end Go.Proofs.Ytcamoldjljfbeaa
