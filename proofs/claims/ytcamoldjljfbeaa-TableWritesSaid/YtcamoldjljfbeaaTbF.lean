/- TableWrites walked. -/
import Derived.Test.YtcamoldjljfbeaaTbC
import Derived.Test.YtcamoldjljfbeaaTbD
import Derived.Test.YtcamoldjljfbeaaTbE
import Derived.Test.YtcamoldjljfbeaaSoL
namespace Go.Proofs.Ytcamoldjljfbeaa
open Go.RowKit

set_option maxRecDepth 100000
set_option maxHeartbeats 8000000
theorem tableWrites_walk (n f sl gp rh d0 d1 mg : Int) (PA : Option Addr) (pn pc : Nat) (pz : List (List Value)) (OA : Option Addr) (on oc : Nat) (oz : List (List Value)) (RA : Option Addr) (rn rc : Nat) (rz : List (List Value)) (w : World) (_h0 : (Lit.int .i64 n).wf = true) (_h1 : (Lit.int .i64 f).wf = true) (_h2 : (Lit.int .i64 sl).wf = true) (_h3 : (Lit.int .i64 gp).wf = true) (_h4 : (Lit.int .i64 rh).wf = true) (_h5 : (Lit.int .i64 d0).wf = true) (_h6 : (Lit.int .i64 d1).wf = true) (_h7 : (Lit.int .i64 mg).wf = true) (h8 : Rows' w 48 [.int .i64, .int .i64, .int .i64, .int .i64, .int .i64, .int .u8, .int .u8, .int .u8, .int .u8] PA pn pc pz) (h9 : Rows' w 40 [.int .i64, .int .u8, .bool, .int .i64, .int .i64, .int .i64] OA on oc oz) (hA : Rows' w 16 [.int .i64, .int .i64] RA rn rc rz) :
    Calls Try.prog 8 #[.agg #[.int .i64 n, .int .i64 f, .int .i64 sl, .int .i64 gp, .int .i64 rh, .int .i64 d0, .int .i64 d1, .int .i64 mg, .slice PA pn pc, .slice OA on oc, .slice RA rn rc]] w fun e w' => e = .returned (.bool true) ∧ Below w.heap.size w w' := by
  obtain ⟨ps, hP, oP⟩ := parts_of h8
  obtain ⟨qs, hQ, oQ⟩ := ports_of h9
  obtain ⟨rs, hR, _⟩ := routes_of hA
  have hpw := h8.wt
  have hqw := h9.wt
  have hrw := hA.wt
  unfold reachBytes at hpw hqw hrw
  clear _h0 _h1 _h2 _h3 _h4 _h5 _h6 _h7 h8 h9 hA
  have ho := Hidd.mk ((Own.nil w (fun _ => False)).alloc (.cells #[.int .i64 n, .int .i64 f, .int .i64 sl, .int .i64 gp, .int .i64 rh, .int .i64 d0, .int .i64 d1, .int .i64 mg, .slice PA pn pc, .slice OA on oc, .slice RA rn rc] 26))
  replace hP := Hidd.mk hP
  replace hQ := Hidd.mk hQ
  replace hR := Hidd.mk hR
  replace oP := Hidd.mk oP
  replace oQ := Hidd.mk oQ
  rcases hl : lngB pn on rn with _ | _
  rotate_left
  · replace hl := Hidd.mk hl
    go_enter Try.func8, Try.ntmps8
    go_wp2_with (first
      | (go_at_call 27; refine (awake5_any _).mono ?_; rintro e w1 ⟨rfl, hb⟩; have ho1 := Hidd.mk (ho.out.ext hb); clear hb ho; obtain ⟨x0, x1, x2, x3, x4, x5, x6, x7, x8, x9, xA⟩ := cells11 ho1.out 0 rfl)
      | (go_at_call 28; refine (lng_any n f sl gp rh d0 d1 mg PA pn pc OA on oc RA rn rc _).mono ?_; rintro e w2 ⟨rfl, hb⟩; rw [hl.out]; have ho2 := Hidd.mk (ho1.out.ext hb); clear hb ho1))
    go_ret
    exact ⟨rfl, ho2.out.below fun _ => id⟩
  · replace hl := Hidd.mk hl
    have hlb : pn ≤ 100 ∧ on ≤ 100 ∧ rn ≤ 100 := by
      have := hl.out
      unfold lngB at this
      simp only [Bool.or_eq_false_iff, decide_eq_false_iff_not] at this
      omega
    obtain ⟨hlb1, hlb2, hlb3⟩ := hlb
    rcases he : tabE n f sl gp rh d0 d1 mg ps qs rs with _ | ⟨ec, ea⟩
    · have hT := Hidd.mk (Tab.of he)
      have her := Hidd.mk he
      clear he
      obtain ⟨N, hN⟩ : ∃ N, (imgB n f sl gp rh d0 d1 mg ps qs rs).length = N := ⟨_, rfl⟩
      have hNs : Hidd ((crcSeal (imgB n f sl gp rh d0 d1 mg ps qs rs)).length = N + 4) := ⟨by unfold crcSeal; rw [List.length_append, hN]; rfl⟩
      have hok : Hidd (OkErr (erL none) none) := ⟨ok_of (er := none) fun c a e => by cases e⟩
      have hok2 : Hidd (OkErr [] none) := ⟨by decide, by simp, by simp⟩
      have hte := errB_erL none
      obtain ⟨TE, hTE⟩ : ∃ T, textE none = T := ⟨_, rfl⟩
      rw [hTE] at hte
      replace hTE := Hidd.mk hTE
      obtain ⟨SB, hSB⟩ : ∃ T, strOfNums (crcSeal (imgB n f sl gp rh d0 d1 mg ps qs rs)) = T := ⟨_, rfl⟩
      replace hSB := Hidd.mk hSB
      replace hte := Hidd.mk hte
      replace hN := Hidd.mk hN
      go_enter Try.func8, Try.ntmps8
      go_wp2_with (first
        | (go_at_call 27; refine (awake5_any _).mono ?_; rintro e w1 ⟨rfl, hb⟩; have ho1 := Hidd.mk (ho.out.ext hb); clear hb ho; obtain ⟨x0, x1, x2, x3, x4, x5, x6, x7, x8, x9, xA⟩ := cells11 ho1.out 0 rfl)
        | (go_at_call 28; refine (lng_any n f sl gp rh d0 d1 mg PA pn pc OA on oc RA rn rc _).mono ?_; rintro e w2 ⟨rfl, hb⟩; rw [hl.out]; have ho2 := Hidd.mk (ho1.out.ext hb); clear hb ho1; clear x0 x1 x2 x3 x4 x5 x6 x7 x8 x9 xA; obtain ⟨x0, x1, x2, x3, x4, x5, x6, x7, x8, x9, xA⟩ := cells11 ho2.out 0 rfl)
        | (go_at_call 22; refine (copied_any n f sl gp rh d0 d1 mg PA pn pc OA on oc RA rn rc ps qs rs _ (hP.out.below (ho2.out.below fun _ => id)) (hQ.out.below (ho2.out.below fun _ => id)) (hR.out.below (ho2.out.below fun _ => id)) hpw hqw hrw).mono ?_; rintro e w3 ⟨A, a, B, b, C, c, rfl, hn⟩; have hm3 := (ho2.out.madeL hn).alloc (.cells #[.int .i64 n, .int .i64 f, .int .i64 sl, .int .i64 gp, .int .i64 rh, .int .i64 d0, .int .i64 d1, .int .i64 mg, .slice A pn a, .slice B on b, .slice C rn c] 26); simp only [List.cons_append, List.nil_append] at hm3; have ho3 := Hidd.mk hm3; clear hn hm3 ho2; clear x0 x1 x2 x3 x4 x5 x6 x7 x8 x9 xA; obtain ⟨x0, x1, x2, x3, x4, x5, x6, x7, x8, x9, xA⟩ := cells11 ho3.out 4 rfl; obtain ⟨u0, u1, u2, u3, u4, u5, u6, u7, u8, u9, uA⟩ := cells11 ho3.out 0 rfl)
        | (go_at_call 29; refine (tabEnc_ok n f sl gp rh d0 d1 mg A pn a B on b C rn c ps qs rs _ ⟨hP.out.1, row_cells ho3.out 3 rfl⟩ ⟨hQ.out.1, row_cells ho3.out 2 rfl⟩ ⟨hR.out.1, row_cells ho3.out 1 rfl⟩ oP.out oQ.out hT.out N hN.out).mono ?_; rintro e w4 ⟨D, d, rfl, hcd, hn⟩; have hm := ho3.out.made hn; have ho4 := Hidd.mk hm; clear hn ho3 hm; clear x0 x1 x2 x3 x4 x5 x6 x7 x8 x9 xA u0 u1 u2 u3 u4 u5 u6 u7 u8 u9 uA; obtain ⟨x0, x1, x2, x3, x4, x5, x6, x7, x8, x9, xA⟩ := cells11 ho4.out 5 rfl; obtain ⟨u0, u1, u2, u3, u4, u5, u6, u7, u8, u9, uA⟩ := cells11 ho4.out 1 rfl)
        | (go_at_call 30; refine (refTabEnc_ok n f sl gp rh d0 d1 mg PA pn pc OA on oc RA rn rc ps qs rs _ (hP.out.below (ho4.out.below fun _ => id)) (hQ.out.below (ho4.out.below fun _ => id)) (hR.out.below (ho4.out.below fun _ => id)) oP.out oQ.out hT.out N hN.out).mono ?_; rintro e w5 ⟨E, e5, rfl, hn⟩; have hm := ho4.out.made hn; have ho5 := Hidd.mk hm; clear hn ho4 hm; clear x0 x1 x2 x3 x4 x5 x6 x7 x8 x9 xA u0 u1 u2 u3 u4 u5 u6 u7 u8 u9 uA))
      generalize w.heap.size = p1 at ho5 ⊢
      generalize w3.heap.size = p7 at ho5 ⊢
      obtain ⟨W0, hW0⟩ : ∃ zz, zz = World.drew w5 := ⟨_, rfl⟩
      refine wp_region_flow [([0, 3], some (1, [true])), ([], some (2, [false, true])), ([], some (4, [false, false, false])), ([5, 6, 7, 9, 8, 10, 11, 12, 13, 14, 16], some (15, [true, false, false, false])), ([17, 18, 19, 20, 21], some (22, [false, false, false, false, false])), ([23, 24], none)] (by kernel_rfl) (by kernel_rfl) ?_
      rw [show ({ w5 with drawn := w5.drawn + 1 } : World) = W0 from hW0.symm]
      replace hW0 := Hidd.mk hW0
      simp only [opsF, List.map_cons, List.map_nil, List.getD_cons_succ, List.getD_cons_zero, Option.map]
      have ho6 := Hidd.mk (show Own w (fun _ => False) W0 _ by rw [hW0.out]; exact ho5.out.drew)
      have hv := Hidd.mk (show ∀ W : World, IsErr W [] none .nilIface from fun _ => rfl)
      clear hW0 ho5
      obtain ⟨x0, x1, x2, x3, x4, x5, x6, x7, x8, x9, xA⟩ := cells11 ho6.out 6 rfl
      obtain ⟨u0, u1, u2, u3, u4, u5, u6, u7, u8, u9, uA⟩ := cells11 ho6.out 2 rfl
      have hl1 := ho6.out.lt 6 rfl
      have hl7 := ho6.out.lt 2 rfl
      refine FlW.stage (fun zz => Kept (fun _ => False) W0 zz) (Kept.refl _ _) ?_
      repeat (first | (refine StQ.skip (by rfl) ?_; simp only [Act.put, List.setIfInBounds_toArray, List.set_cons_zero, List.set_cons_succ]) | (refine StQ.go' (by rfl) (Exists.intro ?_ (And.intro (fun w' hS => ?_) ?_)); rotate_left; (focus (have hc := Kept.cell0 hS; go_simp; try with_reducible rfl)); simp only [Act.put, List.setIfInBounds_toArray, List.set_cons_zero, List.set_cons_succ]))
      refine StQ.nil ?_
      refine FlO.go (by rfl) (fun K hK => ?_)
      go_simp
      (refine (tabCheck_any n f sl gp rh d0 d1 mg A pn a B on b C rn c ps qs rs _ ⟨hP.out.1, row_cells ho6.out 5 rfl⟩ ⟨hQ.out.1, row_cells ho6.out 4 rfl⟩ ⟨hR.out.1, row_cells ho6.out 3 rfl⟩ oP.out oQ.out _ her.out).mono ?_; rintro e w6 ⟨v6, rfl, he6, hb6⟩; have ho7 := Hidd.mk (ho6.out.ext hb6); replace he6 := Hidd.mk he6.isErr)
      refine hK.out _ _ (.inr ⟨Kept.below hb6, trivial⟩) ?_
      clear hK K
      have HB6 := hb6
      clear hb6 ho6 x0 x1 x2 x3 x4 x5 x6 x7 x8 x9 xA u0 u1 u2 u3 u4 u5 u6 u7 u8 u9 uA hl1 hl7
      refine FlW.stage (fun _ => True) trivial (StQ.nil ?_)
      refine FlO.go (by rfl) (fun K hK => ?_)
      go_simp
      (refine (read_any (erL (none)) none v6 _ he6.out hok.out).mono ?_; rintro e w7 ⟨rfl, hb7⟩; rw [hte.out]; have ho8 := Hidd.mk (ho7.out.ext hb7))
      refine hK.out _ _ (.inr ⟨Kept.below (below_then HB6 hb7), trivial⟩) ?_
      clear hK K
      skip
      clear hb7 ho7 he6 HB6
      refine FlW.stage (fun _ => True) trivial (StQ.nil ?_)
      refine FlO.go (by rfl) (fun K hK => ?_)
      go_simp
      (refine (refTab_any n f sl gp rh d0 d1 mg PA pn pc OA on oc RA rn rc ps qs rs _ (hP.out.below (ho8.out.below fun _ => id)) (hQ.out.below (ho8.out.below fun _ => id)) (hR.out.below (ho8.out.below fun _ => id)) oP.out oQ.out _ her.out).mono ?_; rintro e w8 ⟨rfl, hb8⟩; rw [hTE.out]; have ho9 := Hidd.mk (ho8.out.ext hb8))
      refine hK.out _ _ (.inr trivial) ?_
      clear hK K
      skip
      clear hb8 ho8
      obtain ⟨x0, x1, x2, x3, x4, x5, x6, x7, x8, x9, xA⟩ := cells11 ho9.out 6 rfl
      obtain ⟨u0, u1, u2, u3, u4, u5, u6, u7, u8, u9, uA⟩ := cells11 ho9.out 2 rfl
      have hl1 := ho9.out.lt 6 rfl
      have hl7 := ho9.out.lt 2 rfl
      have cD := Hidd.mk (row_cells ho9.out 1 rfl)
      have cE := Hidd.mk (row_cells ho9.out 0 rfl)
      refine FlW.stage (fun zz => Kept (fun _ => False) w8 zz) (Kept.refl _ _) ?_
      repeat (first | (refine StQ.skip (by rfl) ?_; simp only [Act.put, List.setIfInBounds_toArray, List.set_cons_zero, List.set_cons_succ]) | (refine StQ.go' (by rfl) (Exists.intro ?_ (And.intro (fun w' hS => ?_) ?_)); rotate_left; (focus ((have hc := Kept.cell0 hS; have k1 := conv_at (c := d) (cD.out.below (hS.none fun _ => id)) hNs.out; have k2 := conv_at (c := e5) (cE.out.below (hS.none fun _ => id)) hNs.out; rw [hSB.out] at k1 k2); go_simp; try with_reducible rfl)); simp only [Act.put, List.setIfInBounds_toArray, List.set_cons_zero, List.set_cons_succ]))
      refine StQ.nil ?_
      refine FlO.go (by rfl) (fun K hK => ?_)
      go_simp
      (refine (read_any [] none .nilIface _ (hv.out _) hok2.out).mono ?_; rintro e w9 ⟨rfl, hb9⟩; rw [show errB [] none = ⟨#[]⟩ from rfl]; have hoA := Hidd.mk (ho9.out.ext hb9))
      refine hK.out _ _ (.inr ⟨Kept.below hb9, trivial⟩) ?_
      clear hK K
      clear hb9 ho9 x0 x1 x2 x3 x4 x5 x6 x7 x8 x9 xA u0 u1 u2 u3 u4 u5 u6 u7 u8 u9 uA hl1 hl7
      obtain ⟨x0, x1, x2, x3, x4, x5, x6, x7, x8, x9, xA⟩ := cells11 hoA.out 6 rfl
      obtain ⟨u0, u1, u2, u3, u4, u5, u6, u7, u8, u9, uA⟩ := cells11 hoA.out 2 rfl
      have hl1 := hoA.out.lt 6 rfl
      have hl7 := hoA.out.lt 2 rfl
      refine FlW.stage (fun zz => Kept (fun _ => False) w9 zz) (Kept.refl _ _) ?_
      repeat (first | (refine StQ.skip (by rfl) ?_; simp only [Act.put, List.setIfInBounds_toArray, List.set_cons_zero, List.set_cons_succ]) | (refine StQ.go' (by rfl) (Exists.intro ?_ (And.intro (fun w' hS => ?_) ?_)); rotate_left; (focus (have hc := Kept.cell0 hS; go_simp; try with_reducible rfl)); simp only [Act.put, List.setIfInBounds_toArray, List.set_cons_zero, List.set_cons_succ]))
      refine StQ.nil ?_
      refine FlO.go (by rfl) (fun K hK => ?_)
      go_simp
      (refine (sameT_any n f sl gp rh d0 d1 mg A pn a B on b C rn c PA pc OA oc RA rc ps qs rs _ ⟨hP.out.1, row_cells hoA.out 5 rfl⟩ ⟨hQ.out.1, row_cells hoA.out 4 rfl⟩ ⟨hR.out.1, row_cells hoA.out 3 rfl⟩ (hP.out.below (hoA.out.below fun _ => id)) (hQ.out.below (hoA.out.below fun _ => id)) (hR.out.below (hoA.out.below fun _ => id)) (by omega) (by omega) (by omega)).mono ?_; rintro e wB ⟨rfl, hbB⟩; have hoB := Hidd.mk (hoA.out.ext hbB))
      refine hK.out _ _ (.inr trivial) ?_
      clear hK K
      clear hbB hoA x0 x1 x2 x3 x4 x5 x6 x7 x8 x9 xA u0 u1 u2 u3 u4 u5 u6 u7 u8 u9 uA hl1 hl7
      refine FlW.heads (fun zz => zz = _) rfl ?_
      repeat (first | (refine StQ.skip (by rfl) ?_; simp only [Act.put, List.setIfInBounds_toArray, List.set_cons_zero, List.set_cons_succ]) | (refine StQ.go' (by rfl) (Exists.intro ?_ (And.intro (fun w' hS => ?_) ?_)); rotate_left; (focus (rw [hS]; go_simp; try with_reducible rfl)); simp only [Act.put, List.setIfInBounds_toArray, List.set_cons_zero, List.set_cons_succ]))
      refine StQ.nil ?_
      refine FlW.nil (Calm.normal ?_)
      go_wp2
      go_ret
      exact ⟨by first | rfl | simp, hoB.out.below fun _ => id⟩
    · have her := Hidd.mk he
      have hok : Hidd (OkErr (erL (some (ec, ea))) none) := ⟨ok_of fun c a e => tabE_some (he.trans e)⟩
      have hok2 : Hidd (OkErr [(60, -1), (ec, ea)] none) := ⟨show 2 ≤ 20 by decide, fun p hp => by
        have := tabE_some he
        simp only [List.mem_cons, List.not_mem_nil, or_false] at hp
        rcases hp with rfl | rfl
        · decide
        · simp only
          omega, by simp⟩
      have hte := errB_erL (some (ec, ea))
      obtain ⟨TE, hTE⟩ : ∃ T, textE (some (ec, ea)) = T := ⟨_, rfl⟩
      rw [hTE] at hte
      replace hTE := Hidd.mk hTE
      obtain ⟨EB, hEB⟩ : ∃ T, errB [(60, -1), (ec, ea)] none = T := ⟨_, rfl⟩
      replace hEB := Hidd.mk hEB
      replace hte := Hidd.mk hte
      clear he
      go_enter Try.func8, Try.ntmps8
      go_wp2_with (first
        | (go_at_call 27; refine (awake5_any _).mono ?_; rintro e w1 ⟨rfl, hb⟩; have ho1 := Hidd.mk (ho.out.ext hb); clear hb ho; obtain ⟨x0, x1, x2, x3, x4, x5, x6, x7, x8, x9, xA⟩ := cells11 ho1.out 0 rfl)
        | (go_at_call 28; refine (lng_any n f sl gp rh d0 d1 mg PA pn pc OA on oc RA rn rc _).mono ?_; rintro e w2 ⟨rfl, hb⟩; rw [hl.out]; have ho2 := Hidd.mk (ho1.out.ext hb); clear hb ho1; clear x0 x1 x2 x3 x4 x5 x6 x7 x8 x9 xA; obtain ⟨x0, x1, x2, x3, x4, x5, x6, x7, x8, x9, xA⟩ := cells11 ho2.out 0 rfl)
        | (go_at_call 22; refine (copied_any n f sl gp rh d0 d1 mg PA pn pc OA on oc RA rn rc ps qs rs _ (hP.out.below (ho2.out.below fun _ => id)) (hQ.out.below (ho2.out.below fun _ => id)) (hR.out.below (ho2.out.below fun _ => id)) hpw hqw hrw).mono ?_; rintro e w3 ⟨A, a, B, b, C, c, rfl, hn⟩; have hm3 := (ho2.out.madeL hn).alloc (.cells #[.int .i64 n, .int .i64 f, .int .i64 sl, .int .i64 gp, .int .i64 rh, .int .i64 d0, .int .i64 d1, .int .i64 mg, .slice A pn a, .slice B on b, .slice C rn c] 26); simp only [List.cons_append, List.nil_append] at hm3; have ho3 := Hidd.mk hm3; clear hn hm3 ho2; clear x0 x1 x2 x3 x4 x5 x6 x7 x8 x9 xA; obtain ⟨x0, x1, x2, x3, x4, x5, x6, x7, x8, x9, xA⟩ := cells11 ho3.out 4 rfl; obtain ⟨u0, u1, u2, u3, u4, u5, u6, u7, u8, u9, uA⟩ := cells11 ho3.out 0 rfl)
        | (go_at_call 29; refine (tabEnc_bad n f sl gp rh d0 d1 mg A pn a B on b C rn c ps qs rs _ ⟨hP.out.1, row_cells ho3.out 3 rfl⟩ ⟨hQ.out.1, row_cells ho3.out 2 rfl⟩ ⟨hR.out.1, row_cells ho3.out 1 rfl⟩ oP.out oQ.out _ her.out).mono ?_; rintro e w4 ⟨v, rfl, ⟨vb, rfl⟩, hv, hb⟩; have ho4 := Hidd.mk (ho3.out.ext hb); replace hv := Hidd.mk hv; clear hb ho3; clear x0 x1 x2 x3 x4 x5 x6 x7 x8 x9 xA u0 u1 u2 u3 u4 u5 u6 u7 u8 u9 uA; obtain ⟨x0, x1, x2, x3, x4, x5, x6, x7, x8, x9, xA⟩ := cells11 ho4.out 4 rfl; obtain ⟨u0, u1, u2, u3, u4, u5, u6, u7, u8, u9, uA⟩ := cells11 ho4.out 0 rfl)
        | (go_at_call 30; refine (refTabEnc_bad n f sl gp rh d0 d1 mg PA pn pc OA on oc RA rn rc ps qs rs _ (hP.out.below (ho4.out.below fun _ => id)) (hQ.out.below (ho4.out.below fun _ => id)) (hR.out.below (ho4.out.below fun _ => id)) oP.out oQ.out _ _ her.out).mono ?_; rintro e w5 ⟨rfl, hb⟩; rw [hEB.out]; have hv5 := Hidd.mk (hv.out.below hb); have ho5 := Hidd.mk (ho4.out.ext hb); clear hv; clear hb ho4; clear x0 x1 x2 x3 x4 x5 x6 x7 x8 x9 xA u0 u1 u2 u3 u4 u5 u6 u7 u8 u9 uA))
      generalize w.heap.size = p1 at ho5 ⊢
      generalize w3.heap.size = p7 at ho5 ⊢
      obtain ⟨W0, hW0⟩ : ∃ zz, zz = World.drew w5 := ⟨_, rfl⟩
      refine wp_region_flow [([0, 3], some (1, [true])), ([], some (2, [false, true])), ([], some (4, [false, false, false])), ([5, 6, 7, 9, 8, 10, 11, 12, 13, 14, 16], some (15, [true, false, false, false])), ([17, 18, 19, 20, 21], some (22, [false, false, false, false, false])), ([23, 24], none)] (by kernel_rfl) (by kernel_rfl) ?_
      rw [show ({ w5 with drawn := w5.drawn + 1 } : World) = W0 from hW0.symm]
      replace hW0 := Hidd.mk hW0
      simp only [opsF, List.map_cons, List.map_nil, List.getD_cons_succ, List.getD_cons_zero, Option.map]
      have ho6 := Hidd.mk (show Own w (fun _ => False) W0 _ by rw [hW0.out]; exact ho5.out.drew)
      have hv6 := Hidd.mk (show IsErr W0 _ none _ by rw [hW0.out]; exact (hv5.out : IsErr w5 [(60, -1), (ec, ea)] none _).below ((Below.refl _ _).drew))
      clear hv5
      clear hW0 ho5
      obtain ⟨x0, x1, x2, x3, x4, x5, x6, x7, x8, x9, xA⟩ := cells11 ho6.out 4 rfl
      obtain ⟨u0, u1, u2, u3, u4, u5, u6, u7, u8, u9, uA⟩ := cells11 ho6.out 0 rfl
      have hl1 := ho6.out.lt 4 rfl
      have hl7 := ho6.out.lt 0 rfl
      refine FlW.stage (fun zz => Kept (fun _ => False) W0 zz) (Kept.refl _ _) ?_
      repeat (first | (refine StQ.skip (by rfl) ?_; simp only [Act.put, List.setIfInBounds_toArray, List.set_cons_zero, List.set_cons_succ]) | (refine StQ.go' (by rfl) (Exists.intro ?_ (And.intro (fun w' hS => ?_) ?_)); rotate_left; (focus (have hc := Kept.cell0 hS; go_simp; try with_reducible rfl)); simp only [Act.put, List.setIfInBounds_toArray, List.set_cons_zero, List.set_cons_succ]))
      refine StQ.nil ?_
      refine FlO.go (by rfl) (fun K hK => ?_)
      go_simp
      (refine (tabCheck_any n f sl gp rh d0 d1 mg A pn a B on b C rn c ps qs rs _ ⟨hP.out.1, row_cells ho6.out 3 rfl⟩ ⟨hQ.out.1, row_cells ho6.out 2 rfl⟩ ⟨hR.out.1, row_cells ho6.out 1 rfl⟩ oP.out oQ.out _ her.out).mono ?_; rintro e w6 ⟨v6, rfl, he6, hb6⟩; have ho7 := Hidd.mk (ho6.out.ext hb6); replace he6 := Hidd.mk he6.isErr)
      refine hK.out _ _ (.inr ⟨Kept.below hb6, trivial⟩) ?_
      clear hK K
      have hv7 := Hidd.mk (hv6.out.below hb6)
      clear hv6
      have HB6 := hb6
      clear hb6 ho6 x0 x1 x2 x3 x4 x5 x6 x7 x8 x9 xA u0 u1 u2 u3 u4 u5 u6 u7 u8 u9 uA hl1 hl7
      refine FlW.stage (fun _ => True) trivial (StQ.nil ?_)
      refine FlO.go (by rfl) (fun K hK => ?_)
      go_simp
      (refine (read_any (erL (some (ec, ea))) none v6 _ he6.out hok.out).mono ?_; rintro e w7 ⟨rfl, hb7⟩; rw [hte.out]; have ho8 := Hidd.mk (ho7.out.ext hb7))
      refine hK.out _ _ (.inr ⟨Kept.below (below_then HB6 hb7), trivial⟩) ?_
      clear hK K
      have hv8 := Hidd.mk (hv7.out.below hb7)
      clear hv7
      clear hb7 ho7 he6 HB6
      refine FlW.stage (fun _ => True) trivial (StQ.nil ?_)
      refine FlO.go (by rfl) (fun K hK => ?_)
      go_simp
      (refine (refTab_any n f sl gp rh d0 d1 mg PA pn pc OA on oc RA rn rc ps qs rs _ (hP.out.below (ho8.out.below fun _ => id)) (hQ.out.below (ho8.out.below fun _ => id)) (hR.out.below (ho8.out.below fun _ => id)) oP.out oQ.out _ her.out).mono ?_; rintro e w8 ⟨rfl, hb8⟩; rw [hTE.out]; have ho9 := Hidd.mk (ho8.out.ext hb8))
      refine hK.out _ _ (.inr trivial) ?_
      clear hK K
      have hv := Hidd.mk (hv8.out.below hb8)
      clear hv8
      clear hb8 ho8
      obtain ⟨x0, x1, x2, x3, x4, x5, x6, x7, x8, x9, xA⟩ := cells11 ho9.out 4 rfl
      obtain ⟨u0, u1, u2, u3, u4, u5, u6, u7, u8, u9, uA⟩ := cells11 ho9.out 0 rfl
      have hl1 := ho9.out.lt 4 rfl
      have hl7 := ho9.out.lt 0 rfl
      skip
      refine FlW.stage (fun zz => Kept (fun _ => False) w8 zz) (Kept.refl _ _) ?_
      repeat (first | (refine StQ.skip (by rfl) ?_; simp only [Act.put, List.setIfInBounds_toArray, List.set_cons_zero, List.set_cons_succ]) | (refine StQ.go' (by rfl) (Exists.intro ?_ (And.intro (fun w' hS => ?_) ?_)); rotate_left; (focus ((have hc := Kept.cell0 hS; have k1 := conv_at (n := 0) (c := 0) (xs := []) (Cells.nil w' none : Cells w' none (nums .u8 [])) rfl; rw [show strOfNums [] = ⟨#[]⟩ from rfl] at k1); go_simp; try with_reducible rfl)); simp only [Act.put, List.setIfInBounds_toArray, List.set_cons_zero, List.set_cons_succ]))
      refine StQ.nil ?_
      refine FlO.go (by rfl) (fun K hK => ?_)
      go_simp
      (refine (read_any [(60, -1), (ec, ea)] none _ _ hv.out hok2.out).mono ?_; rintro e w9 ⟨rfl, hb9⟩; rw [hEB.out]; have hoA := Hidd.mk (ho9.out.ext hb9))
      refine hK.out _ _ (.inr ⟨Kept.below hb9, trivial⟩) ?_
      clear hK K
      clear hb9 ho9 x0 x1 x2 x3 x4 x5 x6 x7 x8 x9 xA u0 u1 u2 u3 u4 u5 u6 u7 u8 u9 uA hl1 hl7
      obtain ⟨x0, x1, x2, x3, x4, x5, x6, x7, x8, x9, xA⟩ := cells11 hoA.out 4 rfl
      obtain ⟨u0, u1, u2, u3, u4, u5, u6, u7, u8, u9, uA⟩ := cells11 hoA.out 0 rfl
      have hl1 := hoA.out.lt 4 rfl
      have hl7 := hoA.out.lt 0 rfl
      refine FlW.stage (fun zz => Kept (fun _ => False) w9 zz) (Kept.refl _ _) ?_
      repeat (first | (refine StQ.skip (by rfl) ?_; simp only [Act.put, List.setIfInBounds_toArray, List.set_cons_zero, List.set_cons_succ]) | (refine StQ.go' (by rfl) (Exists.intro ?_ (And.intro (fun w' hS => ?_) ?_)); rotate_left; (focus (have hc := Kept.cell0 hS; go_simp; try with_reducible rfl)); simp only [Act.put, List.setIfInBounds_toArray, List.set_cons_zero, List.set_cons_succ]))
      refine StQ.nil ?_
      refine FlO.go (by rfl) (fun K hK => ?_)
      go_simp
      (refine (sameT_any n f sl gp rh d0 d1 mg A pn a B on b C rn c PA pc OA oc RA rc ps qs rs _ ⟨hP.out.1, row_cells hoA.out 3 rfl⟩ ⟨hQ.out.1, row_cells hoA.out 2 rfl⟩ ⟨hR.out.1, row_cells hoA.out 1 rfl⟩ (hP.out.below (hoA.out.below fun _ => id)) (hQ.out.below (hoA.out.below fun _ => id)) (hR.out.below (hoA.out.below fun _ => id)) (by omega) (by omega) (by omega)).mono ?_; rintro e wB ⟨rfl, hbB⟩; have hoB := Hidd.mk (hoA.out.ext hbB))
      refine hK.out _ _ (.inr trivial) ?_
      clear hK K
      clear hbB hoA x0 x1 x2 x3 x4 x5 x6 x7 x8 x9 xA u0 u1 u2 u3 u4 u5 u6 u7 u8 u9 uA hl1 hl7
      refine FlW.heads (fun zz => zz = _) rfl ?_
      repeat (first | (refine StQ.skip (by rfl) ?_; simp only [Act.put, List.setIfInBounds_toArray, List.set_cons_zero, List.set_cons_succ]) | (refine StQ.go' (by rfl) (Exists.intro ?_ (And.intro (fun w' hS => ?_) ?_)); rotate_left; (focus (rw [hS]; go_simp; try with_reducible rfl)); simp only [Act.put, List.setIfInBounds_toArray, List.set_cons_zero, List.set_cons_succ]))
      refine StQ.nil ?_
      refine FlW.nil (Calm.normal ?_)
      go_wp2
      go_ret
      exact ⟨by first | rfl | simp, hoB.out.below fun _ => id⟩
end Go.Proofs.Ytcamoldjljfbeaa
