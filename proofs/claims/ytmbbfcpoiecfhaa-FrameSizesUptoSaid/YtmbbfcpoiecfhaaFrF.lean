/- Check of a frame: what it answers. -/
import Derived.Test.YtmbbfcpoiecfhaaFrE
import Derived.Test.YtmbbfcpoiecfhaaFrB
namespace Go.Proofs.Ytmbbfcpoiecfhaa
open Go.RowKit

set_option maxRecDepth 100000 in
set_option maxHeartbeats 8000000 in
theorem check_any (s r m k0 k1 k2 k3 : Nat) (ma : Option Addr) (mn mc : Nat) (ra : Option Addr) (rn rc : Nat) (ms : List (Int × List Int)) (rs : List Rec5) (w : World) (hM : MsgsAt w ma mn ms) (hR : RecsAt w ra rn rs) (hs : s < 256) (h0 : k0 < 256) (h1 : k1 < 256) (h2 : k2 < 65536) (h3 : k3 < 65536)
    (hrk : ∀ x ∈ rs, x.Ok) (er : Option (Int × Int)) (her : chkE s ms k0 k1 k2 k3 rs = er) :
    Calls Try.prog 35 #[.agg #[.int .u8 s, .int .u32 r, .int .u8 m, .slice ma mn mc, .int .u8 k0, .int .u8 k1, .int .u16 k2, .int .u16 k3, .slice ra rn rc]] w fun e w' => ∃ v, e = .returned v ∧ IsE w' er v ∧ Below w.heap.size w w' := by
  have ho := Hidd.mk ((Own.nil w (fun _ => False)).alloc (.cells #[.int .u8 s, .int .u32 r, .int .u8 m, .slice ma mn mc, .int .u8 k0, .int .u8 k1, .int .u16 k2, .int .u16 k3, .slice ra rn rc] 60))
  have hml := hM.1
  have hrl := hR.1
  unfold chkE at her
  rw [hml, hrl] at her
  have HM := Hidd.mk hM
  have HR := Hidd.mk hR
  replace hrk := Hidd.mk hrk
  clear hM hR
  by_cases h7 : 7 ≤ s
  · rw [if_pos h7] at her
    subst her
    have d1 : decide (7 ≤ (s : Int)) = true := by rw [decide_eq_true_eq]; omega
    go_enter Try.func35, Try.ntmps35
    go_wp2_with (go_at_call 42; refine (new_any 2 (-1) _ (by decide) (by decide)).mono ?_; rintro e w1 ⟨b, rfl, he, hb⟩; replace he := Hidd.mk he; replace hb := Hidd.mk ((ho.out.ext hb).below fun _ => id))
    go_ret
    exact ⟨_, rfl, he.out, hb.out⟩
  · rw [if_neg h7] at her
    have d1 : decide (7 ≤ (s : Int)) = false := by rw [decide_eq_false_iff_not]; omega
    by_cases h96 : 96 < mn
    · rw [if_pos (.inl h96)] at her
      subst her
      have d2 : decide (96 < (mn : Int)) = true := by rw [decide_eq_true_eq]; omega
      clear hml hrl
      go_enter Try.func35, Try.ntmps35
      go_wp2_with (go_at_call 42; refine (new_any 3 (-1) _ (by decide) (by decide)).mono ?_; rintro e w1 ⟨b, rfl, he, hb⟩; replace he := Hidd.mk he; replace hb := Hidd.mk ((ho.out.ext hb).below fun _ => id))
      go_ret
      exact ⟨_, rfl, he.out, hb.out⟩
    · have d2 : decide (96 < (mn : Int)) = false := by rw [decide_eq_false_iff_not]; omega
      by_cases h4 : 4 < rn
      · rw [if_pos (.inr h4)] at her
        subst her
        have d3 : decide (4 < (rn : Int)) = true := by rw [decide_eq_true_eq]; omega
        clear hml hrl
        go_enter Try.func35, Try.ntmps35
        go_wp2_with (go_at_call 42; refine (new_any 3 (-1) _ (by decide) (by decide)).mono ?_; rintro e w1 ⟨b, rfl, he, hb⟩; replace he := Hidd.mk he; replace hb := Hidd.mk ((ho.out.ext hb).below fun _ => id))
        go_ret
        exact ⟨_, rfl, he.out, hb.out⟩
      · rw [if_neg (by omega)] at her
        have d3 : decide (4 < (rn : Int)) = false := by rw [decide_eq_false_iff_not]; omega
        replace her := Hidd.mk her
        replace hml := Hidd.mk hml
        replace hrl := Hidd.mk hrl
        go_enter Try.func35, Try.ntmps35
        go_wp2
        generalize w.heap.size = p1 at ho ⊢
        generalize w.alloc _ = wa at ho ⊢
        go_loopw [26] (fun v26 wr => ∃ i : Nat, v26 = .int .i64 i ∧ i ≤ mn ∧ Hidd (msgE (ms.drop i) i = msgE ms 0) ∧ Hidd (Own w (fun _ => False) wr [blk p1 (.cells #[.int .u8 s, .int .u32 r, .int .u8 m, .slice ma mn mc, .int .u8 k0, .int .u8 k1, .int .u16 k2, .int .u16 k3, .slice ra rn rc] 60)])) (fun v26 _ => mn - (intOf v26).toNat)
        case atStart => exact ⟨0, rfl, Nat.zero_le _, ⟨rfl⟩, ho⟩
        case round =>
          clear ho
          obtain ⟨i, rfl, hi, hme, ho⟩ := hrel
          obtain ⟨x0, x1, x2, x3, x4, x5, x6, x7, x8⟩ := cells9 ho.out 0 rfl
          have hpl := ho.out.lt 0 rfl
          by_cases hlt : i < mn
          · obtain ⟨⟨p, d⟩, hp⟩ : ∃ x, ms[i]? = some x := ⟨_, List.getElem?_eq_getElem (by rw [hml.out]; exact hlt)⟩
            obtain ⟨a, D, dl, dc, rfl, y0, y1, _, y3, _, _⟩ := (HM.out.below (ho.out.below fun _ => id)).2 i p d hp
            have hdr := hme.out
            rw [drop_at hp, msgE] at hdr
            simp only [y3] at hdr
            replace hdr := Hidd.mk hdr
            have bi0 : (0 : Int) ≤ (i : Int) := by omega
            have bi1 : (i : Int) < (mn : Int) := by omega
            clear hp y3 hme
            go_wp2_with (first
              | (go_at_call 42; with_reducible refine (new_any 2 (i : Int) _ (by decide) (by omega)).mono ?_; rintro e w1 ⟨b, rfl, he, hb⟩; replace he := Hidd.mk he; replace hb := Hidd.mk (((ho.out.alloc _).ext hb).below fun _ => id))
              | (go_at_call 42; with_reducible refine (new_any 12 (i : Int) _ (by decide) (by omega)).mono ?_; rintro e w1 ⟨b, rfl, he, hb⟩; replace he := Hidd.mk he; replace hb := Hidd.mk (((ho.out.alloc _).ext hb).below fun _ => id)))
            all_goals first
              | (go_ret
                 refine ⟨_, rfl, ?_, hb.out⟩
                 have e1 := her.out
                 rw [← hdr.out] at e1
                 first
                   | (rw [if_pos (by omega)] at e1; subst e1; exact he.out)
                   | (rw [if_neg (by omega), if_pos (by omega)] at e1; subst e1; exact he.out))
              | (go_roundw
                 case rel => exact ⟨i + 1, by go_num, by omega, ⟨by rw [← hdr.out, if_neg (by omega), if_neg (by omega)]⟩, ⟨(ho.out.alloc _).tail⟩⟩
                 case measure => (simp [intOf]; try omega))
          · obtain rfl : i = mn := by omega
            have hm0 : msgE ms 0 = none := by
              rw [← hme.out, List.drop_of_length_le (by rw [hml.out]; exact Nat.le_refl _)]
              rfl
            have e1 := her.out
            rw [hm0] at e1
            clear her hme hm0
            rcases hc : cmdE k0 k1 k2 k3 with _ | ⟨q0, q1⟩
            · rw [hc] at e1
              have her := Hidd.mk e1
              replace hc := Hidd.mk hc
              clear e1
              go_wp2_with (go_at_call 48; refine (command_any k0 k1 k2 k3 _ h0 h1 h2 h3 none hc.out).mono ?_; rintro e w5 ⟨v, rfl, hv, hb5⟩; (obtain rfl : v = .nilIface := hv); clear x0 x1 x2 x3 x4 x5 x6 x7 x8; have ho5 := Hidd.mk (ho.out.ext hb5); obtain ⟨x0, x1, x2, x3, x4, x5, x6, x7, x8⟩ := cells9 ho5.out 0 rfl; clear hb5 ho)
              go_loopw [59] (fun v59 wr => ∃ i : Nat, v59 = .int .i64 i ∧ i ≤ rn ∧ Hidd (recE (rs.drop i) i = recE rs 0) ∧ Hidd (Own w (fun _ => False) wr [blk p1 (.cells #[.int .u8 s, .int .u32 r, .int .u8 m, .slice ma _ mc, .int .u8 k0, .int .u8 k1, .int .u16 k2, .int .u16 k3, .slice ra rn rc] 60)])) (fun v59 _ => rn - (intOf v59).toNat)
              case atStart => exact ⟨0, rfl, Nat.zero_le _, ⟨rfl⟩, ho5⟩
              case round =>
                clear ho5 x0 x1 x2 x3 x4 x5 x6 x7 x8
                obtain ⟨j, rfl, hj, hre, ho⟩ := hrel
                have hpl := ho.out.lt 0 rfl
                by_cases hlt : j < rn
                · obtain ⟨x, hx⟩ : ∃ x, rs[j]? = some x := ⟨_, List.getElem?_eq_getElem (by rw [hrl.out]; exact hlt)⟩
                  obtain ⟨a, rfl, y0, y1, y2, y3, y4⟩ := (HR.out.below (ho.out.below fun _ => id)).2 j x hx
                  obtain ⟨g0, g1, g2, g3, g4⟩ := hrk.out x (List.mem_of_getElem? hx)
                  have hdr := hre.out
                  rw [drop_at hx, recE] at hdr
                  obtain ⟨xr, xn, xp, xk, xd⟩ := x
                  simp only at y0 y1 y2 y3 y4 g0 g1 g2 g3 g4 hdr
                  replace hdr := Hidd.mk hdr
                  have bi0 : (0 : Int) ≤ (j : Int) := by omega
                  have bi1 : (j : Int) < (rn : Int) := by omega
                  clear hx hre
                  go_wp2_with (go_at_call 42; refine (new_any 50 (j : Int) _ (by decide) (by omega)).mono ?_; rintro e w1 ⟨b, rfl, he, hb⟩; replace he := Hidd.mk he; replace hb := Hidd.mk (((ho.out.alloc _).ext hb).below fun _ => id))
                  all_goals first
                    | (go_ret
                       refine ⟨_, rfl, ?_, hb.out⟩
                       have e1 := her.out
                       rw [← hdr.out, if_pos (by omega)] at e1
                       subst e1
                       exact he.out)
                    | (go_roundw
                       case rel => exact ⟨j + 1, by go_num, by omega, ⟨by rw [← hdr.out, if_neg (by omega)]⟩, ⟨(ho.out.alloc _).tail⟩⟩
                       case measure => (simp [intOf]; try omega))
                · obtain rfl : j = rn := by omega
                  have hr0 : recE rs 0 = none := by
                    rw [← hre.out, List.drop_of_length_le (by rw [hrl.out]; exact Nat.le_refl _)]
                    rfl
                  have e1 := her.out
                  rw [hr0] at e1
                  clear her hre hr0
                  go_wp2
                  go_ret
                  subst e1
                  exact ⟨_, rfl, rfl, ho.out.below fun _ => id⟩
            · rw [hc] at e1
              have her := Hidd.mk e1
              replace hc := Hidd.mk hc
              clear e1
              go_wp2_with (go_at_call 48; refine (command_any k0 k1 k2 k3 _ h0 h1 h2 h3 _ hc.out).mono ?_; rintro e w5 ⟨v, rfl, hv, hb5⟩; have hv2 := Hidd.mk hv; obtain ⟨fb, rfl, _⟩ := hv; clear x0 x1 x2 x3 x4 x5 x6 x7 x8; have ho5 := Hidd.mk (ho.out.ext hb5); obtain ⟨x0, x1, x2, x3, x4, x5, x6, x7, x8⟩ := cells9 ho5.out 0 rfl; clear hb5 ho)
              go_ret
              refine ⟨_, rfl, ?_, ho5.out.below fun _ => id⟩
              rw [← her.out]
              exact hv2.out
end Go.Proofs.Ytmbbfcpoiecfhaa
