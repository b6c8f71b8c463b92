/- The walk of Take. -/
import Derived.Test.YtjejkmnlkmcckaaQuT
import Derived.Test.YtjejkmnlkmcckaaReg
namespace Go.Proofs.Ytjejkmnlkmcckaa
open Go.RowKit

set_option maxRecDepth 100000 in
set_option maxHeartbeats 40000000 in
theorem take_any (base b g : Nat) (last cap : Nat) (l : List It) (n : Nat) (z y : It) (w : World) (hq : QIn w base b (some ⟨g, 0, none⟩) (last + 1) cap l n) (hl : last < 4096) (hz : l[0]? = some z) (hy : l[last]? = some y) :
    Calls Try.prog 16 #[.pointer (some ⟨b, 0, none⟩)] w fun e w' => e = .returned (.tuple #[.agg #[.int .i64 z.at_, .int .i64 z.rank, .int .i64 z.what], .nilIface]) ∧ QIn w' base b (some ⟨g, 0, none⟩) last cap (siftDown ((l.set 0 y).take last) 0) n ∧ Kept (fun i => i = b ∨ i = g) w w' := by
  have c0 := hq.c0
  have f0 := hq.fr 0
  have hs := hq.hs
  obtain ⟨z0, z1, z2, z3⟩ := z
  obtain ⟨y0, y1, y2, y3⟩ := y
  obtain ⟨x0, x1, x2, x3⟩ := hq.at_ hz
  obtain ⟨v0, v1, v2, v3⟩ := hq.at_ hy
  simp only [Nat.zero_mul, Nat.zero_add] at x0 x1 x2 x3
  simp only at v0 v1 v2 v3
  have fx0 := hq.own.frozenAt 0
  have fx1 := hq.own.frozenAt 1
  have fx2 := hq.own.frozenAt 2
  have fx3 := hq.own.frozenAt 3
  have bl0 : (0 : Int) ≤ (last : Int) := by omega
  have bl1 : (last : Int) < (last : Int) + 1 := by omega
  have hg : g < w.heap.size := own_lt hq.own g rfl
  have bl2 : ((last : Int) + 1 == 0) = false := by simp; omega
  replace hq := Hidd.mk hq
  replace hz := Hidd.mk hz
  replace hy := Hidd.mk hy
  go_enter Try.func16, Try.ntmps16
  go_wp2
  go_region
  have hq1 : Hidd (QIn (((w.alloc (.cells #[.int .i64 0, .int .i64 0, .int .i64 0] 28)).alloc (.cells #[.int .i64 z0, .int .i64 z1, .int .i64 z2, .int .i64 z3] 93)).drew) base b (some ⟨g, 0, none⟩) (last + 1) cap l n) := ⟨hq.out.below (below_alloc (below_alloc (Below.refl _ _) _) _).drew⟩
  have hk1 : Hidd (Kept (fun i => i = b ∨ i = g) w (((w.alloc (.cells #[.int .i64 0, .int .i64 0, .int .i64 0] 28)).alloc (.cells #[.int .i64 z0, .int .i64 z1, .int .i64 z2, .int .i64 z3] 93)).drew)) := ⟨Kept.below (below_alloc (below_alloc (Below.refl _ _) _) _).drew⟩
  have hv1 : Hidd ((((w.alloc (.cells #[.int .i64 0, .int .i64 0, .int .i64 0] 28)).alloc (.cells #[.int .i64 z0, .int .i64 z1, .int .i64 z2, .int .i64 z3] 93)).drew).heap[w.heap.size]? = some (.cells #[.int .i64 0, .int .i64 0, .int .i64 0] 28 (0, 0))) := ⟨(Below.heap_alloc _ _ _ (by simp)).trans (heap_alloc_new w _)⟩
  have hv2 : Hidd ((((w.alloc (.cells #[.int .i64 0, .int .i64 0, .int .i64 0] 28)).alloc (.cells #[.int .i64 z0, .int .i64 z1, .int .i64 z2, .int .i64 z3] 93)).drew).heap[w.heap.size + 1]? = some (.cells #[.int .i64 z0, .int .i64 z1, .int .i64 z2, .int .i64 z3] 93 (0, 0))) := ⟨by have h := heap_alloc_new (w.alloc (.cells #[.int .i64 0, .int .i64 0, .int .i64 0] 28)) (.cells #[.int .i64 z0, .int .i64 z1, .int .i64 z2, .int .i64 z3] 93); rwa [World.size_alloc] at h⟩
  generalize hW : (((w.alloc (.cells #[.int .i64 0, .int .i64 0, .int .i64 0] 28)).alloc (.cells #[.int .i64 z0, .int .i64 z1, .int .i64 z2, .int .i64 z3] 93)).drew) = W at hq1 hk1 hv1 hv2 ⊢
  obtain ⟨H, hH⟩ : ∃ H, w.heap.size = H := ⟨_, rfl⟩
  have hgH : g ≠ H ∧ b ≠ H ∧ g ≠ H + 1 ∧ b ≠ H + 1 := by omega
  rw [hH] at hv1 hv2 ⊢
  clear hW c0 f0 hs hg x0 x1 x2 x3 v0 v1 v2 v3 fx0 fx1 fx2 fx3
  have hgb : g ≠ b := hq1.out.ne g rfl
  have c0 := hq1.out.c0
  have f0 := hq1.out.fr 0
  obtain ⟨x0, x1, x2, x3⟩ := hq1.out.at_ hz.out
  obtain ⟨v0, v1, v2, v3⟩ := hq1.out.at_ hy.out
  simp only [Nat.zero_mul, Nat.zero_add] at x0 x1 x2 x3
  simp only at v0 v1 v2 v3
  have fx0 := hq1.out.own.frozenAt 0
  have fx1 := hq1.out.own.frozenAt 1
  have fx2 := hq1.out.own.frozenAt 2
  have fx3 := hq1.out.own.frozenAt 3
  go_wp2
  obtain ⟨W0, hW0⟩ : ∃ zz, zz = World.drew W := ⟨_, rfl⟩
  refine wp_region_still_tail 12 (by kernel_rfl) (by kernel_rfl) (StW.out ?_)
  rw [show ({ W with drawn := W.drawn + 1 } : World) = W0 from hW0.symm]
  replace hW0 := Hidd.mk hW0
  simp only [List.take_succ_cons, List.take_zero, List.drop_succ_cons, List.drop_zero]
  have hq1' : Hidd (QIn W0 base b (some ⟨g, 0, none⟩) (last + 1) cap l n) := ⟨by rw [hW0.out]; exact hq1.out.drew⟩
  have hk1' : Hidd (Kept (fun i => i = b ∨ i = g) W W0) := ⟨by rw [hW0.out]; exact Kept.drew _ _⟩
  clear hW0 c0 f0 x0 x1 x2 x3 v0 v1 v2 v3 fx0 fx1 fx2 fx3
  have c0 := hq1'.out.c0
  have f0 := hq1'.out.fr 0
  obtain ⟨x0, x1, x2, x3⟩ := hq1'.out.at_ hz.out
  obtain ⟨v0, v1, v2, v3⟩ := hq1'.out.at_ hy.out
  simp only [Nat.zero_mul, Nat.zero_add] at x0 x1 x2 x3
  simp only at v0 v1 v2 v3
  have fx0 := hq1'.out.own.frozenAt 0
  have fx1 := hq1'.out.own.frozenAt 1
  have fx2 := hq1'.out.own.frozenAt 2
  have fx3 := hq1'.out.own.frozenAt 3
  repeat (refine StW.go (by rfl) (fun K hK => ?_); go_simp; refine hK.out _ ?_; clear hK K)
  refine StW.nil ?_
  have bl3 : last ≤ cap := by have := own_cap hq1'.out.own; omega
  go_wp2
  have hq2 : Hidd (QIn (putIt W0 g 0 ⟨y0, y1, y2, y3⟩) base b (some ⟨g, 0, none⟩) (last + 1) cap (l.set 0 ⟨y0, y1, y2, y3⟩) n) := ⟨hq1'.out.put 0 ⟨y0, y1, y2, y3⟩⟩
  have hk2 : Hidd (Kept (fun i => i = b ∨ i = g) W (putIt W0 g 0 ⟨y0, y1, y2, y3⟩)) := ⟨hk1'.out.trans (Kept.put W0 g 0 _ (.inr rfl))⟩
  simp only [putIt, Nat.zero_mul, Nat.zero_add] at hq2 hk2
  generalize (((W0.setCell ⟨g, 0, none⟩ (.int .i64 y0)).setCell ⟨g, 1, none⟩ (.int .i64 y1)).setCell ⟨g, 2, none⟩ (.int .i64 y2)).setCell ⟨g, 3, none⟩ (.int .i64 y3) = W2 at hq2 hk2 ⊢
  obtain ⟨l1, hl1⟩ : ∃ l1, (l.set 0 ⟨y0, y1, y2, y3⟩).take last = l1 := ⟨_, rfl⟩
  have hq3 : Hidd (QIn (W2.setCell ⟨b, 0, none⟩ (.slice (some ⟨g, 0, none⟩) last cap)) base b (some ⟨g, 0, none⟩) last cap l1 n) := ⟨by rw [← hl1]; exact hq2.out.cut⟩
  have hk3 : Hidd (Kept (fun i => i = b ∨ i = g) W (W2.setCell ⟨b, 0, none⟩ (.slice (some ⟨g, 0, none⟩) last cap))) := ⟨hk2.out.trans (Kept.setCell _ _ _ (.inl rfl))⟩
  clear c0 f0 x0 x1 x2 x3 v0 v1 v2 v3 fx0 fx1 fx2 fx3 hq1 hk2
  have hl1' := Hidd.mk hl1
  clear hl1
  have hv1' : Hidd ((W2.setCell ⟨b, 0, none⟩ (.slice (some ⟨g, 0, none⟩) last cap)).heap[H]? = some (.cells #[.int .i64 0, .int .i64 0, .int .i64 0] 28 (0, 0))) := ⟨hk3.out.row (by omega) hv1.out⟩
  have hv2' : Hidd ((W2.setCell ⟨b, 0, none⟩ (.slice (some ⟨g, 0, none⟩) last cap)).heap[H + 1]? = some (.cells #[.int .i64 z0, .int .i64 z1, .int .i64 z2, .int .i64 z3] 93 (0, 0))) := ⟨hk3.out.row (by omega) hv2.out⟩
  replace hk3 : Hidd (Kept (fun i => i = b ∨ i = g) w (W2.setCell ⟨b, 0, none⟩ (.slice (some ⟨g, 0, none⟩) last cap))) := ⟨hk1.out.trans hk3.out⟩
  generalize W2.setCell ⟨b, 0, none⟩ (.slice (some ⟨g, 0, none⟩) last cap) = W3 at hq3 hk3 hv1' hv2' ⊢
  clear hv1 hv2 hk1 hq2
  go_loopw [6] (fun v6 wr => ∃ (i : Nat) (l' : List It), v6 = .int .i64 i ∧ (i = 0 ∨ i < last) ∧ Hidd (siftDown l' i = siftDown l1 0) ∧ Hidd (QIn wr base b (some ⟨g, 0, none⟩) last cap l' n) ∧ Hidd (Kept (fun i => i = b ∨ i = g) w wr) ∧ Hidd (wr.heap[H]? = some (.cells #[.int .i64 0, .int .i64 0, .int .i64 0] 28 (0, 0))) ∧ Hidd (wr.heap[H + 1]? = some (.cells #[.int .i64 z0, .int .i64 z1, .int .i64 z2, .int .i64 z3] 93 (0, 0)))) (fun v6 _ => last - (intOf v6).toNat)
  case atStart => exact ⟨0, l1, rfl, .inl rfl, ⟨rfl⟩, hq3, hk3, hv1', hv2'⟩
  case round =>
    clear hq3 hk3 hv1' hv2' hq
    obtain ⟨i, l', rfl, hi, hs6, hq6, hk6, hv6, hu6⟩ := hrel
    obtain ⟨k1, hk1⟩ : ∃ k1 : Nat, 2 * (i : Int) + 1 = k1 := ⟨2 * i + 1, by omega⟩
    obtain ⟨k2, hk2⟩ : ∃ k2 : Nat, 2 * (i : Int) + 2 = k2 := ⟨2 * i + 2, by omega⟩
    go_wp2
    obtain ⟨wo, rfl⟩ : ∃ wo : World, wo = wr := ⟨_, rfl⟩
    go_loopw [7, 65] (fun v7 v65 wx => ∃ (j m' : Nat), v65 = .int .i64 j ∧ j ≤ 2 ∧ v7 = .int .i64 m' ∧ (m' = i ∨ (i < m' ∧ m' < last)) ∧ Hidd (pickTo l' i j = m') ∧ Hidd (QIn wx base b (some ⟨g, 0, none⟩) last cap l' n) ∧ Hidd (Below wo.heap.size wo wx)) (fun _ v65 _ => 2 - (intOf v65).toNat)
    case atStart => exact ⟨0, i, rfl, by omega, rfl, .inl rfl, ⟨rfl⟩, hq6, ⟨Below.refl _ _⟩⟩
    case round =>
      obtain ⟨j, m', rfl, hj, rfl, hm, hp7, hq7, hb7⟩ := hrel
      by_cases hj2 : j < 2
      · have hpn := Hidd.mk (pick_next l' i j hj2)
        rw [hp7.out, hq7.out.ll] at hpn
        obtain ⟨k, hk⟩ : ∃ k, k = 2 * i + 1 + j := ⟨_, rfl⟩
        rw [← hk] at hpn
        have hkj : (j = 0 ∧ k = k1) ∨ (j = 1 ∧ k = k2) := by omega
        replace hk := Hidd.mk hk
        have hix0 := ix0
        have hix1 := ix1
        by_cases hkl : k < last
        · obtain ⟨x, hx⟩ : ∃ x, l'[k]? = some x := ⟨_, List.getElem?_eq_getElem (by rw [hq7.out.ll]; omega)⟩
          have hml : m' < last := by have := hk.out; omega
          obtain ⟨y, hy⟩ : ∃ x, l'[m']? = some x := ⟨_, List.getElem?_eq_getElem (by rw [hq7.out.ll]; omega)⟩
          have hla := least_at hx hy hkl
          obtain ⟨q0, q1, q2, q3⟩ := x
          obtain ⟨r0, r1, r2, r3⟩ := y
          replace hx := Hidd.mk hx
          replace hy := Hidd.mk hy
          obtain ⟨c, hc⟩ : ∃ c, ahead ⟨q0, q1, q2, q3⟩ ⟨r0, r1, r2, r3⟩ = c := ⟨_, rfl⟩
          rw [hc] at hla
          replace hc := Hidd.mk hc
          replace hla := Hidd.mk hla
          have bi0 : (0 : Int) ≤ (k : Int) := by omega
          have bi1 : (k : Int) < (last : Int) := by omega
          have bu0 : (0 : Int) ≤ (m' : Int) := by omega
          have bu1 : (m' : Int) < (last : Int) := by omega
          have bd : decide ((k : Int) < (last : Int)) = true := by simp; omega
          rcases hkj with ⟨rfl, rfl⟩ | ⟨rfl, rfl⟩ <;> cases c
          all_goals
            go_wp2
            obtain ⟨wy, hwy⟩ : ∃ zz, zz = World.drew wr := ⟨_, rfl⟩
            refine wp_region_still_tail 18 (by kernel_rfl) (by kernel_rfl) (StW.out ?_)
            rw [show ({ wr with drawn := wr.drawn + 1 } : World) = wy from hwy.symm]
            replace hwy := Hidd.mk hwy
            simp only [List.take_succ_cons, List.take_zero, List.drop_succ_cons, List.drop_zero]
            have hq7' : Hidd (QIn wy base b (some ⟨g, 0, none⟩) last cap l' n) := ⟨by rw [hwy.out]; exact hq7.out.drew⟩
            have hb7' : Hidd (Below wo.heap.size wo wy) := ⟨by rw [hwy.out]; exact hb7.out.drew⟩
            obtain ⟨x0, x1, x2, x3⟩ := hq7'.out.at_ hx.out
            obtain ⟨y0, y1, y2, y3⟩ := hq7'.out.at_ hy.out
            have c0 := hq7'.out.c0
            simp only at x0 x1 x2 x3 y0 y1 y2 y3
            repeat (refine StW.go (by rfl) (fun K hK => ?_); go_simp; refine hK.out _ ?_; clear hK K)
            refine StW.nil ?_
            go_wp2_with (go_at_call 40; refine (ahead_any q0 q1 q2 q3 r0 r1 r2 r3 _ _ hc.out).mono ?_; rintro e w5 ⟨rfl, hb5⟩)
            have hq8 := Hidd.mk (hq7'.out.below hb5)
            have hb8 := Hidd.mk (below_then hb7'.out hb5)
            go_roundw
            case rel => first | exact ⟨_, m', by go_num, by omega, rfl, hm, ⟨hpn.out.trans hla.out⟩, hq8, hb8⟩ | exact ⟨_, _, by go_num, by omega, rfl, .inr ⟨by have := hk.out; omega, hkl⟩, ⟨hpn.out.trans hla.out⟩, hq8, hb8⟩
            case measure => simp [intOf]
        · have hln := Hidd.mk (hpn.out.trans (least_no hkl))
          have bi1 : decide ((k : Int) < (last : Int)) = false := by simp; omega
          rcases hkj with ⟨rfl, rfl⟩ | ⟨rfl, rfl⟩
          all_goals
            go_wp2
            obtain ⟨wy, hwy⟩ : ∃ zz, zz = World.drew wr := ⟨_, rfl⟩
            refine wp_region_still_lit (by kernel_rfl) (by kernel_rfl) (StW.out ?_)
            rw [show ({ wr with drawn := wr.drawn + 1 } : World) = wy from hwy.symm]
            replace hwy := Hidd.mk hwy
            repeat (first | (refine StW.skip (by rfl) ?_; simp only [Act.put, List.setIfInBounds_toArray, List.set_cons_zero, List.set_cons_succ]) | (refine StW.go (by rfl) (fun K hK => ?_); go_simp; refine hK.out _ ?_; clear hK K))
            refine StW.nil ?_
            have hq7' : Hidd (QIn wy base b (some ⟨g, 0, none⟩) last cap l' n) := ⟨by rw [hwy.out]; exact hq7.out.drew⟩
            have hb7' : Hidd (Below wo.heap.size wo wy) := ⟨by rw [hwy.out]; exact hb7.out.drew⟩
            go_wp2
            go_roundw
            case rel => exact ⟨_, m', by go_num, by omega, rfl, hm, hln, hq7', hb7'⟩
            case measure => simp [intOf]
      · obtain rfl : j = 2 := by omega
        have hk7 := Hidd.mk (hk6.out.trans (Kept.below hb7.out))
        have hv7 := Hidd.mk ((Kept.below (S := fun _ => False) hb7.out).row id hv6.out)
        have hu7 := Hidd.mk ((Kept.below (S := fun _ => False) hb7.out).row id hu6.out)
        clear hv6 hu6 hk6 hb7 hq6
        by_cases hmi : m' = i
        · subst hmi
          have hst : Hidd (siftDown l' m' = l') := ⟨siftDown_stop hp7.out⟩
          have d0 := cell_of_row _ H 0 _ _ _ hv7.out
          have d1 := cell_of_row _ H 1 _ _ _ hv7.out
          have d2 := cell_of_row _ H 2 _ _ _ hv7.out
          have g0 := frozen_of_row _ H 0 _ _ hv7.out
          have g1 := frozen_of_row _ H 1 _ _ hv7.out
          have g2 := frozen_of_row _ H 2 _ _ hv7.out
          have s0 := cell_of_row _ (H + 1) 0 _ _ _ hu7.out
          have s1 := cell_of_row _ (H + 1) 1 _ _ _ hu7.out
          have s2 := cell_of_row _ (H + 1) 2 _ _ _ hu7.out
          simp at d0 d1 d2 s0 s1 s2
          have hf := Hidd.mk (three_set (x := .int .i64 z0) (y := .int .i64 z1) (z := .int .i64 z2) hv7.out)
          have hqf := Hidd.mk (((hq7.out.far (p := ⟨H, 0, none⟩) hgH.2.1 hgH.1 (.int .i64 z0)).far (p := ⟨H, 1, none⟩) hgH.2.1 hgH.1 (.int .i64 z1)).far (p := ⟨H, 2, none⟩) hgH.2.1 hgH.1 (.int .i64 z2))
          have hkf := Hidd.mk (hk7.out.trans' (((Kept.setCell (S := (· = H)) _ ⟨H, 0, none⟩ (.int .i64 z0) rfl).trans (Kept.setCell _ ⟨H, 1, none⟩ (.int .i64 z1) rfl)).trans (Kept.setCell _ ⟨H, 2, none⟩ (.int .i64 z2) rfl)) (fun i hi e => by omega))
          go_wp2
          generalize ((World.setCell _ ⟨H, 0, none⟩ (.int .i64 z0)).setCell ⟨H, 1, none⟩ (.int .i64 z1)).setCell ⟨H, 2, none⟩ (.int .i64 z2) = Wf at hf hqf hkf ⊢
          have r0 := cell_of_row _ H 0 _ _ _ hf.out
          have r1 := cell_of_row _ H 1 _ _ _ hf.out
          have r2 := cell_of_row _ H 2 _ _ _ hf.out
          simp at r0 r1 r2
          refine bodyPost_ret (v := .tuple #[.agg #[.int .i64 z0, .int .i64 z1, .int .i64 z2], .nilIface]) (by simp [results, Try.results16, go_sem, r0, r1, r2]) rfl ⟨rfl, ?_, hkf.out⟩
          rw [hl1'.out, ← hs6.out, hst.out]
          exact hqf.out
        · have him : i < m' ∧ m' < last := by omega
          have hii : i < last := by omega
          obtain ⟨x, hx⟩ : ∃ x, l'[i]? = some x := ⟨_, List.getElem?_eq_getElem (by rw [hq7.out.ll]; omega)⟩
          obtain ⟨y, hy⟩ : ∃ x, l'[m']? = some x := ⟨_, List.getElem?_eq_getElem (by rw [hq7.out.ll]; omega)⟩
          have hst := Hidd.mk (siftDown_step hp7.out hmi hx hy)
          obtain ⟨q0, q1, q2, q3⟩ := x
          obtain ⟨r0, r1, r2, r3⟩ := y
          replace hx := Hidd.mk hx
          replace hy := Hidd.mk hy
          have bi0 : (0 : Int) ≤ (i : Int) := by omega
          have bi1 : (i : Int) < (last : Int) := by omega
          have bu0 : (0 : Int) ≤ (m' : Int) := by omega
          have bu1 : (m' : Int) < (last : Int) := by omega
          have bne : ((m' : Int) == (i : Int)) = false := by simp; omega
          have hmes : Hidd (i < m' ∧ m' < last) := ⟨him⟩
          have hgHs := Hidd.mk hgH
          have hlt := him.1
          go_wp2
          obtain ⟨wy, hwy⟩ : ∃ zz, zz = World.drew wr := ⟨_, rfl⟩
          refine wp_region_order [9] [0, 1, 2, 3, 4, 5, 6, 7, 8, 10, 11, 12, 13, 14, 15, 16, 17, 18, 19, 20, 21, 22, 23, 24] [25, 26, 27] (by kernel_rfl) (by kernel_rfl) ?_
          rw [show ({ wr with drawn := wr.drawn + 1 } : World) = wy from hwy.symm]
          replace hwy := Hidd.mk hwy
          simp only [List.map_cons, List.map_nil, List.getD_cons_succ, List.getD_cons_zero]
          have hq7' : Hidd (QIn wy base b (some ⟨g, 0, none⟩) last cap l' n) := ⟨by rw [hwy.out]; exact hq7.out.drew⟩
          have hk7' : Hidd (Kept (fun i => i = b ∨ i = g) w wy) := ⟨by rw [hwy.out]; exact hk7.out.trans (Kept.drew _ _)⟩
          have hv7' : Hidd (wy.heap[H]? = some (.cells #[.int .i64 0, .int .i64 0, .int .i64 0] 28 (0, 0))) := ⟨by rw [hwy.out]; exact hv7.out⟩
          have hu7' : Hidd (wy.heap[H + 1]? = some (.cells #[.int .i64 z0, .int .i64 z1, .int .i64 z2, .int .i64 z3] 93 (0, 0))) := ⟨by rw [hwy.out]; exact hu7.out⟩
          obtain ⟨x0, x1, x2, x3⟩ := hq7'.out.at_ hx.out
          obtain ⟨y0, y1, y2, y3⟩ := hq7'.out.at_ hy.out
          have c0 := hq7'.out.c0
          simp only at x0 x1 x2 x3 y0 y1 y2 y3
          have fx0 := hq7'.out.own.frozenAt (i * 4)
          have fx1 := hq7'.out.own.frozenAt (i * 4 + 1)
          have fx2 := hq7'.out.own.frozenAt (i * 4 + 2)
          have fx3 := hq7'.out.own.frozenAt (i * 4 + 3)
          have fy0 := hq7'.out.own.frozenAt (m' * 4)
          have fy1 := hq7'.out.own.frozenAt (m' * 4 + 1)
          have fy2 := hq7'.out.own.frozenAt (m' * 4 + 2)
          have fy3 := hq7'.out.own.frozenAt (m' * 4 + 3)
          repeat (refine StW.go (by rfl) (fun K hK => ?_); go_simp; refine hK.out _ ?_; clear hK K)
          refine StW.nil ?_
          show StW _ _ _ _ _ _
          repeat (refine StW.go (by rfl) (fun K hK => ?_); go_simp; refine hK.out _ ?_; clear hK K)
          refine StW.nil ?_
          clear hk1 hk2 hi hgH hm him hii hj hj2 bl0 bl1 bl2 bl3 hgb hmi bne hl hH hwy
          go_wp2
          refine Calm.normal ?_
          go_wp2
          go_roundw
          case rel =>
            clear x0 x1 x2 x3 y0 y1 y2 y3 fx0 fx1 fx2 fx3 fy0 fy1 fy2 fy3 c0 hlt bi0 bi1 bu0 bu1
            have hq8 := Hidd.mk (((hq7'.out.put i ⟨r0, r1, r2, r3⟩).put m' ⟨q0, q1, q2, q3⟩))
            have hk8 := Hidd.mk (hk7'.out.trans (((Kept.put _ g i ⟨r0, r1, r2, r3⟩ (.inr rfl)).trans (Kept.put _ g m' ⟨q0, q1, q2, q3⟩ (.inr rfl)))))
            have hv8 := Hidd.mk ((((Kept.put (S := (· = g)) _ g i ⟨r0, r1, r2, r3⟩ rfl).trans (Kept.put _ g m' ⟨q0, q1, q2, q3⟩ rfl))).row (fun e => hgHs.out.1 e.symm) hv7'.out)
            have hu8 := Hidd.mk ((((Kept.put (S := (· = g)) _ g i ⟨r0, r1, r2, r3⟩ rfl).trans (Kept.put _ g m' ⟨q0, q1, q2, q3⟩ rfl))).row (fun e => hgHs.out.2.2.1 e.symm) hu7'.out)
            exact ⟨m', _, rfl, .inr hmes.out.2, ⟨hst.out.symm.trans hs6.out⟩, hq8, hk8, hv8, hu8⟩
          case measure => have := hmes.out; simp [intOf]; omega
end Go.Proofs.Ytjejkmnlkmcckaa
