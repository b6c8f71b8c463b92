/- The reference's Same: of tables that say the same. -/
import Derived.Test.YtcamoldjljfbeaaSoA
import Derived.Test.YtcamoldjljfbeaaFlow
import Derived.Laws.StructEq
namespace Go.Proofs.Ytcamoldjljfbeaa
open Go.RowKit

theorem eqArr (a b c d : Int) (w : World) : (Op.equalIn 9999 36 (.agg #[.int .u8 a, .int .u8 b, .int .u8 c, .int .u8 d]) (.agg #[.int .u8 a, .int .u8 b, .int .u8 c, .int .u8 d])).run Try.prog w = .ok true w := by
  have u3 := Try.underlying35
  have a3 := Try.isAgg35
  have z3 := Try.sizeOf35
  rw [show (9999 : Nat) = 9998 + 1 from rfl, Op.equalIn]
  simp only [Sem.run_bind, run_underlying Try.underlying36, Result.andThen_ok]
  simp only [Std.Legacy.Range.forIn_eq_forIn_range', Std.Legacy.Range.size, Nat.sub_zero, Nat.add_sub_cancel, Nat.div_one, List.range'_succ, List.range'_zero, List.forIn_cons, List.forIn_nil]
  go_simp
set_option maxRecDepth 100000
set_option maxHeartbeats 8000000
theorem sameT_any (n f sl gp rh d0 d1 mg : Int) (PA : Option Addr) (pn pc : Nat) (OA : Option Addr) (on oc : Nat) (RA : Option Addr) (rn rc : Nat) (PB : Option Addr) (pc2 : Nat) (OB : Option Addr) (oc2 : Nat) (RB : Option Addr) (rc2 : Nat) (ps : List Pt) (qs : List Qt) (rs : List Rt) (w : World)
    (hP : At Pt.cells w PA pn ps) (hQ : At Qt.cells w OA on qs) (hR : At Rt.cells w RA rn rs) (hP2 : At Pt.cells w PB pn ps) (hQ2 : At Qt.cells w OB on qs) (hR2 : At Rt.cells w RB rn rs) (hpn : pn ≤ 1000) (hon : on ≤ 1000) (hrn : rn ≤ 1000) :
    Calls Try.prog 33 #[.agg #[.int .i64 n, .int .i64 f, .int .i64 sl, .int .i64 gp, .int .i64 rh, .int .i64 d0, .int .i64 d1, .int .i64 mg, .slice PA pn pc, .slice OA on oc, .slice RA rn rc], .agg #[.int .i64 n, .int .i64 f, .int .i64 sl, .int .i64 gp, .int .i64 rh, .int .i64 d0, .int .i64 d1, .int .i64 mg, .slice PB pn pc2, .slice OB on oc2, .slice RB rn rc2]] w fun e w' => e = .returned (.bool true) ∧ Below w.heap.size w w' := by
  have ho0 := ((Own.nil w (fun _ => False)).alloc (.cells #[.int .i64 n, .int .i64 f, .int .i64 sl, .int .i64 gp, .int .i64 rh, .int .i64 d0, .int .i64 d1, .int .i64 mg, .slice PA pn pc, .slice OA on oc, .slice RA rn rc] 26)).alloc (.cells #[.int .i64 n, .int .i64 f, .int .i64 sl, .int .i64 gp, .int .i64 rh, .int .i64 d0, .int .i64 d1, .int .i64 mg, .slice PB pn pc2, .slice OB on oc2, .slice RB rn rc2] 26)
  rw [show (w.alloc (.cells #[.int .i64 n, .int .i64 f, .int .i64 sl, .int .i64 gp, .int .i64 rh, .int .i64 d0, .int .i64 d1, .int .i64 mg, .slice PA pn pc, .slice OA on oc, .slice RA rn rc] 26)).heap.size = w.heap.size + 1 by simp] at ho0
  replace ho0 := Hidd.mk ho0
  have hpl := Hidd.mk hP.1
  have hql := Hidd.mk hQ.1
  have hrl := Hidd.mk hR.1
  replace hP := Hidd.mk hP
  replace hQ := Hidd.mk hQ
  replace hR := Hidd.mk hR
  replace hP2 := Hidd.mk hP2
  replace hQ2 := Hidd.mk hQ2
  replace hR2 := Hidd.mk hR2
  have heq := eqArr
  go_enter Try.func33, Try.ntmps33
  go_wp2
  generalize World.alloc (World.alloc w _) _ = W0 at ho0 ⊢
  generalize w.heap.size + 1 = p2 at ho0 ⊢
  generalize w.heap.size = p1 at ho0 ⊢
  go_loopw [5] (fun v5 wr => ∃ (i : Nat), v5 = .int .i64 i ∧ i ≤ pn ∧ Hidd (Own w (fun _ => False) wr [blk p2 (.cells #[.int .i64 n, .int .i64 f, .int .i64 sl, .int .i64 gp, .int .i64 rh, .int .i64 d0, .int .i64 d1, .int .i64 mg, .slice PB pn pc2, .slice OB on oc2, .slice RB rn rc2] 26), blk p1 (.cells #[.int .i64 n, .int .i64 f, .int .i64 sl, .int .i64 gp, .int .i64 rh, .int .i64 d0, .int .i64 d1, .int .i64 mg, .slice PA pn pc, .slice OA on oc, .slice RA rn rc] 26)])) (fun v5 _ => pn - (intOf v5).toNat)
  case atStart => exact ⟨0, rfl, Nat.zero_le _, ho0⟩
  case round =>
    clear ho0
    obtain ⟨i, rfl, hil, ho⟩ := hrel
    obtain ⟨x0, x1, x2, x3, x4, x5, x6, x7, x8, x9, xA⟩ := cells11 ho.out 1 rfl
    obtain ⟨y0, y1, y2, y3, y4, y5, y6, y7, y8, y9, yA⟩ := cells11 ho.out 0 rfl
    by_cases hlt : i < pn
    · obtain ⟨p, hp⟩ : ∃ x, ps[i]? = some x := ⟨_, List.getElem?_eq_getElem (by rw [hpl.out]; exact hlt)⟩
      replace hp := Hidd.mk hp
      have bi0 : (0 : Int) ≤ (i : Int) := by omega
      have bi1 : (i : Int) < (pn : Int) := by omega
      go_wp2
      clear x0 x1 x2 x3 x4 x5 x6 x7 x8 x9 xA y0 y1 y2 y3 y4 y5 y6 y7 y8 y9 yA
      obtain ⟨W1, hW1⟩ : ∃ zz, zz = World.drew wr := ⟨_, rfl⟩
      refine wp_region_flow [([0, 2, 5, 7, 1, 6, 3, 8, 4, 9, 10], none)] (by kernel_rfl) (by kernel_rfl) ?_
      rw [show ({ wr with drawn := wr.drawn + 1 } : World) = W1 from hW1.symm]
      replace hW1 := Hidd.mk hW1
      simp only [opsF, List.map_cons, List.map_nil, List.getD_cons_succ, List.getD_cons_zero, Option.map]
      have ho2 := Hidd.mk (show Own w (fun _ => False) W1 _ by rw [hW1.out]; exact ho.out.drew)
      clear hW1 ho
      obtain ⟨x0, x1, x2, x3, x4, x5, x6, x7, x8, x9, xA⟩ := cells11 ho2.out 1 rfl
      obtain ⟨y0, y1, y2, y3, y4, y5, y6, y7, y8, y9, yA⟩ := cells11 ho2.out 0 rfl
      obtain ⟨a, ea, u0, u1, u2, u3, u4, u5, u6, u7, u8⟩ := (hP.out.below (ho2.out.below fun _ => id)).part hp.out
      obtain ⟨b, eb, v0, v1, v2, v3, v4, v5, v6, v7, v8⟩ := (hP2.out.below (ho2.out.below fun _ => id)).part hp.out
      subst ea
      subst eb
      clear hp
      obtain ⟨q0, q1, q2, q3, q4, q5, q6, q7, q8⟩ := p
      (try simp only at u0 u1 u2 u3 u4 u5 u6 u7 u8 v0 v1 v2 v3 v4 v5 v6 v7 v8)
      refine FlW.heads (fun zz => zz = _) rfl ?_
      repeat (first | (refine StQ.skip (by rfl) ?_; simp only [Act.put, List.setIfInBounds_toArray, List.set_cons_zero, List.set_cons_succ]) | (refine StQ.go' (by rfl) (Exists.intro ?_ (And.intro (fun w' hS => ?_) ?_)); rotate_left; (focus (rw [hS]; go_simp; try with_reducible rfl)); simp only [Act.put, List.setIfInBounds_toArray, List.set_cons_zero, List.set_cons_succ]))
      refine StQ.nil ?_
      refine FlW.nil (Calm.normal ?_)
      clear x0 x1 x2 x3 x4 x5 x6 x7 x8 x9 xA y0 y1 y2 y3 y4 y5 y6 y7 y8 y9 yA u0 u1 u2 u3 u4 u5 u6 u7 u8 v0 v1 v2 v3 v4 v5 v6 v7 v8
      go_wp2
      go_roundw
      case rel => exact ⟨i + 1, by go_num, by omega, ho2⟩
      case measure => (simp [intOf]; try omega)
    · obtain rfl : pn = i := by omega
      go_wp2
      clear x0 x1 x2 x3 x4 x5 x6 x7 x8 x9 xA y0 y1 y2 y3 y4 y5 y6 y7 y8 y9 yA
      go_loopw [6] (fun v6 wr => ∃ (i : Nat), v6 = .int .i64 i ∧ i ≤ on ∧ Hidd (Own w (fun _ => False) wr [blk p2 (.cells #[.int .i64 n, .int .i64 f, .int .i64 sl, .int .i64 gp, .int .i64 rh, .int .i64 d0, .int .i64 d1, .int .i64 mg, .slice PB pn pc2, .slice OB on oc2, .slice RB rn rc2] 26), blk p1 (.cells #[.int .i64 n, .int .i64 f, .int .i64 sl, .int .i64 gp, .int .i64 rh, .int .i64 d0, .int .i64 d1, .int .i64 mg, .slice PA pn pc, .slice OA on oc, .slice RA rn rc] 26)])) (fun v6 _ => on - (intOf v6).toNat)
      case atStart => exact ⟨0, rfl, Nat.zero_le _, ho⟩
      case round =>
        clear ho
        obtain ⟨i, rfl, hil, ho⟩ := hrel
        obtain ⟨x0, x1, x2, x3, x4, x5, x6, x7, x8, x9, xA⟩ := cells11 ho.out 1 rfl
        obtain ⟨y0, y1, y2, y3, y4, y5, y6, y7, y8, y9, yA⟩ := cells11 ho.out 0 rfl
        by_cases hlt : i < on
        · obtain ⟨p, hp⟩ : ∃ x, qs[i]? = some x := ⟨_, List.getElem?_eq_getElem (by rw [hql.out]; exact hlt)⟩
          replace hp := Hidd.mk hp
          have bi0 : (0 : Int) ≤ (i : Int) := by omega
          have bi1 : (i : Int) < (on : Int) := by omega
          go_wp2
          clear x0 x1 x2 x3 x4 x5 x6 x7 x8 x9 xA y0 y1 y2 y3 y4 y5 y6 y7 y8 y9 yA
          obtain ⟨W1, hW1⟩ : ∃ zz, zz = World.drew wr := ⟨_, rfl⟩
          refine wp_region_flow [([0, 2, 5, 7, 1, 6, 3, 8, 4, 9, 10], none)] (by kernel_rfl) (by kernel_rfl) ?_
          rw [show ({ wr with drawn := wr.drawn + 1 } : World) = W1 from hW1.symm]
          replace hW1 := Hidd.mk hW1
          simp only [opsF, List.map_cons, List.map_nil, List.getD_cons_succ, List.getD_cons_zero, Option.map]
          have ho2 := Hidd.mk (show Own w (fun _ => False) W1 _ by rw [hW1.out]; exact ho.out.drew)
          clear hW1 ho
          obtain ⟨x0, x1, x2, x3, x4, x5, x6, x7, x8, x9, xA⟩ := cells11 ho2.out 1 rfl
          obtain ⟨y0, y1, y2, y3, y4, y5, y6, y7, y8, y9, yA⟩ := cells11 ho2.out 0 rfl
          obtain ⟨a, ea, u0, u1, u2, u3, u4, u5⟩ := (hQ.out.below (ho2.out.below fun _ => id)).port hp.out
          obtain ⟨b, eb, v0, v1, v2, v3, v4, v5⟩ := (hQ2.out.below (ho2.out.below fun _ => id)).port hp.out
          subst ea
          subst eb
          clear hp
          obtain ⟨q0, q1, q2, q3, q4, q5⟩ := p
          (try simp only at u0 u1 u2 u3 u4 u5 v0 v1 v2 v3 v4 v5)
          refine FlW.heads (fun zz => zz = _) rfl ?_
          repeat (first | (refine StQ.skip (by rfl) ?_; simp only [Act.put, List.setIfInBounds_toArray, List.set_cons_zero, List.set_cons_succ]) | (refine StQ.go' (by rfl) (Exists.intro ?_ (And.intro (fun w' hS => ?_) ?_)); rotate_left; (focus (rw [hS]; go_simp; try with_reducible rfl)); simp only [Act.put, List.setIfInBounds_toArray, List.set_cons_zero, List.set_cons_succ]))
          refine StQ.nil ?_
          refine FlW.nil (Calm.normal ?_)
          clear x0 x1 x2 x3 x4 x5 x6 x7 x8 x9 xA y0 y1 y2 y3 y4 y5 y6 y7 y8 y9 yA u0 u1 u2 u3 u4 u5 v0 v1 v2 v3 v4 v5
          go_wp2
          go_roundw
          case rel => exact ⟨i + 1, by go_num, by omega, ho2⟩
          case measure => (simp [intOf]; try omega)
        · obtain rfl : on = i := by omega
          go_wp2
          clear x0 x1 x2 x3 x4 x5 x6 x7 x8 x9 xA y0 y1 y2 y3 y4 y5 y6 y7 y8 y9 yA
          go_loopw [7] (fun v7 wr => ∃ (i : Nat), v7 = .int .i64 i ∧ i ≤ rn ∧ Hidd (Own w (fun _ => False) wr [blk p2 (.cells #[.int .i64 n, .int .i64 f, .int .i64 sl, .int .i64 gp, .int .i64 rh, .int .i64 d0, .int .i64 d1, .int .i64 mg, .slice PB pn pc2, .slice OB on oc2, .slice RB rn rc2] 26), blk p1 (.cells #[.int .i64 n, .int .i64 f, .int .i64 sl, .int .i64 gp, .int .i64 rh, .int .i64 d0, .int .i64 d1, .int .i64 mg, .slice PA pn pc, .slice OA on oc, .slice RA rn rc] 26)])) (fun v7 _ => rn - (intOf v7).toNat)
          case atStart => exact ⟨0, rfl, Nat.zero_le _, ho⟩
          case round =>
            clear ho
            obtain ⟨i, rfl, hil, ho⟩ := hrel
            obtain ⟨x0, x1, x2, x3, x4, x5, x6, x7, x8, x9, xA⟩ := cells11 ho.out 1 rfl
            obtain ⟨y0, y1, y2, y3, y4, y5, y6, y7, y8, y9, yA⟩ := cells11 ho.out 0 rfl
            by_cases hlt : i < rn
            · obtain ⟨p, hp⟩ : ∃ x, rs[i]? = some x := ⟨_, List.getElem?_eq_getElem (by rw [hrl.out]; exact hlt)⟩
              replace hp := Hidd.mk hp
              have bi0 : (0 : Int) ≤ (i : Int) := by omega
              have bi1 : (i : Int) < (rn : Int) := by omega
              go_wp2
              clear x0 x1 x2 x3 x4 x5 x6 x7 x8 x9 xA y0 y1 y2 y3 y4 y5 y6 y7 y8 y9 yA
              obtain ⟨W1, hW1⟩ : ∃ zz, zz = World.drew wr := ⟨_, rfl⟩
              refine wp_region_flow [([0, 2, 5, 7, 1, 6, 3, 8, 4, 9, 10], none)] (by kernel_rfl) (by kernel_rfl) ?_
              rw [show ({ wr with drawn := wr.drawn + 1 } : World) = W1 from hW1.symm]
              replace hW1 := Hidd.mk hW1
              simp only [opsF, List.map_cons, List.map_nil, List.getD_cons_succ, List.getD_cons_zero, Option.map]
              have ho2 := Hidd.mk (show Own w (fun _ => False) W1 _ by rw [hW1.out]; exact ho.out.drew)
              clear hW1 ho
              obtain ⟨x0, x1, x2, x3, x4, x5, x6, x7, x8, x9, xA⟩ := cells11 ho2.out 1 rfl
              obtain ⟨y0, y1, y2, y3, y4, y5, y6, y7, y8, y9, yA⟩ := cells11 ho2.out 0 rfl
              obtain ⟨a, ea, u0, u1⟩ := (hR.out.below (ho2.out.below fun _ => id)).route hp.out
              obtain ⟨b, eb, v0, v1⟩ := (hR2.out.below (ho2.out.below fun _ => id)).route hp.out
              subst ea
              subst eb
              clear hp
              obtain ⟨q0, q1⟩ := p
              (try simp only at u0 u1 v0 v1)
              refine FlW.heads (fun zz => zz = _) rfl ?_
              repeat (first | (refine StQ.skip (by rfl) ?_; simp only [Act.put, List.setIfInBounds_toArray, List.set_cons_zero, List.set_cons_succ]) | (refine StQ.go' (by rfl) (Exists.intro ?_ (And.intro (fun w' hS => ?_) ?_)); rotate_left; (focus (rw [hS]; go_simp; try with_reducible rfl)); simp only [Act.put, List.setIfInBounds_toArray, List.set_cons_zero, List.set_cons_succ]))
              refine StQ.nil ?_
              refine FlW.nil (Calm.normal ?_)
              clear x0 x1 x2 x3 x4 x5 x6 x7 x8 x9 xA y0 y1 y2 y3 y4 y5 y6 y7 y8 y9 yA u0 u1 v0 v1
              go_wp2
              go_roundw
              case rel => exact ⟨i + 1, by go_num, by omega, ho2⟩
              case measure => (simp [intOf]; try omega)
            · obtain rfl : rn = i := by omega
              go_wp2
              go_ret
              exact ⟨rfl, ho.out.below fun _ => id⟩
end Go.Proofs.Ytcamoldjljfbeaa
