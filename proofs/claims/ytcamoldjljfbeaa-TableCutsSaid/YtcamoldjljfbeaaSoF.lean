/- The routes, in plain words, and as the program looks at them. -/
import Derived.Test.YtcamoldjljfbeaaSoE
namespace Go.Proofs.Ytcamoldjljfbeaa
open Go.RowKit

def qat (qs : List Qt) (z : Int) : Qt := qs.getD z.toNat ⟨0, 0, false, 0, 0, 0⟩
def ends (a b : Qt) : Bool := !a.out || b.out || decide (a.kind ≠ b.kind) || decide (b.size < a.size)
def same (r q : Rt) : Bool := decide (q.dst = r.dst)
def rouBad (qs : List Qt) (pre : List Rt) (r : Rt) : Bool := ends (qat qs r.src) (qat qs r.dst) || pre.any (same r)
def rouF (qs : List Qt) : List Rt → List Rt → Nat → Option Nat
  | _, [], _ => none
  | pre, p :: l, i => if rouBad qs pre p then some i else rouF qs (pre ++ [p]) l (i + 1)
theorem rouF_step {qs : List Qt} {rs : List Rt} {i : Nat} {p : Rt} (h : rs[i]? = some p) : rouF qs (rs.take i) (rs.drop i) i = if rouBad qs (rs.take i) p then some i else rouF qs (rs.take (i + 1)) (rs.drop (i + 1)) (i + 1) := by
  rw [drop_at h, rouF, ← take_one h]
theorem qat_nat (qs : List Qt) (k : Nat) (x : Qt) (h : qs[k]? = some x) : qat qs (k : Int) = x := by
  unfold qat
  rw [Int.toNat_natCast, List.getD_eq_getElem?_getD, h]; rfl
theorem rt_nat {r : Rt} {m : Nat} (h : rtB r (m : Int) = true) : ∃ s t : Nat, r = ⟨(s : Int), (t : Int)⟩ ∧ s < m ∧ t < m := by
  obtain ⟨x, y⟩ := r
  simp only [rtB, inB, Bool.and_eq_true, decide_eq_true_eq] at h
  exact ⟨x.toNat, y.toNat, by rw [Rt.mk.injEq]; omega, by omega, by omega⟩
set_option maxRecDepth 100000
set_option maxHeartbeats 8000000
theorem routes_any (n f sl gp rh d0 d1 mg : Int) (PA : Option Addr) (pn pc : Nat) (OA : Option Addr) (on oc : Nat) (RA : Option Addr) (rn rc : Nat) (qs : List Qt) (rs : List Rt) (w : World) (hQ : At Qt.cells w OA on qs) (hR : At Rt.cells w RA rn rs) (hi : ∀ p ∈ rs, rtB p (on : Int) = true) (_hon : on ≤ 24) (hrn : rn ≤ 24) (hrc : rn ≤ rc) (_hrm : rc ≤ 9223372036854775807) (r : Int) (hr : ansI (rouF qs [] rs 0) = r) :
    Calls Try.prog 55 #[.agg #[.int .i64 n, .int .i64 f, .int .i64 sl, .int .i64 gp, .int .i64 rh, .int .i64 d0, .int .i64 d1, .int .i64 mg, .slice PA pn pc, .slice OA on oc, .slice RA rn rc]] w fun e w' => e = .returned (.int .i64 r) ∧ Below w.heap.size w w' := by
  have ho := Hidd.mk ((Own.nil w (fun _ => False)).alloc (.cells #[.int .i64 n, .int .i64 f, .int .i64 sl, .int .i64 gp, .int .i64 rh, .int .i64 d0, .int .i64 d1, .int .i64 mg, .slice PA pn pc, .slice OA on oc, .slice RA rn rc] 26))
  have hrl := Hidd.mk hR.1
  have hql := Hidd.mk hQ.1
  replace hQ := Hidd.mk hQ
  replace hR := Hidd.mk hR
  replace hi := Hidd.mk hi
  replace hr := Hidd.mk hr
  go_enter Try.func55, Try.ntmps55
  go_wp2
  generalize w.heap.size = p1 at ho ⊢
  generalize World.alloc w _ = wa at ho ⊢
  go_loopw [12] (fun v12 wr => ∃ i : Nat, v12 = .int .i64 i ∧ i ≤ rn ∧ Hidd (rouF qs (rs.take i) (rs.drop i) i = rouF qs [] rs 0) ∧ Hidd (Own w (fun _ => False) wr [blk p1 (.cells #[.int .i64 n, .int .i64 f, .int .i64 sl, .int .i64 gp, .int .i64 rh, .int .i64 d0, .int .i64 d1, .int .i64 mg, .slice PA pn pc, .slice OA on oc, .slice RA rn rc] 26)])) (fun v12 _ => rn - (intOf v12).toNat)
  case atStart => exact ⟨0, rfl, Nat.zero_le _, ⟨rfl⟩, ho⟩
  case round =>
    clear ho
    obtain ⟨i, rfl, hil, hre, ho⟩ := hrel
    obtain ⟨x0, x1, x2, x3, x4, x5, x6, x7, x8, x9, xA⟩ := cells11 ho.out 0 rfl
    have hlt1 := ho.out.lt 0 rfl
    by_cases hlt : i < rn
    · obtain ⟨p, hp⟩ : ∃ x, rs[i]? = some x := ⟨_, List.getElem?_eq_getElem (by rw [hrl.out]; exact hlt)⟩
      obtain ⟨s, t, rfl, hs, ht⟩ := rt_nat (hi.out p (List.mem_of_getElem? hp))
      obtain ⟨a, rfl, y0, y1⟩ := (hR.out.below (ho.out.below fun _ => id)).route hp
      obtain ⟨qa, hqa⟩ : ∃ x, qs[s]? = some x := ⟨_, List.getElem?_eq_getElem (by rw [hql.out]; exact hs)⟩
      obtain ⟨qb, hqb⟩ : ∃ x, qs[t]? = some x := ⟨_, List.getElem?_eq_getElem (by rw [hql.out]; exact ht)⟩
      have hdr := hre.out
      rw [rouF_step hp, rouBad] at hdr
      simp only [qat_nat _ _ _ hqa, qat_nat _ _ _ hqb] at hdr
      replace hdr := Hidd.mk hdr
      have hyl := World.block_lt_of_cell? wr _ y0
      have bi0 : (0 : Int) ≤ (i : Int) := by omega
      have bi1 : (i : Int) < (rn : Int) := by omega
      have bs0 : (0 : Int) ≤ (s : Int) := by omega
      have bs1 : (s : Int) < (on : Int) := by omega
      have bt0 : (0 : Int) ≤ (t : Int) := by omega
      have bt1 : (t : Int) < (on : Int) := by omega
      have ho4 := Hidd.mk (ho.out.alloc (.cells #[.int .i64 (s : Int), .int .i64 (t : Int)] 41))
      simp only at y0 y1
      clear hp hre
      go_wp2
      generalize wr.heap.size = p4 at ho4 ⊢
      generalize World.alloc wr _ = wb at ho4 ⊢
      clear x0 x1 x2 x3 x4 x5 x6 x7 x8 x9 xA y0 y1 hyl hlt1
      obtain ⟨W0, hW0⟩ : ∃ zz, zz = World.drew wb := ⟨_, rfl⟩
      refine wp_region_tree (.two [0, 2, 6, 8, 1, 3, 7, 9, 4, 10, 5, 11] 12 [true] (.one [] 13 [false, true] (.one [] 14 [false, false, true] (.one [] 15 [false, false, false, false] (.leaf [])))) 13 [true] (.one [] 12 [false, true] (.one [] 14 [false, false, true] (.one [] 15 [false, false, false, false] (.leaf []))))) (by kernel_rfl) (by kernel_rfl) ?_
      rw [show ({ wb with drawn := wb.drawn + 1 } : World) = W0 from hW0.symm]
      replace hW0 := Hidd.mk hW0
      simp only [Tr.map, List.map_cons, List.map_nil, List.getD_cons_succ, List.getD_cons_zero]
      have ho2 := Hidd.mk (show Own w (fun _ => False) W0 _ by rw [hW0.out]; exact ho4.out.drew)
      clear hW0 ho4
      obtain ⟨x0, x1, x2, x3, x4, x5, x6, x7, x8, x9, xA⟩ := cells11 ho2.out 1 rfl
      have y0 := ho2.out.cell 0 rfl 0
      have y1 := ho2.out.cell 0 rfl 1
      simp at y0 y1
      obtain ⟨aq, rfl, u0, u1, u2, u3, u4, u5⟩ := (hQ.out.below (ho2.out.below fun _ => id)).port hqa
      obtain ⟨aq', eq, v0, v1, v2, v3, v4, v5⟩ := (hQ.out.below (ho2.out.below fun _ => id)).port hqb
      injection eq with eq
      subst eq
      obtain ⟨b0, b1, b2, b3, b4, b5⟩ := qa
      obtain ⟨c0, c1, c2, c3, c4, c5⟩ := qb
      simp only at u0 u1 u2 u3 u4 u5 v0 v1 v2 v3 v4 v5
      have hpl := ho2.out.lt 0 rfl
      have hpl1 := ho2.out.lt 1 rfl
      have hul := World.block_lt_of_cell? W0 _ u0
      have hul2 := World.block_lt_of_cell? W0 _ v0
      have ho := Hidd.mk (Own.nil W0 (fun _ => False))
      clear hqa hqb
      refine TrW.two (fun zz => Kept (fun _ => False) W0 zz) (Kept.refl _ _) ?_
      repeat (first | (refine StQ.skip (by rfl) ?_; simp only [Act.put, List.setIfInBounds_toArray, List.set_cons_zero, List.set_cons_succ]) | (refine StQ.go' (by rfl) (Exists.intro ?_ (And.intro (fun w' hS => ?_) ?_)); rotate_left; (focus (have hc := Kept.cell0 hS; go_simp; try with_reducible rfl)); simp only [Act.put, List.setIfInBounds_toArray, List.set_cons_zero, List.set_cons_succ]))
      refine StQ.nil ?_
      clear x0 x1 x2 x3 x4 x5 x6 x7 x8 x9 xA y0 y1 u0 u1 u2 u3 u4 u5 v0 v1 v2 v3 v4 v5 hpl1 hul hul2
      refine ⟨?_, ?_⟩
      focus
        (refine TrO.go (by rfl) (fun K hK => ?_); go_simp; have ho1 := ho.out.alloc (.cells #[.int .i64 0, .int .u8 0, .bool false, .int .i64 0, .int .i64 0, .int .i64 0] 44); refine hK.out _ _ (.inr (by first | exact ⟨ho1.kept, trivial⟩ | exact trivial)) ?_; clear hK K ho; generalize (World.heap _).size = p5 at ho1 ⊢; generalize World.alloc _ _ = W1 at ho1 ⊢; have ho := Hidd.mk ho1; clear ho1)
        (refine TrW.one (fun _ => True) trivial (StQ.nil ?_))
        (refine TrO.go (by rfl) (fun K hK => ?_); go_simp; have ho1 := ho.out.alloc (.cells #[.int .i64 0, .int .u8 0, .bool false, .int .i64 0, .int .i64 0, .int .i64 0] 44); refine hK.out _ _ (.inr (by first | exact ⟨ho1.kept, trivial⟩ | exact trivial)) ?_; clear hK K ho; generalize (World.heap _).size = p6 at ho1 ⊢; generalize World.alloc _ _ = W1 at ho1 ⊢; have ho := Hidd.mk ho1; clear ho1)
        (refine TrW.one (fun _ => True) trivial (StQ.nil ?_))
        (refine TrO.go (by rfl) (fun K hK => ?_); have e0 := ho.out.cell 1 rfl 0; have f0 := ho.out.frozen 1 rfl 0; have e1 := ho.out.cell 1 rfl 1; have f1 := ho.out.frozen 1 rfl 1; have e2 := ho.out.cell 1 rfl 2; have f2 := ho.out.frozen 1 rfl 2; have e3 := ho.out.cell 1 rfl 3; have f3 := ho.out.frozen 1 rfl 3; have e4 := ho.out.cell 1 rfl 4; have f4 := ho.out.frozen 1 rfl 4; have e5 := ho.out.cell 1 rfl 5; have f5 := ho.out.frozen 1 rfl 5; simp at e0 e1 e2 e3 e4 e5; go_simp; have ho1 := (((((ho.out.set 1 rfl 0 (.int .i64 b0)).set 1 rfl 1 (.int .u8 (b1 : Nat))).set 1 rfl 2 (.bool b2)).set 1 rfl 3 (.int .i64 b3)).set 1 rfl 4 (.int .i64 b4)).set 1 rfl 5 (.int .i64 b5); simp only [List.set_cons_zero, List.set_cons_succ, List.setIfInBounds_toArray] at ho1; refine hK.out _ _ (.inr (by first | exact ⟨ho1.kept, trivial⟩ | exact trivial)) ?_; clear hK K ho e0 e1 e2 e3 e4 e5 f0 f1 f2 f3 f4 f5; generalize World.setCell _ _ _ = W1 at ho1 ⊢; have ho := Hidd.mk ho1; clear ho1)
        (refine TrW.one (fun _ => True) trivial (StQ.nil ?_))
        (refine TrO.go (by rfl) (fun K hK => ?_); have e0 := ho.out.cell 0 rfl 0; have f0 := ho.out.frozen 0 rfl 0; have e1 := ho.out.cell 0 rfl 1; have f1 := ho.out.frozen 0 rfl 1; have e2 := ho.out.cell 0 rfl 2; have f2 := ho.out.frozen 0 rfl 2; have e3 := ho.out.cell 0 rfl 3; have f3 := ho.out.frozen 0 rfl 3; have e4 := ho.out.cell 0 rfl 4; have f4 := ho.out.frozen 0 rfl 4; have e5 := ho.out.cell 0 rfl 5; have f5 := ho.out.frozen 0 rfl 5; simp at e0 e1 e2 e3 e4 e5; go_simp; have ho1 := (((((ho.out.set 0 rfl 0 (.int .i64 c0)).set 0 rfl 1 (.int .u8 (c1 : Nat))).set 0 rfl 2 (.bool c2)).set 0 rfl 3 (.int .i64 c3)).set 0 rfl 4 (.int .i64 c4)).set 0 rfl 5 (.int .i64 c5); simp only [List.set_cons_zero, List.set_cons_succ, List.setIfInBounds_toArray] at ho1; refine hK.out _ _ (.inr (by first | exact ⟨ho1.kept, trivial⟩ | exact trivial)) ?_; clear hK K ho e0 e1 e2 e3 e4 e5 f0 f1 f2 f3 f4 f5; generalize World.setCell _ _ _ = W1 at ho1 ⊢; have ho := Hidd.mk ho1; clear ho1)
        (refine TrW.leaf (fun _ => True) trivial (StQ.nil ?_))
        refine Calm.normal ?_
        have hL := Hidd.mk ((ho2.out.madeL ho.out).reorder (M := [blk p6 (.cells #[.int .i64 c0, .int .u8 (c1 : Nat), .bool c2, .int .i64 c3, .int .i64 c4, .int .i64 c5] 44), blk p5 (.cells #[.int .i64 b0, .int .u8 (b1 : Nat), .bool b2, .int .i64 b3, .int .i64 b4, .int .i64 b5] 44), blk p4 (.cells #[.int .i64 (s : Int), .int .i64 (t : Int)] 41), blk p1 (.cells #[.int .i64 n, .int .i64 f, .int .i64 sl, .int .i64 gp, .int .i64 rh, .int .i64 d0, .int .i64 d1, .int .i64 mg, .slice PA pn pc, .slice (some aq) on oc, .slice (some a) rn rc] 26)]) [0, 1, 2, 3] rfl (by decide))
        clear ho ho2 hpl
      rotate_left
      focus
        (refine TrO.go (by rfl) (fun K hK => ?_); go_simp; have ho1 := ho.out.alloc (.cells #[.int .i64 0, .int .u8 0, .bool false, .int .i64 0, .int .i64 0, .int .i64 0] 44); refine hK.out _ _ (.inr (by first | exact ⟨ho1.kept, trivial⟩ | exact trivial)) ?_; clear hK K ho; generalize (World.heap _).size = p6 at ho1 ⊢; generalize World.alloc _ _ = W1 at ho1 ⊢; have ho := Hidd.mk ho1; clear ho1)
        (refine TrW.one (fun _ => True) trivial (StQ.nil ?_))
        (refine TrO.go (by rfl) (fun K hK => ?_); go_simp; have ho1 := ho.out.alloc (.cells #[.int .i64 0, .int .u8 0, .bool false, .int .i64 0, .int .i64 0, .int .i64 0] 44); refine hK.out _ _ (.inr (by first | exact ⟨ho1.kept, trivial⟩ | exact trivial)) ?_; clear hK K ho; generalize (World.heap _).size = p5 at ho1 ⊢; generalize World.alloc _ _ = W1 at ho1 ⊢; have ho := Hidd.mk ho1; clear ho1)
        (refine TrW.one (fun _ => True) trivial (StQ.nil ?_))
        (refine TrO.go (by rfl) (fun K hK => ?_); have e0 := ho.out.cell 0 rfl 0; have f0 := ho.out.frozen 0 rfl 0; have e1 := ho.out.cell 0 rfl 1; have f1 := ho.out.frozen 0 rfl 1; have e2 := ho.out.cell 0 rfl 2; have f2 := ho.out.frozen 0 rfl 2; have e3 := ho.out.cell 0 rfl 3; have f3 := ho.out.frozen 0 rfl 3; have e4 := ho.out.cell 0 rfl 4; have f4 := ho.out.frozen 0 rfl 4; have e5 := ho.out.cell 0 rfl 5; have f5 := ho.out.frozen 0 rfl 5; simp at e0 e1 e2 e3 e4 e5; go_simp; have ho1 := (((((ho.out.set 0 rfl 0 (.int .i64 b0)).set 0 rfl 1 (.int .u8 (b1 : Nat))).set 0 rfl 2 (.bool b2)).set 0 rfl 3 (.int .i64 b3)).set 0 rfl 4 (.int .i64 b4)).set 0 rfl 5 (.int .i64 b5); simp only [List.set_cons_zero, List.set_cons_succ, List.setIfInBounds_toArray] at ho1; refine hK.out _ _ (.inr (by first | exact ⟨ho1.kept, trivial⟩ | exact trivial)) ?_; clear hK K ho e0 e1 e2 e3 e4 e5 f0 f1 f2 f3 f4 f5; generalize World.setCell _ _ _ = W1 at ho1 ⊢; have ho := Hidd.mk ho1; clear ho1)
        (refine TrW.one (fun _ => True) trivial (StQ.nil ?_))
        (refine TrO.go (by rfl) (fun K hK => ?_); have e0 := ho.out.cell 1 rfl 0; have f0 := ho.out.frozen 1 rfl 0; have e1 := ho.out.cell 1 rfl 1; have f1 := ho.out.frozen 1 rfl 1; have e2 := ho.out.cell 1 rfl 2; have f2 := ho.out.frozen 1 rfl 2; have e3 := ho.out.cell 1 rfl 3; have f3 := ho.out.frozen 1 rfl 3; have e4 := ho.out.cell 1 rfl 4; have f4 := ho.out.frozen 1 rfl 4; have e5 := ho.out.cell 1 rfl 5; have f5 := ho.out.frozen 1 rfl 5; simp at e0 e1 e2 e3 e4 e5; go_simp; have ho1 := (((((ho.out.set 1 rfl 0 (.int .i64 c0)).set 1 rfl 1 (.int .u8 (c1 : Nat))).set 1 rfl 2 (.bool c2)).set 1 rfl 3 (.int .i64 c3)).set 1 rfl 4 (.int .i64 c4)).set 1 rfl 5 (.int .i64 c5); simp only [List.set_cons_zero, List.set_cons_succ, List.setIfInBounds_toArray] at ho1; refine hK.out _ _ (.inr (by first | exact ⟨ho1.kept, trivial⟩ | exact trivial)) ?_; clear hK K ho e0 e1 e2 e3 e4 e5 f0 f1 f2 f3 f4 f5; generalize World.setCell _ _ _ = W1 at ho1 ⊢; have ho := Hidd.mk ho1; clear ho1)
        (refine TrW.leaf (fun _ => True) trivial (StQ.nil ?_))
        refine Calm.normal ?_
        have hL := Hidd.mk ((ho2.out.madeL ho.out).reorder (M := [blk p6 (.cells #[.int .i64 c0, .int .u8 (c1 : Nat), .bool c2, .int .i64 c3, .int .i64 c4, .int .i64 c5] 44), blk p5 (.cells #[.int .i64 b0, .int .u8 (b1 : Nat), .bool b2, .int .i64 b3, .int .i64 b4, .int .i64 b5] 44), blk p4 (.cells #[.int .i64 (s : Int), .int .i64 (t : Int)] 41), blk p1 (.cells #[.int .i64 n, .int .i64 f, .int .i64 sl, .int .i64 gp, .int .i64 rh, .int .i64 d0, .int .i64 d1, .int .i64 mg, .slice PA pn pc, .slice (some aq) on oc, .slice (some a) rn rc] 26)]) [1, 0, 2, 3] rfl (by decide))
        clear ho ho2 hpl
      all_goals obtain ⟨x0, x1, x2, x3, x4, x5, x6, x7, x8, x9, xA⟩ := cells11 hL.out 3 rfl
      all_goals have z1 := hL.out.cell 1 rfl 1
      all_goals have z2 := hL.out.cell 1 rfl 2
      all_goals have z3 := hL.out.cell 1 rfl 3
      all_goals have t1 := hL.out.cell 0 rfl 1
      all_goals have t2 := hL.out.cell 0 rfl 2
      all_goals have t3 := hL.out.cell 0 rfl 3
      all_goals simp at z1 z2 z3 t1 t2 t3
      all_goals have hdd := hdr.out
      all_goals simp only [ends] at hdd
      all_goals clear hdr
      all_goals (rcases b2 with _ | _)
      focus
       have hres : Hidd (r = (i : Int)) := ⟨by rw [← hr.out, ← hdd]; simp [ansI]⟩
       clear hdd
       go_wp2
       go_ret
       exact ⟨ret_int hres.out.symm, hL.out.below fun _ => id⟩
      rotate_left
      focus
       have hres : Hidd (r = (i : Int)) := ⟨by rw [← hr.out, ← hdd]; simp [ansI]⟩
       clear hdd
       go_wp2
       go_ret
       exact ⟨ret_int hres.out.symm, hL.out.below fun _ => id⟩
      all_goals (rcases c2 with _ | _)
      rotate_left
      focus
       have hres : Hidd (r = (i : Int)) := ⟨by rw [← hr.out, ← hdd]; simp [ansI]⟩
       clear hdd
       go_wp2
       go_ret
       exact ⟨ret_int hres.out.symm, hL.out.below fun _ => id⟩
      rotate_left
      focus
       have hres : Hidd (r = (i : Int)) := ⟨by rw [← hr.out, ← hdd]; simp [ansI]⟩
       clear hdd
       go_wp2
       go_ret
       exact ⟨ret_int hres.out.symm, hL.out.below fun _ => id⟩
      all_goals by_cases hk1 : b1 = c1
      rotate_left
      focus
       have ek : ((b1 : Int) != (c1 : Int)) = true := by rw [bne_iff_ne]; omega
       have hres : Hidd (r = (i : Int)) := ⟨by rw [← hr.out, ← hdd]; simp [ansI, hk1]⟩
       clear hdd
       go_wp2
       go_ret
       exact ⟨ret_int hres.out.symm, hL.out.below fun _ => id⟩
      rotate_left
      focus
       have ek : ((b1 : Int) != (c1 : Int)) = true := by rw [bne_iff_ne]; omega
       have hres : Hidd (r = (i : Int)) := ⟨by rw [← hr.out, ← hdd]; simp [ansI, hk1]⟩
       clear hdd
       go_wp2
       go_ret
       exact ⟨ret_int hres.out.symm, hL.out.below fun _ => id⟩
      all_goals subst hk1
      all_goals by_cases hk3 : c3 < b3
      focus
       have ek : decide (c3 < b3) = true := by simpa using hk3
       have hres : Hidd (r = (i : Int)) := ⟨by rw [← hr.out, ← hdd]; simp [ansI, hk3]⟩
       clear hdd
       go_wp2
       go_ret
       exact ⟨ret_int hres.out.symm, hL.out.below fun _ => id⟩
      rotate_left
      focus
       have ek : decide (c3 < b3) = true := by simpa using hk3
       have hres : Hidd (r = (i : Int)) := ⟨by rw [← hr.out, ← hdd]; simp [ansI, hk3]⟩
       clear hdd
       go_wp2
       go_ret
       exact ⟨ret_int hres.out.symm, hL.out.below fun _ => id⟩
      all_goals have ek : decide (c3 < b3) = false := by simpa using hk3
      all_goals simp [hk3] at hdd
      all_goals have hdr := Hidd.mk hdd
      all_goals clear hk3 hdd
      all_goals go_wp2
      all_goals clear x0 x1 x2 x3 x4 x5 x6 x7 x8 x9 xA z1 z2 z3 t1 t2 t3
      all_goals go_loopw [56] (fun v56 wz => ∃ k : Nat, v56 = .int .i64 k ∧ k ≤ i ∧ Hidd ((rs.take k).any (same ⟨(s : Int), (t : Int)⟩) = false) ∧ Hidd (Own w (fun _ => False) wz [blk p4 (.cells #[.int .i64 (s : Int), .int .i64 (t : Int)] 41), blk p1 (.cells #[.int .i64 n, .int .i64 f, .int .i64 sl, .int .i64 gp, .int .i64 rh, .int .i64 d0, .int .i64 d1, .int .i64 mg, .slice PA pn pc, .slice (some aq) on oc, .slice (some a) rn rc] 26)])) (fun v56 _ => i - (intOf v56).toNat)
      all_goals first
        | (case atStart => exact ⟨0, rfl, Nat.zero_le _, ⟨rfl⟩, ⟨hL.out.tail.tail⟩⟩)
        | skip
      all_goals (case round =>
        clear hL
        obtain ⟨k, rfl, hk, hcl, ho4⟩ := hrel
        by_cases hlk : k < i
        · obtain ⟨q, hq⟩ : ∃ x, rs[k]? = some x := ⟨_, List.getElem?_eq_getElem (by rw [hrl.out]; omega)⟩
          obtain ⟨s', t', rfl, _, _⟩ := rt_nat (hi.out q (List.mem_of_getElem? hq))
          obtain ⟨a', ea, y0, y1⟩ := (hR.out.below (ho4.out.below fun _ => id)).route hq
          injection ea with ea
          subst ea
          have hst := any_take (f := same ⟨(s : Int), (t : Int)⟩) hq
          have hat := any_at (f := same ⟨(s : Int), (t : Int)⟩) hq hlk
          rw [hcl.out, Bool.false_or] at hst
          have z1 := ho4.out.cell 0 rfl 1
          simp at z1
          simp only at y0 y1
          have hyl := World.block_lt_of_cell? _ _ y0
          have hpl4 := ho4.out.lt 0 rfl
          have bk0 : (0 : Int) ≤ (k : Int) := by omega
          have bk1 : (k : Int) < (i : Int) := by omega
          clear hq hcl
          simp only [same] at hst hat
          by_cases c0 : t' = t
          · have e0 : ((t' : Int) == (t : Int)) = true := by rw [beq_iff_eq]; omega
            have hres : Hidd (r = (i : Int)) := ⟨by rw [← hr.out, ← hdr.out, if_pos]; rfl; simpa [same] using hat (by simp [c0])⟩
            clear c0 hst hat
            go_wp2
            go_ret
            exact ⟨ret_int hres.out.symm, ((ho4.out.alloc _).below fun _ => id)⟩
          · have e0 : ((t' : Int) == (t : Int)) = false := by rw [beq_eq_false_iff_ne]; omega
            have hn : Hidd ((rs.take (k + 1)).any (same ⟨(s : Int), (t : Int)⟩) = false) := ⟨by rw [hst]; simp; omega⟩
            clear c0 hst hat
            go_wp2
            go_roundw
            case rel => exact ⟨k + 1, by go_num, by omega, hn, ⟨(ho4.out.alloc _).tail⟩⟩
            case measure => (simp [intOf]; try omega)
        · obtain rfl : k = i := by omega
          have hn : Hidd (rouF qs (rs.take (k + 1)) (rs.drop (k + 1)) (k + 1) = rouF qs [] rs 0) := ⟨by rw [← hdr.out, if_neg]; rw [← List.any_eq_true, hcl.out]; decide⟩
          go_wp2
          go_roundw
          case rel => exact ⟨k + 1, by go_num, by omega, hn, ⟨ho4.out.tail⟩⟩
          case measure => (simp [intOf]; try omega))
    · obtain rfl : i = rn := by omega
      have hm0 : rouF qs [] rs 0 = none := by
        rw [← hre.out, List.drop_of_length_le (by rw [hrl.out]; exact Nat.le_refl _)]
        rfl
      have hres : Hidd (r = -1) := ⟨by rw [← hr.out, hm0]; rfl⟩
      clear hm0
      go_wp2
      go_ret
      exact ⟨ret_int hres.out.symm, ho.out.below fun _ => id⟩
end Go.Proofs.Ytcamoldjljfbeaa
