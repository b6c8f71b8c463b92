/- The insertion sort of partitions by their windows' beginnings. -/
import Derived.Test.YtcamoldjljfbeaaSoS0
import Derived.BigRegion
namespace Go.Proofs.Ytcamoldjljfbeaa
open Go.RowKit

def cmpI (a b : Int) : Int := if a < b then -1 else if b < a then 1 else 0
theorem cmpI_lt (a b : Int) : decide (cmpI a b < 0) = decide (a < b) := by
  unfold cmpI
  by_cases h : a < b
  · simp [h]
  · rw [if_neg h]
    by_cases h2 : b < a <;> simp [h, h2]
theorem isNaN_any (a : Int) (w : World) : Calls Try.prog 92 #[.int .i64 a] w fun e w' => e = .returned (.bool false) ∧ w = w' := by
  go_enter Try.func92, Try.ntmps92
  go_wp2
  go_ret
  exact ⟨by simp, rfl⟩
set_option maxRecDepth 100000
set_option maxHeartbeats 8000000
theorem compare_any (a b : Int) (w : World) : Calls Try.prog 80 #[.int .i64 a, .int .i64 b] w fun e w' => e = .returned (.int .i64 (cmpI a b)) ∧ w = w' := by
  have key : (cmpI a b = -1 ∧ decide (a < b) = true) ∨ (cmpI a b = 1 ∧ decide (a < b) = false ∧ decide (b < a) = true) ∨ (cmpI a b = 0 ∧ decide (a < b) = false ∧ decide (b < a) = false) := by
    unfold cmpI
    by_cases h : a < b
    · exact .inl ⟨if_pos h, decide_eq_true h⟩
    · by_cases h2 : b < a
      · exact .inr (.inl ⟨by rw [if_neg h, if_pos h2], decide_eq_false h, decide_eq_true h2⟩)
      · exact .inr (.inr ⟨by rw [if_neg h, if_neg h2], decide_eq_false h, decide_eq_false h2⟩)
  rcases key with ⟨e, h1⟩ | ⟨e, h1, h2⟩ | ⟨e, h1, h2⟩
  all_goals rw [e]
  all_goals clear e
  all_goals go_enter Try.func80, Try.ntmps80
  all_goals go_wp2_with (go_at_call 92; refine (isNaN_any _ _).mono ?_; rintro e w' ⟨rfl, rfl⟩)
  all_goals go_ret
  all_goals exact ⟨rfl, rfl⟩
theorem order1_any (n f sl gp rh d0 d1 mg : Int) (PA : Option Addr) (pn pc : Nat) (OA : Option Addr) (on oc : Nat) (RA : Option Addr) (rn rc : Nat) (ps : List Pt) (p1 x y : Nat) (w : World) (hc : w.heap[p1]? = some (.cells #[.int .i64 n, .int .i64 f, .int .i64 sl, .int .i64 gp, .int .i64 rh, .int .i64 d0, .int .i64 d1, .int .i64 mg, .slice PA pn pc, .slice OA on oc, .slice RA rn rc] 26 (0, 0))) (hP : At Pt.cells w PA pn ps) (hx : x < pn) (hy : y < pn) (_hpn : pn ≤ 12) :
    Calls Try.prog 79 #[.int .i64 (x : Int), .int .i64 (y : Int), .pointer (some ⟨p1, 0, none⟩)] w fun e w' => e = .returned (.int .i64 (cmpI (stOf ps x) (stOf ps y))) ∧ ∃ k, w.drewN k = w' := by
  obtain ⟨p, hp⟩ : ∃ z, ps[x]? = some z := ⟨_, List.getElem?_eq_getElem (by rw [hP.1]; exact hx)⟩
  obtain ⟨q, hq⟩ : ∃ z, ps[y]? = some z := ⟨_, List.getElem?_eq_getElem (by rw [hP.1]; exact hy)⟩
  rw [stOf_at hp, stOf_at hq]
  obtain ⟨a, rfl, y0, y1, _⟩ := hP.part hp
  obtain ⟨a', eq, u0, u1, _⟩ := hP.part hq
  injection eq with eq
  subst eq
  clear hp hq
  obtain ⟨b0, b1, b2, b3, b4, b5, b6, b7, b8⟩ := p
  obtain ⟨c0, c1, c2, c3, c4, c5, c6, c7, c8⟩ := q
  simp only at y0 y1 u0 u1 ⊢
  have z8 := cell_of_row w p1 8 _ _ _ hc
  simp at z8
  have bx0 : (0 : Int) ≤ (x : Int) := by omega
  have bx1 : (x : Int) < (pn : Int) := by omega
  have by0 : (0 : Int) ≤ (y : Int) := by omega
  have by1 : (y : Int) < (pn : Int) := by omega
  clear hc hP
  go_enter Try.func79, Try.ntmps79
  go_wp2
  go_quiet ((go_at_call 80; exact quiet_eq (compare_any _ _ _)))
  go_wp2
  go_ret
  exact ⟨rfl, _, rfl⟩
theorem isort_any (n f sl gp rh d0 d1 mg : Int) (PA : Option Addr) (pn pc : Nat) (OA : Option Addr) (on oc : Nat) (RA : Option Addr) (rn rc : Nat) (ps : List Pt) (p1 g m c : Nat) (X : List Nat) (w : World) (hr : w.ownsRow 0 3 1 (Value.slice (some ⟨g, 0, none⟩) m c) m (nums .i64 (nats X))) (hc : w.heap[p1]? = some (.cells #[.int .i64 n, .int .i64 f, .int .i64 sl, .int .i64 gp, .int .i64 rh, .int .i64 d0, .int .i64 d1, .int .i64 mg, .slice PA pn pc, .slice OA on oc, .slice RA rn rc] 26 (0, 0))) (hP : At Pt.cells w PA pn ps) (hpg : p1 ≠ g) (hag : ∀ a, PA = some a → a.block ≠ g)
    (hX : ∀ x ∈ X, x < pn) (hm : X.length = m) (hm1 : 1 ≤ m) (hm12 : m ≤ 12) (hpn : pn ≤ 12) :
    Calls Try.prog 94 #[(Value.slice (some ⟨g, 0, none⟩) m c), .int .i64 0, .int .i64 (m : Int), .func (.func 79) #[] #[.pointer (some ⟨p1, 0, none⟩)]] w fun e w' =>
      e = .returned (.tuple #[]) ∧ ∃ D, Srt (stOf ps) X D m ∧ Own w (row 3 1 (Value.slice (some ⟨g, 0, none⟩) m c) m (nums .i64 (nats X))).foot w' [row 3 1 (Value.slice (some ⟨g, 0, none⟩) m c) m (nums .i64 (nats D))] := by
  have ho := Hidd.mk (Own.one (w := w) (r := row 3 1 (Value.slice (some ⟨g, 0, none⟩) m c) m (nums .i64 (nats X))) hr)
  have hS := Hidd.mk (Srt.one (st := stOf ps) (i := 1) X (Nat.le_refl _))
  replace hP := Hidd.mk hP
  replace hc := Hidd.mk hc
  replace hX := Hidd.mk hX
  replace hag := Hidd.mk hag
  replace hm := Hidd.mk hm
  replace hpg := Hidd.mk hpg
  have hkeep : Hidd (∀ W, Kept (row 3 1 (Value.slice (some ⟨g, 0, none⟩) m c) m (nums .i64 (nats X))).foot w W → W.heap[p1]? = some (.cells #[.int .i64 n, .int .i64 f, .int .i64 sl, .int .i64 gp, .int .i64 rh, .int .i64 d0, .int .i64 d1, .int .i64 mg, .slice PA pn pc, .slice OA on oc, .slice RA rn rc] 26 (0, 0)) ∧ At Pt.cells W PA pn ps) := ⟨fun W hK => ⟨hK.row (fun h => hpg.out (by injection h with h; exact h.symm)) hc.out, hP.out.1, fun j v hj => by
    obtain ⟨a, e, h⟩ := hP.out.2 j v hj
    refine ⟨a, e, hK.cells (fun h' => ?_) h⟩
    injection h' with h'
    refine hag.out a e (Eq.trans ?_ h'.symm)
    unfold Addr.add
    split <;> rfl⟩⟩
  obtain ⟨F, hF⟩ : ∃ F, (row 3 1 (Value.slice (some ⟨g, 0, none⟩) m c) m (nums .i64 (nats X))).foot = F := ⟨_, rfl⟩
  rw [hF] at ho hkeep ⊢
  clear hF hr
  go_enter Try.func94, Try.ntmps94
  go_wp2
  go_loopw [8] (fun v8 wr => ∃ (i : Nat) (D : List Nat), v8 = .int .i64 i ∧ 1 ≤ i ∧ i ≤ m ∧ Hidd (Srt (stOf ps) X D i) ∧ Hidd (Own w F wr [row 3 1 (Value.slice (some ⟨g, 0, none⟩) m c) m (nums .i64 (nats D))])) (fun v8 _ => m - (intOf v8).toNat)
  case atStart => exact ⟨1, X, rfl, Nat.le_refl _, hm1, hS, ho⟩
  case round =>
    clear ho hS
    obtain ⟨i, D0, rfl, hi1, him, hS, ho⟩ := hrel
    by_cases hlt : i < m
    · have bi1 : (i : Int) < (m : Int) := by omega
      have hS2 := Hidd.mk hS.out.start
      clear hS
      go_wp2
      go_loopw [9] (fun v9 wz => ∃ (j : Nat) (D : List Nat), v9 = .int .i64 j ∧ j ≤ i ∧ Hidd (Mid (stOf ps) X D i j) ∧ Hidd (Own w F wz [row 3 1 (Value.slice (some ⟨g, 0, none⟩) m c) m (nums .i64 (nats D))])) (fun v9 _ => (intOf v9).toNat)
      case atStart => exact ⟨i, D0, rfl, Nat.le_refl _, hS2, ho⟩
      case round =>
        clear ho hS2
        obtain ⟨j, D, rfl, hji, hM, ho⟩ := hrel
        rcases j with _ | jp
        · have hS3 := Hidd.mk hM.out.stop0
          have dj : decide ((0 : Int) < ((0 : Nat) : Int)) = false := by decide
          go_wp2
          obtain ⟨W0, hW0⟩ : ∃ zz, zz = World.drew wr := ⟨_, rfl⟩
          refine wp_region_flow [([0, 1, 2, 3, 4, 5, 6, 9, 10, 7, 11, 8, 12, 13], some (14, [false])), ([15, 16], none)] (by kernel_rfl) (by kernel_rfl) ?_
          rw [show ({ wr with drawn := wr.drawn + 1 } : World) = W0 from hW0.symm]
          replace hW0 := Hidd.mk hW0
          simp only [opsF, List.map_cons, List.map_nil, List.getD_cons_succ, List.getD_cons_zero, Option.map]
          have hend := Hidd.mk (show Own w F W0 _ by rw [hW0.out]; exact ho.out.drew)
          clear hW0 ho
          refine FlW.stage (fun zz => zz = _) rfl ?_
          repeat (first | (refine StQ.skip (by rfl) ?_; simp only [Act.put, List.setIfInBounds_toArray, List.set_cons_zero, List.set_cons_succ]) | (refine StQ.go' (by rfl) (Exists.intro ?_ (And.intro (fun w' hS => ?_) ?_)); rotate_left; (focus (rw [hS]; go_simp; try with_reducible rfl)); simp only [Act.put, List.setIfInBounds_toArray, List.set_cons_zero, List.set_cons_succ]))
          refine StQ.nil ?_
          refine FlO.skip (by rfl) ?_; simp only [Act.put, List.setIfInBounds_toArray, List.set_cons_zero, List.set_cons_succ]
          refine FlW.heads (fun zz => zz = _) rfl ?_
          repeat (first | (refine StQ.skip (by rfl) ?_; simp only [Act.put, List.setIfInBounds_toArray, List.set_cons_zero, List.set_cons_succ]) | (refine StQ.go' (by rfl) (Exists.intro ?_ (And.intro (fun w' hS => ?_) ?_)); rotate_left; (focus (rw [hS]; go_simp; try with_reducible rfl)); simp only [Act.put, List.setIfInBounds_toArray, List.set_cons_zero, List.set_cons_succ]))
          refine StQ.nil ?_
          refine FlW.nil (Calm.normal ?_)
          go_wp2
          go_roundw
          case rel => exact ⟨i + 1, D, by go_num, by omega, by omega, hS3, hend⟩
          case measure => (simp [intOf]; try omega)
        · have hDl : D.length = m := by rw [hM.out.perm.length_eq, hm.out]
          obtain ⟨x, hx⟩ : ∃ x, D[jp + 1]? = some x := ⟨_, List.getElem?_eq_getElem (by omega)⟩
          obtain ⟨y, hy⟩ : ∃ y, D[jp]? = some y := ⟨_, List.getElem?_eq_getElem (by omega)⟩
          have hx1 : x < pn := hX.out x (hM.out.perm.mem_iff.1 (List.mem_of_getElem? hx))
          have hy1 : y < pn := hX.out y (hM.out.perm.mem_iff.1 (List.mem_of_getElem? hy))
          have ex : D.getD (jp + 1) 0 = x := by rw [List.getD_eq_getElem?_getD, hx]; rfl
          have ey : D.getD jp 0 = y := by rw [List.getD_eq_getElem?_getD, hy]; rfl
          have hwp : IntKind.i64.wrap (jp : Int) = (jp : Int) := IntWalk.i64_in _ (by omega)
          have jz : (jp : Int) + 1 < (m : Int) := by omega
          have jz1 : (jp : Int) < (m : Int) := by omega
          have p0 : (0 : Int) ≤ (jp : Int) + 1 := by omega
          have p1' : (0 : Int) ≤ (jp : Int) := by omega
          have e0 : ((jp : Int) + 1).toNat = jp + 1 := by omega
          have dj : decide ((0 : Int) < (jp : Int) + 1) = true := decide_eq_true (by omega)
          by_cases hlv : stOf ps x < stOf ps y
          · have hM2 := Hidd.mk (hM.out.step (by omega) hji (by rw [ex, ey]; exact hlv))
            have hcl : decide (cmpI (stOf ps x) (stOf ps y) < 0) = true := by rw [cmpI_lt]; exact decide_eq_true hlv
            clear hlv hM
            rw [Int.natCast_add, Int.cast_ofNat_Int]
            go_wp2
            obtain ⟨W0, hW0⟩ : ∃ zz, zz = World.drew wr := ⟨_, rfl⟩
            refine wp_region_flow [([0, 1, 2, 3, 4, 5, 6, 9, 10, 7, 11, 8, 12, 13], some (14, [false])), ([15, 16], none)] (by kernel_rfl) (by kernel_rfl) ?_
            rw [show ({ wr with drawn := wr.drawn + 1 } : World) = W0 from hW0.symm]
            replace hW0 := Hidd.mk hW0
            simp only [opsF, List.map_cons, List.map_nil, List.getD_cons_succ, List.getD_cons_zero, Option.map]
            have ho2 := Hidd.mk (show Own w F W0 _ by rw [hW0.out]; exact ho.out.drew)
            clear hW0 ho
            have c1 := cells_at (row_cells ho2.out 0 rfl) (nats_get hx)
            have c2 := cells_at (row_cells ho2.out 0 rfl) (nats_get hy)
            refine FlW.stage (fun zz => zz = _) rfl ?_
            repeat (first | (refine StQ.skip (by rfl) ?_; simp only [Act.put, List.setIfInBounds_toArray, List.set_cons_zero, List.set_cons_succ]) | (refine StQ.go' (by rfl) (Exists.intro ?_ (And.intro (fun w' hS => ?_) ?_)); rotate_left; (focus (rw [hS]; go_simp; try with_reducible rfl)); simp only [Act.put, List.setIfInBounds_toArray, List.set_cons_zero, List.set_cons_succ]))
            refine StQ.nil ?_
            obtain ⟨k1, k2⟩ := hkeep.out _ ho2.out.kept
            refine FlO.go (by rfl) (fun K hK => ?_)
            go_simp
            (refine (order1_any n f sl gp rh d0 d1 mg PA pn pc OA on oc RA rn rc ps p1 x y _ k1 k2 hx1 hy1 hpn).mono ?_; rintro e w4 ⟨rfl, kk, rfl⟩)
            refine hK.out _ _ (.inr trivial) ?_
            clear hK K
            have ho3 := Hidd.mk (ho2.out.ext (below_drewN' kk (Below.refl _ _)))
            clear k1 k2 ho2 c1 c2
            generalize World.drewN W0 kk = W1 at ho3 ⊢
            refine FlW.heads (fun zz => zz = _) rfl ?_
            repeat (first | (refine StQ.skip (by rfl) ?_; simp only [Act.put, List.setIfInBounds_toArray, List.set_cons_zero, List.set_cons_succ]) | (refine StQ.go' (by rfl) (Exists.intro ?_ (And.intro (fun w' hS => ?_) ?_)); rotate_left; (focus (rw [hS]; go_simp; try with_reducible rfl)); simp only [Act.put, List.setIfInBounds_toArray, List.set_cons_zero, List.set_cons_succ]))
            refine StQ.nil ?_
            refine FlW.nil (Calm.normal ?_)
            have c1 := cells_at (row_cells ho3.out 0 rfl) (nats_get hx)
            have c2 := cells_at (row_cells ho3.out 0 rfl) (nats_get hy)
            have ho4 := (row_set (row_set ho3.out 0 rfl (jp + 1) (.int .i64 (y : Int))) 0 rfl jp (.int .i64 (x : Int))).drew
            simp only [List.set_cons_zero] at ho4
            rw [show ((nums .i64 (nats D)).set (jp + 1) (.int .i64 (y : Int))).set jp (.int .i64 (x : Int)) = nums .i64 (nats (swp2 D jp)) by rw [swp2, ex, ey]; simp [nums, nats, List.map_set]] at ho4
            have hend := Hidd.mk ho4
            clear ho4
            have f1 := (show W1.ownsRow 0 3 1 (Value.slice (some ⟨g, 0, none⟩) m c) m (nums .i64 (nats D)) from ho3.out.get 0 rfl).frozenAt jp
            have f2 := (show W1.ownsRow 0 3 1 (Value.slice (some ⟨g, 0, none⟩) m c) m (nums .i64 (nats D)) from ho3.out.get 0 rfl).frozenAt (jp + 1)
            go_wp2
            go_big_region
            all_goals go_wp2
            go_roundw
            case rel => exact ⟨jp, swp2 D jp, rfl, by omega, hM2, hend⟩
            case measure => (simp [intOf]; try omega)
          · have hS3 := Hidd.mk (hM.out.stop (by rw [ex, ey]; exact hlv))
            have hcl : decide (cmpI (stOf ps x) (stOf ps y) < 0) = false := by rw [cmpI_lt]; exact decide_eq_false hlv
            clear hlv hM
            rw [Int.natCast_add, Int.cast_ofNat_Int]
            go_wp2
            obtain ⟨W0, hW0⟩ : ∃ zz, zz = World.drew wr := ⟨_, rfl⟩
            refine wp_region_flow [([0, 1, 2, 3, 4, 5, 6, 9, 10, 7, 11, 8, 12, 13], some (14, [false])), ([15, 16], none)] (by kernel_rfl) (by kernel_rfl) ?_
            rw [show ({ wr with drawn := wr.drawn + 1 } : World) = W0 from hW0.symm]
            replace hW0 := Hidd.mk hW0
            simp only [opsF, List.map_cons, List.map_nil, List.getD_cons_succ, List.getD_cons_zero, Option.map]
            have ho2 := Hidd.mk (show Own w F W0 _ by rw [hW0.out]; exact ho.out.drew)
            clear hW0 ho
            have c1 := cells_at (row_cells ho2.out 0 rfl) (nats_get hx)
            have c2 := cells_at (row_cells ho2.out 0 rfl) (nats_get hy)
            refine FlW.stage (fun zz => zz = _) rfl ?_
            repeat (first | (refine StQ.skip (by rfl) ?_; simp only [Act.put, List.setIfInBounds_toArray, List.set_cons_zero, List.set_cons_succ]) | (refine StQ.go' (by rfl) (Exists.intro ?_ (And.intro (fun w' hS => ?_) ?_)); rotate_left; (focus (rw [hS]; go_simp; try with_reducible rfl)); simp only [Act.put, List.setIfInBounds_toArray, List.set_cons_zero, List.set_cons_succ]))
            refine StQ.nil ?_
            obtain ⟨k1, k2⟩ := hkeep.out _ ho2.out.kept
            refine FlO.go (by rfl) (fun K hK => ?_)
            go_simp
            (refine (order1_any n f sl gp rh d0 d1 mg PA pn pc OA on oc RA rn rc ps p1 x y _ k1 k2 hx1 hy1 hpn).mono ?_; rintro e w4 ⟨rfl, kk, rfl⟩)
            refine hK.out _ _ (.inr trivial) ?_
            clear hK K
            have ho3 := Hidd.mk (ho2.out.ext (below_drewN' kk (Below.refl _ _)))
            clear k1 k2 ho2 c1 c2
            generalize World.drewN W0 kk = W1 at ho3 ⊢
            refine FlW.heads (fun zz => zz = _) rfl ?_
            repeat (first | (refine StQ.skip (by rfl) ?_; simp only [Act.put, List.setIfInBounds_toArray, List.set_cons_zero, List.set_cons_succ]) | (refine StQ.go' (by rfl) (Exists.intro ?_ (And.intro (fun w' hS => ?_) ?_)); rotate_left; (focus (rw [hS]; go_simp; try with_reducible rfl)); simp only [Act.put, List.setIfInBounds_toArray, List.set_cons_zero, List.set_cons_succ]))
            refine StQ.nil ?_
            refine FlW.nil (Calm.normal ?_)
            have c1 := cells_at (row_cells ho3.out 0 rfl) (nats_get hx)
            have c2 := cells_at (row_cells ho3.out 0 rfl) (nats_get hy)
            clear c1 c2
            have hend := ho3
            go_wp2
            go_roundw
            case rel => exact ⟨i + 1, D, by go_num, by omega, by omega, hS3, hend⟩
            case measure => (simp [intOf]; try omega)
    · obtain rfl : i = m := by omega
      go_wp2
      exact bodyPost_end (v := .tuple #[]) (by simp [results, Try.results94, go_sem]) rfl ⟨rfl, D0, hS.out, ho.out⟩
end Go.Proofs.Ytcamoldjljfbeaa
