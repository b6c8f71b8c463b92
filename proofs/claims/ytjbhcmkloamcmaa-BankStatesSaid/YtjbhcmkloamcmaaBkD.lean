/- Crash of a flash: what stays. -/
import Derived.Test.YtjbhcmkloamcmaaBkC
namespace Go.Proofs.Ytjbhcmkloamcmaa
open Go.RowKit

set_option maxRecDepth 100000
set_option maxHeartbeats 16000000
theorem idx2 (v0 v1 : Value) (W : World) : (Instr.index 69 (.agg #[v0, v1]) (.int .i64 0)).run Try.prog W = .ok v0 W ∧ (Instr.index 69 (.agg #[v0, v1]) (.int .i64 1)).run Try.prog W = .ok v1 W := by
  have a3 := Try.isAgg49
  have z3 := Try.sizeOf49
  have hp0 : (part 49 #[v0, v1] (0 * 1)).run Try.prog W = .ok v0 W := by
    unfold part
    simp only [Sem.run_bind, a3, Result.andThen_ok]
    simp
  have hp1 : (part 49 #[v0, v1] (1 * 1)).run Try.prog W = .ok v1 W := by
    unfold part
    simp only [Sem.run_bind, a3, Result.andThen_ok]
    simp
  constructor
  all_goals unfold Instr.index
  all_goals simp only [asIntOf, Sem.run_bind, Sem.run_pure, Result.andThen_ok, run_underlying Try.underlying69]
  all_goals rw [if_pos ⟨by omega, by omega⟩]
  · simp only [Sem.run_bind, z3, Result.andThen_ok, show (0 : Int).toNat = 0 from rfl, hp0]
  · simp only [Sem.run_bind, z3, Result.andThen_ok, show (1 : Int).toNat = 1 from rfl, hp1]
theorem crash_nil (w : World) : Calls Try.prog 23 #[.pointer none] w fun e w' => e = .returned (.pointer none) ∧ w = w' := by
  go_enter Try.func23, Try.ntmps23
  go_wp2
  go_ret
  exact ⟨rfl, rfl⟩
theorem pgs_below {w w' : World} {vs : List Value} {xss : List (List Int)} (h : (pgs vs xss).holds w) (hB : Below w.heap.size w w') : (pgs vs xss).holds w' := (pgs vs xss).loc w w' h fun i hi => hB.block i ((pgs vs xss).lt w h i hi)
theorem pg_one (A : Option Addr) (n c : Nat) : ∀ u ∈ [Value.slice A n c], u.oneCell' = true := by intro u hu; simp at hu; subst hu; rfl
theorem crash_own {w w0 : World} {S : Nat → Prop} {L : List Res} {f : Nat} {M : FA} {s : Fs} (k : Nat) (hO : Own w0 S w L) (hk : L[k]? = some (Res.pack (flashL f M s))) (hs : FsOk s) :
    Calls Try.prog 23 #[.pointer (some ⟨f, 0, none⟩)] w fun e w' => ∃ f' M', e = .returned (.pointer (some ⟨f', 0, none⟩)) ∧ Own w0 S w' (Res.pack (flashL f' M' { s with left := -1 }) :: L) := by
  have hf := hO.open_ k hk
  obtain ⟨y0, y1, y2, y3⟩ := flash_cells hf 0 rfl
  obtain ⟨A0, n0, c0, v0, A1, n1, c1, v1, AM, nm, cm, vm⟩ := M
  obtain ⟨b0, b1, mrk, left⟩ := s
  dsimp only at y0 y1 y2 y3
  have hC0 := Hidd.mk (show Cells w A0 v0 from row_cells hf 1 rfl)
  have hC1 := Hidd.mk (show Cells w A1 v1 from row_cells hf 2 rfl)
  have hCM := Hidd.mk (show Cells w AM vm from row_cells hf 3 rfl)
  have hP0 := Hidd.mk (show (pgs v0 b0).holds w from hf.get 4 rfl)
  have hP1 := Hidd.mk (show (pgs v1 b1).holds w from hf.get 5 rfl)
  have hPM := Hidd.mk (show (pgs vm mrk).holds w from hf.get 6 rfl)
  have hl0 : Hidd (v0.length = n0) := ⟨by have := (show w.ownsRow 0 22 1 (.slice A0 n0 c0) n0 v0 from hf.get 1 rfl).1; simpa using this⟩
  have hl1 : Hidd (v1.length = n1) := ⟨by have := (show w.ownsRow 0 22 1 (.slice A1 n1 c1) n1 v1 from hf.get 2 rfl).1; simpa using this⟩
  have hlM : Hidd (vm.length = nm) := ⟨by have := (show w.ownsRow 0 22 1 (.slice AM nm cm) nm vm from hf.get 3 rfl).1; simpa using this⟩
  have hm0 : Hidd (b0.length = n0 ∧ n0 ≤ 10000) := ⟨by have h1 := hP0.out.1; have h2 := hl0.out; have h3 := hs.l0; dsimp only at h3; omega⟩
  have hm1 : Hidd (b1.length = n1 ∧ n1 ≤ 10000) := ⟨by have h1 := hP1.out.1; have h2 := hl1.out; have h3 := hs.l1; dsimp only at h3; omega⟩
  have hmM : Hidd (mrk.length = nm ∧ nm ≤ 10000) := ⟨by have h1 := hPM.out.1; have h2 := hlM.out; have h3 := hs.lm; dsimp only at h3; omega⟩
  have hb0 : Hidd (∀ p ∈ b0, p.length ≤ 100) := ⟨fun p hp => (hs.p0 p hp).2⟩
  have hb1 : Hidd (∀ p ∈ b1, p.length ≤ 100) := ⟨fun p hp => (hs.p1 p hp).2⟩
  have hbM : Hidd (∀ p ∈ mrk, p.length ≤ 100) := ⟨fun p hp => by
    rcases hs.mrk p hp with ⟨o, n, _, _, rfl⟩ | ⟨h4, _⟩
    · rw [mark_len]; decide
    · omega⟩
  have hO2 := Hidd.mk hO
  have yM := Hidd.mk y2
  obtain ⟨iB, hIB⟩ := info_parts info_bs
  replace hIB := Hidd.mk hIB
  have hF1 : f < w.heap.size := World.block_lt_of_cell? w _ y0
  clear hf hs hO hk y3
  have hi0 : ∀ W : World, (Instr.index 69 (.agg #[.slice A0 n0 c0, .slice A1 n1 c1]) (.int .i64 0)).run Try.prog W = .ok (.slice A0 n0 c0) W := fun W => (idx2 _ _ W).1
  have hi1 : ∀ W : World, (Instr.index 69 (.agg #[.slice A0 n0 c0, .slice A1 n1 c1]) (.int .i64 1)).run Try.prog W = .ok (.slice A1 n1 c1) W := fun W => (idx2 _ _ W).2
  go_enter Try.func23, Try.ntmps23
  go_upto_region 5 with (go_at_call 12; refine (newFlash_own _).mono ?_; rintro e w1 ⟨f1, M1, rfl, ho1⟩; replace ho1 := Hidd.mk ho1; have hb := ho1.out.below fun _ => id; replace y0 := vkeepB hb y0; replace y1 := vkeepB hb y1; replace y2 := vkeepB hb y2; clear hb hF1)
  have ho : Hidd (Own w (fun _ => False) w1 (flashL f1 M1 ⟨[], [], [], -1⟩)) := ⟨by have := ho1.out.pack_out; rwa [List.append_nil] at this⟩
  clear ho1
  clear y0 y1 y2
  go_loopg [17] 2 (fun g v17 wx => ∃ (i : Nat) (M' : FA), i + g = 2 ∧ v17 = .int .i64 i ∧ Hidd (Own w (fun _ => False) wx (flashL f1 M' ⟨if 0 < i then b0 else [], if 1 < i then b1 else [], [], -1⟩)))
  case atStart => exact ⟨0, M1, by omega, rfl, ho⟩
  case round =>
    clear ho
    obtain ⟨i, M', hg, rfl, ho⟩ := hrel
    cases gk with
    | succ g =>
      obtain ⟨rfl, rfl⟩ | ⟨rfl, rfl⟩ : (i = 0 ∧ g = 1) ∨ (i = 1 ∧ g = 0) := by omega
      · skip
        go_upto_region 8 with fail
        replace ho : Hidd (Own w (fun _ => False) _ (flashL f1 M' ⟨[], [], [], -1⟩)) := ⟨by have h := ho.out; simpa using h⟩
        obtain ⟨wo, rfl⟩ : ∃ wo : World, wo = wr := ⟨_, rfl⟩
        go_loopg [23] n0 (fun g2 vj wx => ∃ (j : Nat) (M2 : FA), j + g2 = n0 ∧ vj = .int .i64 j ∧ Hidd (Own w (fun _ => False) wx (flashL f1 M2 ⟨b0.take j, [], [], -1⟩)))
        case atStart => exact ⟨0, M', by omega, rfl, ⟨by have h := ho.out; simpa using h⟩⟩
        case round =>
          clear ho
          obtain ⟨j, M2, hgj, rfl, ho⟩ := hrel
          cases gk with
          | succ g2 =>
            have hj : j < n0 := by omega
            have dj : decide (j < n0) = true := decide_eq_true hj
            have bj0 : (0 : Int) ≤ (j : Int) := by omega
            have bj1 : (j : Int) < (n0 : Int) := by omega
            have hgj2 : j + 1 + g2 = n0 := by omega
            have hjb : (j : Int) ≤ 10000 := by have := hm0.out.2; omega
            have hB := ho.out.below fun _ => id
            obtain ⟨v, hvi⟩ : ∃ v, v0[j]? = some v := ⟨_, List.getElem?_eq_getElem (by rw [hl0.out]; exact hj)⟩
            obtain ⟨xs, hxs, Ap, np, cp, rfl, hnp, hcp, hcm, hCp⟩ := pgs_get (pgs_below hP0.out hB) hvi
            obtain ⟨a, rfl, z0⟩ := hC0.out.below hB j _ hvi
            have hx100 : Hidd (np ≤ 100) := ⟨by rw [← hnp]; exact hb0.out xs (List.mem_of_getElem? hxs)⟩
            have hsucc : Hidd (b0.take (j + 1) = b0.take j ++ [xs.take np]) := ⟨by rw [List.take_add_one, hxs, List.take_of_length_le (Nat.le_of_eq hnp)]; rfl⟩
            obtain ⟨A20, n20, c20, v20, A21, n21, c21, v21, A2M, n2m, c2m, v2m⟩ := M2
            have hrow := (show wr.ownsRow 0 22 1 (.slice A20 n20 c20) n20 v20 from ho.out.get 1 rfl).1
            have hpl := (show (pgs v20 (b0.take j)).holds wr from ho.out.get 4 rfl).1
            have hn2 : Hidd (n20 ≤ 10000) := ⟨by have h1 := hm0.out.2; rw [List.length_take] at hpl; rw [Nat.mul_one] at hrow; omega⟩
            replace hnp := Hidd.mk hnp
            replace hCp := Hidd.mk hCp
            clear hgj hj hB hvi hxs hcp hcm hrow hpl
            go_wp2
            obtain ⟨W0, hW0⟩ : ∃ zz, zz = World.drew wr := ⟨_, rfl⟩
            refine wp_region_flow [([0, 1, 2, 3, 9, 4, 13, 5, 14, 6, 7], some (8, [true])), ([], some (10, [false, true])), ([], some (11, [false, false, true])), ([], some (12, [false, false, false, true])), ([15], some (16, [false, false, false, false, false]))] (by kernel_rfl) (by kernel_rfl) ?_
            rw [show ({ wr with drawn := wr.drawn + 1 } : World) = W0 from hW0.symm]
            replace hW0 := Hidd.mk hW0
            simp only [opsF, List.map_cons, List.map_nil, List.getD_cons_succ, List.getD_cons_zero, Option.map]
            have ho2 := Hidd.mk (show Own w (fun _ => False) W0 _ by rw [hW0.out]; exact ho.out.drew)
            have hCp2 := Hidd.mk (show Cells W0 Ap _ by rw [hW0.out]; exact hCp.out.drew)
            clear hW0 ho hCp z0
            obtain ⟨x0, x1, x2, x3⟩ := flash_cells ho2.out 0 rfl
            dsimp only at x0 x1 x2 x3
            have hfl := ho2.out.lt 0 rfl
            have hTb : ¬ (Value.slice A20 n20 c20).ownBlock = some f1 := fun e => ho2.out.apart 0 1 rfl rfl (by decide) f1 rfl e
            obtain ⟨T, hT⟩ : ∃ T : Nat → Prop, T = (row 22 1 (.slice A20 n20 c20) n20 v20).foot := ⟨_, rfl⟩
            replace hTb : ¬ T f1 := by rw [hT]; exact hTb
            have hloc : Hidd (Own W0 T W0 [row 22 1 (.slice A20 n20 c20) n20 v20]) := ⟨by rw [hT]; exact Own.one (ho2.out.get 1 rfl)⟩
            replace hT := Hidd.mk hT
            refine FlW.stage (fun zz => Kept T W0 zz) (Kept.refl _ _) ?_
            repeat (first | (refine StQ.skip (by rfl) ?_; simp only [Act.put, List.setIfInBounds_toArray, List.set_cons_zero, List.set_cons_succ]) | (refine StQ.go' (by rfl) (Exists.intro ?_ (And.intro (fun w' hS => ?_) ?_)); rotate_left; (focus (have hc := Kept.cellAt hS; go_simp; try with_reducible rfl)); simp only [Act.put, List.setIfInBounds_toArray, List.set_cons_zero, List.set_cons_succ]))
            refine StQ.nil ?_
            refine FlO.go (by rfl) (fun K hK => ?_); go_simp; refine hK.out _ _ (.inr ⟨Kept.alloc _ _ _, trivial⟩) ?_; clear hK K
            have hl1' := row_lit hloc.out 5 1 0 #[] (nums .u8 []) rfl rfl (by decide)
            refine FlW.stage (fun _ => True) trivial (StQ.nil ?_)
            refine FlO.go (by rfl) (fun K hK => ?_)
            (refine appb_op _ _ rfl hl1' 0 _ 0 0 [] rfl rfl Ap np cp xs rfl hnp.out (hCp2.out.alloc _) (by have := hx100.out; omega) ?_; intro A4 c4 w4 hl4 _; rw [Nat.zero_add, List.nil_append] at hl4)
            refine hK.out _ _ (.inr ⟨hl4.kept, trivial⟩) ?_
            clear hK K
            clear hl1' hloc hCp2
            replace hl4 := Hidd.mk hl4
            refine FlW.stage (fun _ => True) trivial (StQ.nil ?_)
            refine FlO.go (by rfl) (fun K hK => ?_); go_simp; refine hK.out _ _ (.inr ⟨hl4.out.kept.trans (Kept.alloc _ _ _), trivial⟩) ?_; clear hK K
            have hl5 := row_lit hl4.out 22 1 1 #[.slice A4 np c4] [.slice A4 np c4] rfl rfl (by decide)
            refine FlW.stage (fun _ => True) trivial (StQ.nil ?_)
            refine FlO.go (by rfl) (fun K hK => ?_)
            (refine wp_row _ _ 49 rfl 22 iB (.slice none 0 0) 1 24 Try.underlying49 hIB.out.1 hIB.out.2.1 hIB.out.2.2.1 hIB.out.2.2.2 (by rfl) (by decide) hl5 2 A20 n20 c20 v20 rfl rfl (some ⟨w4.heap.size, 0, none⟩) 1 1 [.slice A4 np c4] rfl rfl (row_cells hl5 0 rfl) (by intro _ h; cases h) (pg_one _ _ _) (by have := hn2.out; unfold maxLen; omega) (by have := hn2.out; omega) ?_; intro A6 c6 w6 hl6 _)
            refine hK.out _ _ (.inr ⟨hl6.kept, trivial⟩) ?_
            clear hK K
            clear hl5 hl4
            rw [hT.out] at hl6
            obtain ⟨⟨g0, g1⟩, hfin⟩ := flash_fin0 (M := ⟨A20, n20, c20, v20, A21, n21, c21, v21, A2M, n2m, c2m, v2m⟩) ((ho2.out.frame 1 rfl hl6).reorder [3, 2, 4, 5, 6, 7, 8, 1] rfl (by decide)) (Nat.le_refl np)
            replace hfin := Hidd.mk hfin
            dsimp only at g0
            clear hl6 ho2 x0 x1 x2 x3
            refine FlW.stage (fun zz => zz = _) rfl ?_
            repeat (first | (refine StQ.skip (by rfl) ?_; simp only [Act.put, List.setIfInBounds_toArray, List.set_cons_zero, List.set_cons_succ]) | (refine StQ.go' (by rfl) (Exists.intro ?_ (And.intro (fun w' hS => ?_) ?_)); rotate_left; (focus (rw [hS]; go_simp; try with_reducible rfl)); simp only [Act.put, List.setIfInBounds_toArray, List.set_cons_zero, List.set_cons_succ]))
            refine StQ.nil ?_
            refine FlO.go (by rfl) (fun K hK => ?_); go_simp; refine hK.out _ _ (.inr trivial) ?_; clear hK K
            refine FlW.nil (Calm.normal ?_)
            go_wp2
            go_roundg g2
            case rel => exact ⟨j + 1, _, hgj2, by go_num, ⟨by rw [hsucc.out]; exact hfin.out⟩⟩
            case measure => omega
          | zero =>
            obtain rfl : j = n0 := by omega
            have dj : decide (j < j) = false := by simp
            have hall : b0.take j = b0 := List.take_of_length_le (by have := hm0.out; omega)
            rw [hall] at ho
            clear hall
            go_wp2
            go_roundg 1
            case rel => exact ⟨1, M2, by omega, by go_num, ⟨by have h := ho.out; simpa using h⟩⟩
            case measure => omega
      · skip
        go_upto_region 8 with fail
        replace ho : Hidd (Own w (fun _ => False) _ (flashL f1 M' ⟨b0, [], [], -1⟩)) := ⟨by have h := ho.out; simpa using h⟩
        obtain ⟨wo, rfl⟩ : ∃ wo : World, wo = wr := ⟨_, rfl⟩
        go_loopg [23] n1 (fun g2 vj wx => ∃ (j : Nat) (M2 : FA), j + g2 = n1 ∧ vj = .int .i64 j ∧ Hidd (Own w (fun _ => False) wx (flashL f1 M2 ⟨b0, b1.take j, [], -1⟩)))
        case atStart => exact ⟨0, M', by omega, rfl, ⟨by have h := ho.out; simpa using h⟩⟩
        case round =>
          clear ho
          obtain ⟨j, M2, hgj, rfl, ho⟩ := hrel
          cases gk with
          | succ g2 =>
            have hj : j < n1 := by omega
            have dj : decide (j < n1) = true := decide_eq_true hj
            have bj0 : (0 : Int) ≤ (j : Int) := by omega
            have bj1 : (j : Int) < (n1 : Int) := by omega
            have hgj2 : j + 1 + g2 = n1 := by omega
            have hjb : (j : Int) ≤ 10000 := by have := hm1.out.2; omega
            have hB := ho.out.below fun _ => id
            obtain ⟨v, hvi⟩ : ∃ v, v1[j]? = some v := ⟨_, List.getElem?_eq_getElem (by rw [hl1.out]; exact hj)⟩
            obtain ⟨xs, hxs, Ap, np, cp, rfl, hnp, hcp, hcm, hCp⟩ := pgs_get (pgs_below hP1.out hB) hvi
            obtain ⟨a, rfl, z0⟩ := hC1.out.below hB j _ hvi
            have hx100 : Hidd (np ≤ 100) := ⟨by rw [← hnp]; exact hb1.out xs (List.mem_of_getElem? hxs)⟩
            have hsucc : Hidd (b1.take (j + 1) = b1.take j ++ [xs.take np]) := ⟨by rw [List.take_add_one, hxs, List.take_of_length_le (Nat.le_of_eq hnp)]; rfl⟩
            obtain ⟨A20, n20, c20, v20, A21, n21, c21, v21, A2M, n2m, c2m, v2m⟩ := M2
            have hrow := (show wr.ownsRow 0 22 1 (.slice A21 n21 c21) n21 v21 from ho.out.get 2 rfl).1
            have hpl := (show (pgs v21 (b1.take j)).holds wr from ho.out.get 5 rfl).1
            have hn2 : Hidd (n21 ≤ 10000) := ⟨by have h1 := hm1.out.2; rw [List.length_take] at hpl; rw [Nat.mul_one] at hrow; omega⟩
            replace hnp := Hidd.mk hnp
            replace hCp := Hidd.mk hCp
            clear hgj hj hB hvi hxs hcp hcm hrow hpl
            go_wp2
            obtain ⟨W0, hW0⟩ : ∃ zz, zz = World.drew wr := ⟨_, rfl⟩
            refine wp_region_flow [([0, 1, 2, 3, 9, 4, 13, 5, 14, 6, 7], some (8, [true])), ([], some (10, [false, true])), ([], some (11, [false, false, true])), ([], some (12, [false, false, false, true])), ([15], some (16, [false, false, false, false, false]))] (by kernel_rfl) (by kernel_rfl) ?_
            rw [show ({ wr with drawn := wr.drawn + 1 } : World) = W0 from hW0.symm]
            replace hW0 := Hidd.mk hW0
            simp only [opsF, List.map_cons, List.map_nil, List.getD_cons_succ, List.getD_cons_zero, Option.map]
            have ho2 := Hidd.mk (show Own w (fun _ => False) W0 _ by rw [hW0.out]; exact ho.out.drew)
            have hCp2 := Hidd.mk (show Cells W0 Ap _ by rw [hW0.out]; exact hCp.out.drew)
            clear hW0 ho hCp z0
            obtain ⟨x0, x1, x2, x3⟩ := flash_cells ho2.out 0 rfl
            dsimp only at x0 x1 x2 x3
            have hfl := ho2.out.lt 0 rfl
            have hTb : ¬ (Value.slice A21 n21 c21).ownBlock = some f1 := fun e => ho2.out.apart 0 2 rfl rfl (by decide) f1 rfl e
            obtain ⟨T, hT⟩ : ∃ T : Nat → Prop, T = (row 22 1 (.slice A21 n21 c21) n21 v21).foot := ⟨_, rfl⟩
            replace hTb : ¬ T f1 := by rw [hT]; exact hTb
            have hloc : Hidd (Own W0 T W0 [row 22 1 (.slice A21 n21 c21) n21 v21]) := ⟨by rw [hT]; exact Own.one (ho2.out.get 2 rfl)⟩
            replace hT := Hidd.mk hT
            refine FlW.stage (fun zz => Kept T W0 zz) (Kept.refl _ _) ?_
            repeat (first | (refine StQ.skip (by rfl) ?_; simp only [Act.put, List.setIfInBounds_toArray, List.set_cons_zero, List.set_cons_succ]) | (refine StQ.go' (by rfl) (Exists.intro ?_ (And.intro (fun w' hS => ?_) ?_)); rotate_left; (focus (have hc := Kept.cellAt hS; go_simp; try with_reducible rfl)); simp only [Act.put, List.setIfInBounds_toArray, List.set_cons_zero, List.set_cons_succ]))
            refine StQ.nil ?_
            refine FlO.go (by rfl) (fun K hK => ?_); go_simp; refine hK.out _ _ (.inr ⟨Kept.alloc _ _ _, trivial⟩) ?_; clear hK K
            have hl1' := row_lit hloc.out 5 1 0 #[] (nums .u8 []) rfl rfl (by decide)
            refine FlW.stage (fun _ => True) trivial (StQ.nil ?_)
            refine FlO.go (by rfl) (fun K hK => ?_)
            (refine appb_op _ _ rfl hl1' 0 _ 0 0 [] rfl rfl Ap np cp xs rfl hnp.out (hCp2.out.alloc _) (by have := hx100.out; omega) ?_; intro A4 c4 w4 hl4 _; rw [Nat.zero_add, List.nil_append] at hl4)
            refine hK.out _ _ (.inr ⟨hl4.kept, trivial⟩) ?_
            clear hK K
            clear hl1' hloc hCp2
            replace hl4 := Hidd.mk hl4
            refine FlW.stage (fun _ => True) trivial (StQ.nil ?_)
            refine FlO.go (by rfl) (fun K hK => ?_); go_simp; refine hK.out _ _ (.inr ⟨hl4.out.kept.trans (Kept.alloc _ _ _), trivial⟩) ?_; clear hK K
            have hl5 := row_lit hl4.out 22 1 1 #[.slice A4 np c4] [.slice A4 np c4] rfl rfl (by decide)
            refine FlW.stage (fun _ => True) trivial (StQ.nil ?_)
            refine FlO.go (by rfl) (fun K hK => ?_)
            (refine wp_row _ _ 49 rfl 22 iB (.slice none 0 0) 1 24 Try.underlying49 hIB.out.1 hIB.out.2.1 hIB.out.2.2.1 hIB.out.2.2.2 (by rfl) (by decide) hl5 2 A21 n21 c21 v21 rfl rfl (some ⟨w4.heap.size, 0, none⟩) 1 1 [.slice A4 np c4] rfl rfl (row_cells hl5 0 rfl) (by intro _ h; cases h) (pg_one _ _ _) (by have := hn2.out; unfold maxLen; omega) (by have := hn2.out; omega) ?_; intro A6 c6 w6 hl6 _)
            refine hK.out _ _ (.inr ⟨hl6.kept, trivial⟩) ?_
            clear hK K
            clear hl5 hl4
            rw [hT.out] at hl6
            obtain ⟨⟨g0, g1⟩, hfin⟩ := flash_fin1 (M := ⟨A20, n20, c20, v20, A21, n21, c21, v21, A2M, n2m, c2m, v2m⟩) ((ho2.out.frame 2 rfl hl6).reorder [3, 4, 2, 5, 6, 7, 8, 1] rfl (by decide)) (Nat.le_refl np)
            replace hfin := Hidd.mk hfin
            dsimp only at g0
            clear hl6 ho2 x0 x1 x2 x3
            refine FlW.stage (fun zz => zz = _) rfl ?_
            repeat (first | (refine StQ.skip (by rfl) ?_; simp only [Act.put, List.setIfInBounds_toArray, List.set_cons_zero, List.set_cons_succ]) | (refine StQ.go' (by rfl) (Exists.intro ?_ (And.intro (fun w' hS => ?_) ?_)); rotate_left; (focus (rw [hS]; go_simp; try with_reducible rfl)); simp only [Act.put, List.setIfInBounds_toArray, List.set_cons_zero, List.set_cons_succ]))
            refine StQ.nil ?_
            refine FlO.go (by rfl) (fun K hK => ?_); go_simp; refine hK.out _ _ (.inr trivial) ?_; clear hK K
            refine FlW.nil (Calm.normal ?_)
            go_wp2
            go_roundg g2
            case rel => exact ⟨j + 1, _, hgj2, by go_num, ⟨by rw [hsucc.out]; exact hfin.out⟩⟩
            case measure => omega
          | zero =>
            obtain rfl : j = n1 := by omega
            have dj : decide (j < j) = false := by simp
            have hall : b1.take j = b1 := List.take_of_length_le (by have := hm1.out; omega)
            rw [hall] at ho
            clear hall
            go_wp2
            go_roundg 0
            case rel => exact ⟨2, M2, by omega, by go_num, ⟨by have h := ho.out; simpa using h⟩⟩
            case measure => omega
    | zero =>
      obtain rfl : i = 2 := by omega
      have y2 := vkeepB (ho.out.below fun _ => id) yM.out
      go_upto_region 14 with fail
      replace ho : Hidd (Own w (fun _ => False) _ (flashL f1 M' ⟨b0, b1, [], -1⟩)) := ⟨by have h := ho.out; simpa using h⟩
      obtain ⟨wo, rfl⟩ : ∃ wo : World, wo = wr := ⟨_, rfl⟩
      go_loopg [50] nm (fun g2 vj wx => ∃ (j : Nat) (M2 : FA), j + g2 = nm ∧ vj = .int .i64 j ∧ Hidd (Own w (fun _ => False) wx (flashL f1 M2 ⟨b0, b1, mrk.take j, -1⟩)))
      case atStart => exact ⟨0, M', by omega, rfl, ⟨by have h := ho.out; simpa using h⟩⟩
      case round =>
        clear ho
        obtain ⟨j, M2, hgj, rfl, ho⟩ := hrel
        cases gk with
        | succ g2 =>
          have hj : j < nm := by omega
          have dj : decide (j < nm) = true := decide_eq_true hj
          have bj0 : (0 : Int) ≤ (j : Int) := by omega
          have bj1 : (j : Int) < (nm : Int) := by omega
          have hgj2 : j + 1 + g2 = nm := by omega
          have hjb : (j : Int) ≤ 10000 := by have := hmM.out.2; omega
          have hB := ho.out.below fun _ => id
          obtain ⟨v, hvi⟩ : ∃ v, vm[j]? = some v := ⟨_, List.getElem?_eq_getElem (by rw [hlM.out]; exact hj)⟩
          obtain ⟨xs, hxs, Ap, np, cp, rfl, hnp, hcp, hcm, hCp⟩ := pgs_get (pgs_below hPM.out hB) hvi
          obtain ⟨a, rfl, z0⟩ := hCM.out.below hB j _ hvi
          have hx100 : Hidd (np ≤ 100) := ⟨by rw [← hnp]; exact hbM.out xs (List.mem_of_getElem? hxs)⟩
          have hsucc : Hidd (mrk.take (j + 1) = mrk.take j ++ [xs.take np]) := ⟨by rw [List.take_add_one, hxs, List.take_of_length_le (Nat.le_of_eq hnp)]; rfl⟩
          obtain ⟨A20, n20, c20, v20, A21, n21, c21, v21, A2M, n2m, c2m, v2m⟩ := M2
          have hrow := (show wr.ownsRow 0 22 1 (.slice A2M n2m c2m) n2m v2m from ho.out.get 3 rfl).1
          have hpl := (show (pgs v2m (mrk.take j)).holds wr from ho.out.get 6 rfl).1
          have hn2 : Hidd (n2m ≤ 10000) := ⟨by have h1 := hmM.out.2; rw [List.length_take] at hpl; rw [Nat.mul_one] at hrow; omega⟩
          replace hnp := Hidd.mk hnp
          replace hCp := Hidd.mk hCp
          clear hgj hj hB hvi hxs hcp hcm hrow hpl
          go_wp2
          obtain ⟨W0, hW0⟩ : ∃ zz, zz = World.drew wr := ⟨_, rfl⟩
          refine wp_region_flow [([0, 1, 6, 2, 3, 4], some (5, [true])), ([], some (7, [false, true])), ([], some (8, [false, false, true])), ([], some (9, [false, false, false, true])), ([10, 11], some (12, [false, false, false, false, false]))] (by kernel_rfl) (by kernel_rfl) ?_
          rw [show ({ wr with drawn := wr.drawn + 1 } : World) = W0 from hW0.symm]
          replace hW0 := Hidd.mk hW0
          simp only [opsF, List.map_cons, List.map_nil, List.getD_cons_succ, List.getD_cons_zero, Option.map]
          have ho2 := Hidd.mk (show Own w (fun _ => False) W0 _ by rw [hW0.out]; exact ho.out.drew)
          have hCp2 := Hidd.mk (show Cells W0 Ap _ by rw [hW0.out]; exact hCp.out.drew)
          clear hW0 ho hCp z0
          obtain ⟨x0, x1, x2, x3⟩ := flash_cells ho2.out 0 rfl
          dsimp only at x0 x1 x2 x3
          have hfl := ho2.out.lt 0 rfl
          have hTb : ¬ (Value.slice A2M n2m c2m).ownBlock = some f1 := fun e => ho2.out.apart 0 3 rfl rfl (by decide) f1 rfl e
          obtain ⟨T, hT⟩ : ∃ T : Nat → Prop, T = (row 22 1 (.slice A2M n2m c2m) n2m v2m).foot := ⟨_, rfl⟩
          replace hTb : ¬ T f1 := by rw [hT]; exact hTb
          have hloc : Hidd (Own W0 T W0 [row 22 1 (.slice A2M n2m c2m) n2m v2m]) := ⟨by rw [hT]; exact Own.one (ho2.out.get 3 rfl)⟩
          replace hT := Hidd.mk hT
          refine FlW.stage (fun zz => Kept T W0 zz) (Kept.refl _ _) ?_
          repeat (first | (refine StQ.skip (by rfl) ?_; simp only [Act.put, List.setIfInBounds_toArray, List.set_cons_zero, List.set_cons_succ]) | (refine StQ.go' (by rfl) (Exists.intro ?_ (And.intro (fun w' hS => ?_) ?_)); rotate_left; (focus (have hc := Kept.cellAt hS; go_simp; try with_reducible rfl)); simp only [Act.put, List.setIfInBounds_toArray, List.set_cons_zero, List.set_cons_succ]))
          refine StQ.nil ?_
          refine FlO.go (by rfl) (fun K hK => ?_); go_simp; refine hK.out _ _ (.inr ⟨Kept.alloc _ _ _, trivial⟩) ?_; clear hK K
          have hl1' := row_lit hloc.out 5 1 0 #[] (nums .u8 []) rfl rfl (by decide)
          refine FlW.stage (fun _ => True) trivial (StQ.nil ?_)
          refine FlO.go (by rfl) (fun K hK => ?_)
          (refine appb_op _ _ rfl hl1' 0 _ 0 0 [] rfl rfl Ap np cp xs rfl hnp.out (hCp2.out.alloc _) (by have := hx100.out; omega) ?_; intro A4 c4 w4 hl4 _; rw [Nat.zero_add, List.nil_append] at hl4)
          refine hK.out _ _ (.inr ⟨hl4.kept, trivial⟩) ?_
          clear hK K
          clear hl1' hloc hCp2
          replace hl4 := Hidd.mk hl4
          refine FlW.stage (fun _ => True) trivial (StQ.nil ?_)
          refine FlO.go (by rfl) (fun K hK => ?_); go_simp; refine hK.out _ _ (.inr ⟨hl4.out.kept.trans (Kept.alloc _ _ _), trivial⟩) ?_; clear hK K
          have hl5 := row_lit hl4.out 22 1 1 #[.slice A4 np c4] [.slice A4 np c4] rfl rfl (by decide)
          refine FlW.stage (fun _ => True) trivial (StQ.nil ?_)
          refine FlO.go (by rfl) (fun K hK => ?_)
          (refine wp_row _ _ 49 rfl 22 iB (.slice none 0 0) 1 24 Try.underlying49 hIB.out.1 hIB.out.2.1 hIB.out.2.2.1 hIB.out.2.2.2 (by rfl) (by decide) hl5 2 A2M n2m c2m v2m rfl rfl (some ⟨w4.heap.size, 0, none⟩) 1 1 [.slice A4 np c4] rfl rfl (row_cells hl5 0 rfl) (by intro _ h; cases h) (pg_one _ _ _) (by have := hn2.out; unfold maxLen; omega) (by have := hn2.out; omega) ?_; intro A6 c6 w6 hl6 _)
          refine hK.out _ _ (.inr ⟨hl6.kept, trivial⟩) ?_
          clear hK K
          clear hl5 hl4
          rw [hT.out] at hl6
          obtain ⟨⟨g0, g1⟩, hfin⟩ := flash_fin2 (M := ⟨A20, n20, c20, v20, A21, n21, c21, v21, A2M, n2m, c2m, v2m⟩) ((ho2.out.frame 3 rfl hl6).reorder [3, 4, 5, 2, 6, 7, 8, 1] rfl (by decide)) (Nat.le_refl np)
          replace hfin := Hidd.mk hfin
          dsimp only at g0
          clear hl6 ho2 x0 x1 x2 x3
          refine FlW.stage (fun zz => zz = _) rfl ?_
          repeat (first | (refine StQ.skip (by rfl) ?_; simp only [Act.put, List.setIfInBounds_toArray, List.set_cons_zero, List.set_cons_succ]) | (refine StQ.go' (by rfl) (Exists.intro ?_ (And.intro (fun w' hS => ?_) ?_)); rotate_left; (focus (rw [hS]; go_simp; try with_reducible rfl)); simp only [Act.put, List.setIfInBounds_toArray, List.set_cons_zero, List.set_cons_succ]))
          refine StQ.nil ?_
          refine FlO.go (by rfl) (fun K hK => ?_); go_simp; refine hK.out _ _ (.inr trivial) ?_; clear hK K
          refine FlW.nil (Calm.normal ?_)
          go_wp2
          go_roundg g2
          case rel => exact ⟨j + 1, _, hgj2, by go_num, ⟨by rw [hsucc.out]; exact hfin.out⟩⟩
          case measure => omega
        | zero =>
          obtain rfl : j = nm := by omega
          have dj : decide (j < j) = false := by simp
          have hall : mrk.take j = mrk := List.take_of_length_le (by have := hmM.out; omega)
          rw [hall] at ho
          clear hall
          go_wp2
          (try rw [Exit.noGoto_ret])
          go_ret
          exact ⟨f1, M2, rfl, hO2.out.made (Own.fresh ho.out)⟩
end Go.Proofs.Ytjbhcmkloamcmaa
