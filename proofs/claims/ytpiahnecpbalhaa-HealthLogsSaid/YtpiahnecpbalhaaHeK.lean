/- The log: Put and List. -/
import Derived.Test.YtpiahnecpbalhaaHeC
namespace Go.Proofs.Ytpiahnecpbalhaa
open Go.RowKit

theorem flatR_append' (out : List Rec5) (x : Rec5) : out.flatMap Rec5.cells ++ x.cells = (out ++ [x]).flatMap Rec5.cells := by simp
def logL (b : Nat) (A : Option Addr) (n c : Nat) (rs : List Rec5) : List Res := [blk b (.cells #[.slice A n c] 63), row 54 5 (.slice A n c) n (rs.flatMap Rec5.cells)]
/-- One record more; the eldest goes, if there are too many. -/
def lst (rs : List Rec5) (x : Rec5) : List Rec5 := if 16 < (rs ++ [x]).length then (rs ++ [x]).drop 1 else rs ++ [x]
theorem flat_drop1 (rs : List Rec5) : (rs.flatMap Rec5.cells).drop 5 = (rs.drop 1).flatMap Rec5.cells := by
  rcases rs with _ | ⟨x, rs⟩
  · rfl
  · rfl
set_option maxRecDepth 100000
set_option maxHeartbeats 8000000
theorem put_own {w w0 : World} {S : Nat → Prop} {L : List Res} {b : Nat} {A : Option Addr} {n c : Nat} {rs : List Rec5} (k : Nat) (hO : Own w0 S w L) (hk : L[k]? = some (Res.pack (logL b A n c rs))) (x : Rec5) (hl : rs.length = n) (hn : n ≤ 16) :
    Calls Try.prog 24 #[.pointer (some ⟨b, 0, none⟩), .agg #[.int .u32 x.r, .int .u8 x.n, .int .u8 x.p, .int .u8 x.k, .int .u8 x.d]] w fun e w' => e = .returned (.tuple #[]) ∧ ∃ A' c', Own w0 S w' (L.set k (Res.pack (logL b A' (lst rs x).length c' (lst rs x)))) := by
  have ho := Hidd.mk (hO.open_ k hk)
  obtain ⟨iR, hIR⟩ := info_parts info_rec
  replace hIR := Hidd.mk hIR
  have hO2 := Hidd.mk hO
  have hk2 := Hidd.mk hk
  replace hl := Hidd.mk hl
  clear hO hk
  go_enter Try.func24, Try.ntmps24
  have ho1 := Hidd.mk (ho.out.alloc (.cells #[.int .u32 x.r, .int .u8 x.n, .int .u8 x.p, .int .u8 x.k, .int .u8 x.d] 54 (0, 0)))
  go_wp2
  obtain ⟨W, rfl⟩ : ∃ W : World, W = w := ⟨_, rfl⟩
  generalize W.heap.size = q at ho1 ⊢
  generalize World.alloc W _ = wa at ho1 ⊢
  obtain ⟨W0, hW0⟩ : ∃ zz, zz = World.drew wa := ⟨_, rfl⟩
  refine wp_region_flow [([0, 1, 5, 2, 3, 4], some (6, [true])), ([], some (7, [false, true])), ([8, 9], some (10, [false, false, false]))] (by kernel_rfl) (by kernel_rfl) ?_
  rw [show ({ wa with drawn := wa.drawn + 1 } : World) = W0 from hW0.symm]
  replace hW0 := Hidd.mk hW0
  simp only [opsF, List.map_cons, List.map_nil, List.getD_cons_succ, List.getD_cons_zero, Option.map]
  have ho2 := Hidd.mk (show Own W _ W0 _ by rw [hW0.out]; exact ho1.out.drew)
  clear hW0 ho1
  have x0 := ho2.out.cell 1 rfl 0
  obtain ⟨y0, y1, y2, y3, y4⟩ := cells5 ho2.out 0 rfl
  have hql := ho2.out.lt 0 rfl
  have hbl := ho2.out.lt 1 rfl
  have hTb : ¬ (Value.slice A n c).ownBlock = some b := fun e => ho2.out.apart 1 2 rfl rfl (by decide) b rfl e
  have hTq : ¬ (Value.slice A n c).ownBlock = some q := fun e => ho2.out.apart 0 2 rfl rfl (by decide) q rfl e
  obtain ⟨T, hT⟩ : ∃ T : Nat → Prop, T = fun q => (Value.slice A n c).ownBlock = some q := ⟨_, rfl⟩
  replace hTb : ¬ T b := by rw [hT]; exact hTb
  replace hTq : ¬ T q := by rw [hT]; exact hTq
  replace hT := Hidd.mk hT
  refine FlW.stage (fun zz => Kept T W0 zz) (Kept.refl _ _) ?_
  repeat (first | (refine StQ.skip (by rfl) ?_; simp only [Act.put, List.setIfInBounds_toArray, List.set_cons_zero, List.set_cons_succ]) | (refine StQ.go' (by rfl) (Exists.intro ?_ (And.intro (fun w' hS => ?_) ?_)); rotate_left; (focus (have hc := Kept.cellAt hS; go_simp; try with_reducible rfl)); simp only [Act.put, List.setIfInBounds_toArray, List.set_cons_zero, List.set_cons_succ]))
  refine StQ.nil ?_
  refine FlO.go (by rfl) (fun K hK => ?_); go_simp; refine hK.out _ _ (.inr ⟨Kept.alloc _ _ _, trivial⟩) ?_; clear hK K
  refine FlW.stage (fun _ => True) trivial (StQ.nil ?_)
  refine FlO.go (by rfl) (fun K hK => ?_)
  (refine wp_row _ _ 40 rfl 54 iR (.agg #[.int .u32 0, .int .u8 0, .int .u8 0, .int .u8 0, .int .u8 0]) 5 8 Try.underlying40 hIR.out.1 hIR.out.2.1 hIR.out.2.2.1 hIR.out.2.2.2 (by rfl) (by decide) (ho2.out.alloc (.cells #[.int .u32 x.r, .int .u8 x.n, .int .u8 x.p, .int .u8 x.k, .int .u8 x.d] 54)) 3 A n c (rs.flatMap Rec5.cells) rfl rfl (some ⟨W0.heap.size, 0, none⟩) 1 1 (Rec5.cells x) rfl rfl (Cells.new _ _ _ _ rfl) (by intro _ h; cases h) (rval_one _) (by unfold maxLen; omega) (by omega) ?_; intro A6 c6 w6 ho6 hk6)
  refine hK.out _ _ (.inr ⟨by rw [hT.out]; exact (Kept.alloc _ _ _).trans hk6, trivial⟩) ?_
  clear hK K
  rw [flatR_append' rs x] at ho6
  replace ho6 := ho6.tail.tail
  have f0 := ho6.frozen 0 rfl 0
  have e0 := ho6.cell 0 rfl 0
  have h7 := ho6.set 0 rfl 0 (.slice A6 (n + 1) c6)
  replace h7 := Hidd.mk h7
  clear hk6 x0 y0 y1 y2 y3 y4 ho2 hql hbl
  refine FlW.stage (fun zz => zz = _) rfl ?_
  repeat (first | (refine StQ.skip (by rfl) ?_; simp only [Act.put, List.setIfInBounds_toArray, List.set_cons_zero, List.set_cons_succ]) | (refine StQ.go' (by rfl) (Exists.intro ?_ (And.intro (fun w' hS => ?_) ?_)); rotate_left; (focus (rw [hS]; go_simp; try with_reducible rfl)); simp only [Act.put, List.setIfInBounds_toArray, List.set_cons_zero, List.set_cons_succ]))
  refine StQ.nil ?_
  refine FlO.go (by rfl) (fun K hK => ?_); go_simp; refine hK.out _ _ (.inr trivial) ?_; clear hK K
  refine FlW.nil (Calm.normal ?_)
  clear ho6 e0 f0 hTb hTq hT
  generalize World.setCell w6 _ _ = W7 at h7 ⊢
  have x7 := h7.out.cell 0 rfl 0
  by_cases h16 : 16 < n + 1
  · obtain rfl : n = 16 := by omega
    obtain ⟨g6, rfl, _⟩ := head_any (show W7.ownsRow 0 54 5 (.slice A6 (16 + 1) c6) (16 + 1) ((rs ++ [x]).flatMap Rec5.cells) from h7.out.get 1 rfl) (by omega)
    have hcap := row_le h7.out 1 rfl
    have hc6 : 17 ≤ c6 := hcap.1
    have hcd : Hidd (Cells W7 (some ⟨g6, 5, none⟩) (((rs ++ [x]).drop 1).flatMap Rec5.cells)) := ⟨by
      have := (row_cells h7.out 1 rfl).drop 5
      rw [flat_drop1] at this
      exact this⟩
    have hlst : Hidd (lst rs x = (rs ++ [x]).drop 1) := ⟨by unfold lst; rw [if_pos (by rw [List.length_append, hl.out, List.length_singleton]; omega)]⟩
    have hdl : Hidd (((rs ++ [x]).drop 1).length = 16) := ⟨by rw [List.length_drop, List.length_append, hl.out]; rfl⟩
    obtain ⟨dl, hdl2⟩ : ∃ d, d = (rs ++ [x]).drop 1 := ⟨_, rfl⟩
    rw [← hdl2] at hcd hdl hlst
    clear hdl2 hcap
    have hlb := h7.out.lt 0 rfl
    go_wp2_with (at_builtin; have hl0 := row_lit h7.out 54 5 0 #[] [] rfl rfl (by decide); refine wpList_row rfl _ _ 40 rfl 54 iR (.agg #[.int .u32 0, .int .u8 0, .int .u8 0, .int .u8 0, .int .u8 0]) 5 8 Try.underlying40 hIR.out.1 hIR.out.2.1 hIR.out.2.2.1 hIR.out.2.2.2 (by rfl) (by decide) hl0 0 _ 0 0 [] rfl rfl (some ⟨g6, 5, none⟩) 16 _ (dl.flatMap Rec5.cells) rfl (by rw [flat_len rcells_len, hdl.out]) (hcd.out.alloc _) (by intro _ h; cases h) (one_flat rval_one _) (by unfold maxLen; omega) (by omega) ?_; intro A9 c9 w9 ho9; rw [Nat.zero_add] at ho9 ⊢; rw [List.nil_append] at ho9; have x9 := ho9.cell 1 rfl 0; have f9 := ho9.frozen 1 rfl 0; have hoX := Hidd.mk (ho9.set 1 rfl 0 (.slice A9 16 c9)); clear ho9 hl0 h7)
    have hfin : Ending.returned (.tuple #[]) = .returned (.tuple #[]) ∧ ∃ (A' : Option Addr) (c' : Nat), Own w0 S (w9.setCell ⟨b, 0, none⟩ (.slice A9 16 c9)) (L.set k (Res.pack (logL b A' (lst rs x).length c' (lst rs x)))) :=
      ⟨rfl, A9, c9, by
        rw [hlst.out, hdl.out]
        exact hO2.out.shut k hk2.out (show Own W _ _ (logL b A9 16 c9 dl) from hoX.out.reorder [1, 0] rfl (by decide))⟩
    first | exact bodyPost_end (v := .tuple #[]) (by simp [results, Try.results24, go_sem]) rfl hfin | exact bodyPost_ret (v := .tuple #[]) (by simp [results, Try.results24, go_sem]) rfl hfin
  · have hlst : Hidd (lst rs x = rs ++ [x]) := ⟨by unfold lst; rw [if_neg (by rw [List.length_append, hl.out, List.length_singleton]; exact h16)]⟩
    have d1 : decide ((16 : Int) < (n : Int) + 1) = false := by rw [decide_eq_false_iff_not]; omega
    clear h16
    go_wp2
    have hfin : Ending.returned (.tuple #[]) = .returned (.tuple #[]) ∧ ∃ (A' : Option Addr) (c' : Nat), Own w0 S W7 (L.set k (Res.pack (logL b A' (lst rs x).length c' (lst rs x)))) :=
      ⟨rfl, A6, c6, by
        rw [hlst.out, List.length_append, hl.out]
        exact hO2.out.shut k hk2.out (show Own W _ _ (logL b A6 (n + 1) c6 (rs ++ [x])) from h7.out)⟩
    first | exact bodyPost_end (v := .tuple #[]) (by simp [results, Try.results24, go_sem]) rfl hfin | exact bodyPost_ret (v := .tuple #[]) (by simp [results, Try.results24, go_sem]) rfl hfin
theorem put_nil (v : Value) (w : World) (x : Rec5) (hv : v = .agg #[.int .u32 x.r, .int .u8 x.n, .int .u8 x.p, .int .u8 x.k, .int .u8 x.d]) : Calls Try.prog 24 #[.pointer none, v] w fun e w' => e = .returned (.tuple #[]) ∧ Below w.heap.size w w' := by
  subst hv
  go_enter Try.func24, Try.ntmps24
  go_wp2
  exact bodyPost_ret (v := .tuple #[]) (by simp [results, Try.results24, go_sem]) rfl ⟨rfl, below_alloc (Below.refl _ _) _⟩
theorem list_nil (w : World) : Calls Try.prog 25 #[.pointer none] w fun e w' => e = .returned (.slice none 0 0) ∧ w = w' := by
  go_enter Try.func25, Try.ntmps25
  go_wp2
  go_ret
  exact ⟨rfl, rfl⟩
theorem list_own {w w0 : World} {S : Nat → Prop} {L : List Res} {b : Nat} {A : Option Addr} {n c : Nat} {rs : List Rec5} (k : Nat) (hO : Own w0 S w L) (hk : L[k]? = some (Res.pack (logL b A n c rs))) (hl : rs.length = n) (hn : n ≤ 1000000) :
    Calls Try.prog 25 #[.pointer (some ⟨b, 0, none⟩)] w fun e w' => ∃ A' c', e = .returned (.slice A' n c') ∧ Own w (fun _ => False) w' [row 54 5 (.slice A' n c') n (rs.flatMap Rec5.cells)] := by
  have ho := Hidd.mk (hO.open_ k hk)
  obtain ⟨iR, hIR⟩ := info_parts info_rec
  replace hIR := Hidd.mk hIR
  have x0 := ho.out.cell 0 rfl 0
  have hc := Hidd.mk (row_cells ho.out 1 rfl)
  have hlt := ho.out.lt 0 rfl
  replace hl := Hidd.mk hl
  clear hO hk
  go_enter Try.func25, Try.ntmps25
  go_wp2_with (at_builtin; have hl0 := row_lit (Own.nil w (fun _ => False)) 54 5 0 #[] [] rfl rfl (by decide); refine wpList_row rfl _ _ 40 rfl 54 iR (.agg #[.int .u32 0, .int .u8 0, .int .u8 0, .int .u8 0, .int .u8 0]) 5 8 Try.underlying40 hIR.out.1 hIR.out.2.1 hIR.out.2.2.1 hIR.out.2.2.2 (by rfl) (by decide) hl0 0 _ 0 0 [] rfl rfl A n c (rs.flatMap Rec5.cells) rfl (by rw [flat_len rcells_len, hl.out]) (hc.out.alloc _) (cells_ne rcells_len (by decide) hc.out _ hl.out) (one_flat rval_one _) (by unfold maxLen; omega) (by omega) ?_; intro A9 c9 w9 ho9; rw [Nat.zero_add] at ho9 ⊢; rw [List.nil_append] at ho9; replace ho9 := Hidd.mk ho9; clear hl0)
  go_ret
  exact ⟨A9, c9, rfl, ho9.out⟩
end Go.Proofs.Ytpiahnecpbalhaa
