/- A new monitor; Report in one. -/
import Derived.Test.YtpiahnecpbalhaaHeD
import Derived.Deep.OwnRows
namespace Go.Proofs.Ytpiahnecpbalhaa
open Go.RowKit

theorem made_nums (k : IntKind) (n : Nat) : (madeCells #[.int k 0] n).toList = nums k (List.replicate n 0) := by
  have h : madeCells #[.int k 0] n = (nums k (List.replicate n 0)).toArray := by
    simp only [madeCells, nums]
    apply Array.ext
    · simp
    · intro i h1 h2
      simp [Nat.mod_one]
  rw [h]
theorem made_size (k : IntKind) (n : Nat) : (madeCells #[.int k 0] n).size = n * 1 := by
  have := congrArg List.length (made_nums k n)
  rw [nums_length, List.length_replicate] at this
  simpa using this
theorem info_u32 : (Try.prog.info? 36).map (fun i => (i.zero, i.size, i.bytes)) = some (some (.int .u32 0), 1, 4) := by kernel_rfl
theorem info_int : (Try.prog.info? 3).map (fun i => (i.zero, i.size, i.bytes)) = some (some (.int .i64 0), 1, 8) := by kernel_rfl
set_option maxRecDepth 100000
set_option maxHeartbeats 8000000
theorem new_own (node : Int) (A : Option Addr) (n c : Nat) (ps : List Pt) (w : World) (hA : Cells w A (ps.flatMap Pt.cells)) (hl : ps.length = n) (hn : n ≤ 1000) :
    Calls Try.prog 15 #[.int .i64 node, .slice A n c] w fun e w' => ∃ b M, e = .returned (.pointer (some ⟨b, 0, none⟩)) ∧ Own w (fun _ => False) w' [Res.pack (monL b node n M none 0 0 ps (List.replicate n 0) (List.replicate n 0) [])] := by
  have hm1 : ∀ W : World, (Instr.makeSlice 56 (.int .i64 (n : Int)) (.int .i64 (n : Int))).run Try.prog W = _ := run_make_row' 56 36 (.int .u32 0) 4 (by rfl) info_u32 rfl .i64 .i64 n (by omega) (by omega)
  have hm2 : ∀ W : World, (Instr.makeSlice 51 (.int .i64 (n : Int)) (.int .i64 (n : Int))).run Try.prog W = _ := run_make_row' 51 3 (.int .i64 0) 8 (by rfl) info_int rfl .i64 .i64 n (by omega) (by omega)
  have hA2 := Hidd.mk hA
  have hl2 := Hidd.mk hl
  clear hA hl
  obtain ⟨iP, hIP⟩ := info_parts info_part
  replace hIP := Hidd.mk hIP
  go_enter Try.func15, Try.ntmps15
  go_wp2
  obtain ⟨W0, hW0⟩ : ∃ zz, zz = World.drew w := ⟨_, rfl⟩
  refine wp_region_tree (.three [0, 2, 4, 7, 5, 8] 1 [true] (.three [] 3 [false, true] (.two [] 6 [false, false, true] (.one [] 9 [false, false, false, true] (.one [10] 11 [false, false, false, false, false] (.leaf [12]))) 9 [false, false, true] (.one [] 6 [false, false, false, true] (.one [10] 11 [false, false, false, false, false] (.leaf [12])))) 6 [false, true] (.two [] 3 [false, false, true] (.one [] 9 [false, false, false, true] (.one [10] 11 [false, false, false, false, false] (.leaf [12]))) 9 [false, false, true] (.one [] 3 [false, false, false, true] (.one [10] 11 [false, false, false, false, false] (.leaf [12])))) 9 [false, true] (.two [] 3 [false, false, true] (.one [] 6 [false, false, false, true] (.one [10] 11 [false, false, false, false, false] (.leaf [12]))) 6 [false, false, true] (.one [] 3 [false, false, false, true] (.one [10] 11 [false, false, false, false, false] (.leaf [12]))))) 6 [true] (.two [] 1 [false, true] (.two [] 3 [false, false, true] (.one [] 9 [false, false, false, true] (.one [10] 11 [false, false, false, false, false] (.leaf [12]))) 9 [false, false, true] (.one [] 3 [false, false, false, true] (.one [10] 11 [false, false, false, false, false] (.leaf [12])))) 9 [false, true] (.one [] 1 [false, false, true] (.one [] 3 [false, false, false, true] (.one [10] 11 [false, false, false, false, false] (.leaf [12]))))) 9 [true] (.two [] 1 [false, true] (.two [] 3 [false, false, true] (.one [] 6 [false, false, false, true] (.one [10] 11 [false, false, false, false, false] (.leaf [12]))) 6 [false, false, true] (.one [] 3 [false, false, false, true] (.one [10] 11 [false, false, false, false, false] (.leaf [12])))) 6 [false, true] (.one [] 1 [false, false, true] (.one [] 3 [false, false, false, true] (.one [10] 11 [false, false, false, false, false] (.leaf [12])))))) (by kernel_rfl) (by kernel_rfl) ?_
  rw [show ({ w with drawn := w.drawn + 1 } : World) = W0 from hW0.symm]
  replace hW0 := Hidd.mk hW0
  simp only [Tr.map, List.map_cons, List.map_nil, List.getD_cons_succ, List.getD_cons_zero]
  have ho := Hidd.mk (show Own w (fun _ => False) W0 [] by rw [hW0.out]; exact (Own.nil w _).drew)
  clear hW0
  refine TrW.three (fun _ => True) trivial ?_
  repeat (first | (refine StQ.skip (by rfl) ?_; simp only [Act.put, List.setIfInBounds_toArray, List.set_cons_zero, List.set_cons_succ]) | (refine StQ.go' (by rfl) (Exists.intro ?_ (And.intro (fun w' hS => ?_) ?_)); rotate_left; (focus (skip; go_simp; try with_reducible rfl)); simp only [Act.put, List.setIfInBounds_toArray, List.set_cons_zero, List.set_cons_succ]))
  refine StQ.nil ?_
  refine ⟨?_, ?_, ?_⟩
  all_goals repeat' (first
    | (refine TrW.three (fun _ => True) trivial (StQ.nil ⟨?_, ?_, ?_⟩))
    | (refine TrW.two (fun _ => True) trivial (StQ.nil ⟨?_, ?_⟩))
    | (refine TrW.one (fun _ => True) trivial (StQ.nil ?_))
    | (refine TrW.one (fun _ => True) trivial ?_; repeat (refine StQ.go' (by rfl) (Exists.intro ?_ (And.intro (fun w' hS => ?_) ?_)); rotate_left; (focus (go_simp; try with_reducible rfl)); simp only [Act.put, List.setIfInBounds_toArray, List.set_cons_zero, List.set_cons_succ]); refine StQ.nil ?_)
    | (refine TrW.leaf (fun _ => True) trivial ?_; repeat (refine StQ.go' (by rfl) (Exists.intro ?_ (And.intro (fun w' hS => ?_) ?_)); rotate_left; (focus (go_simp; try with_reducible rfl)); simp only [Act.put, List.setIfInBounds_toArray, List.set_cons_zero, List.set_cons_succ]); refine StQ.nil ?_)
    | (refine TrO.go (by rfl) (fun K hK => ?_); first
        | (refine wp_row _ _ 26 rfl 31 iP (.agg #[.int .i64 0, .int .i64 0, .int .i64 0, .int .i64 0, .int .i64 0, .int .u8 0, .int .u8 0, .int .u8 0, .int .u8 0]) 9 48 Try.underlying26 hIP.out.1 hIP.out.2.1 hIP.out.2.2.1 hIP.out.2.2.2 (by rfl) (by decide) ho.out 0 _ 0 0 [] rfl rfl A n c (ps.flatMap Pt.cells) rfl (by rw [flat_len pcells_len, hl2.out]) (hA2.out.below (ho.out.below fun _ => id)) (cells_ne pcells_len (by decide) hA2.out _ hl2.out) (one_flat pt_one _) (by unfold maxLen; omega) (by omega) ?_; intro A6 c6 w6 ho6 hk6; refine hK.out _ _ (.inr (by simp [oblig])) ?_; clear hK K hk6 ho; rw [Nat.zero_add] at ho6 ⊢; rw [List.nil_append] at ho6; have ho := Hidd.mk ho6; clear ho6)
        | (refine wp_row _ _ 26 rfl 31 iP (.agg #[.int .i64 0, .int .i64 0, .int .i64 0, .int .i64 0, .int .i64 0, .int .u8 0, .int .u8 0, .int .u8 0, .int .u8 0]) 9 48 Try.underlying26 hIP.out.1 hIP.out.2.1 hIP.out.2.2.1 hIP.out.2.2.2 (by rfl) (by decide) ho.out 1 _ 0 0 [] rfl rfl A n c (ps.flatMap Pt.cells) rfl (by rw [flat_len pcells_len, hl2.out]) (hA2.out.below (ho.out.below fun _ => id)) (cells_ne pcells_len (by decide) hA2.out _ hl2.out) (one_flat pt_one _) (by unfold maxLen; omega) (by omega) ?_; intro A6 c6 w6 ho6 hk6; refine hK.out _ _ (.inr (by simp [oblig])) ?_; clear hK K hk6 ho; rw [Nat.zero_add] at ho6 ⊢; rw [List.nil_append] at ho6; have ho := Hidd.mk ho6; clear ho6)
        | (refine wp_row _ _ 26 rfl 31 iP (.agg #[.int .i64 0, .int .i64 0, .int .i64 0, .int .i64 0, .int .i64 0, .int .u8 0, .int .u8 0, .int .u8 0, .int .u8 0]) 9 48 Try.underlying26 hIP.out.1 hIP.out.2.1 hIP.out.2.2.1 hIP.out.2.2.2 (by rfl) (by decide) ho.out 2 _ 0 0 [] rfl rfl A n c (ps.flatMap Pt.cells) rfl (by rw [flat_len pcells_len, hl2.out]) (hA2.out.below (ho.out.below fun _ => id)) (cells_ne pcells_len (by decide) hA2.out _ hl2.out) (one_flat pt_one _) (by unfold maxLen; omega) (by omega) ?_; intro A6 c6 w6 ho6 hk6; refine hK.out _ _ (.inr (by simp [oblig])) ?_; clear hK K hk6 ho; rw [Nat.zero_add] at ho6 ⊢; rw [List.nil_append] at ho6; have ho := Hidd.mk ho6; clear ho6)
        | (go_simp; refine hK.out _ (World.alloc _ (.cells #[] 31 (0, 0))) (.inr (by simp [oblig])) ?_; clear hK K; have ho1 := row_lit ho.out 31 9 0 #[] [] rfl rfl (by decide); clear ho; generalize World.alloc _ _ = W1 at ho1 ⊢; have ho := Hidd.mk ho1; clear ho1)
        | (go_simp; refine hK.out _ (World.alloc _ (.cells (madeCells #[.int .u32 0] n) 36 (0, 0))) (.inr (by simp [oblig])) ?_; clear hK K; have ho1 := row_lit ho.out 36 1 n _ _ (made_nums .u32 n) (made_size _ _) (by unfold maxLen; omega); clear ho; generalize World.alloc _ _ = W1 at ho1 ⊢; have ho := Hidd.mk ho1; clear ho1)
        | (go_simp; refine hK.out _ (World.alloc _ (.cells (madeCells #[.int .i64 0] n) 3 (0, 0))) (.inr (by simp [oblig])) ?_; clear hK K; have ho1 := row_lit ho.out 3 1 n _ _ (made_nums .i64 n) (made_size _ _) (by unfold maxLen; omega); clear ho; generalize World.alloc _ _ = W1 at ho1 ⊢; have ho := Hidd.mk ho1; clear ho1)
        | (go_simp; refine hK.out _ _ (.inr (by simp [oblig])) ?_; clear hK K; generalize hW1 : World.alloc _ _ = W1; have ho1 : Own w (fun _ => False) W1 _ := (by rw [← hW1]; exact ho.out.alloc _); clear ho hW1; have ho := Hidd.mk ho1; clear ho1)))
  all_goals refine Calm.normal ?_
  all_goals go_wp2
  all_goals go_ret
  all_goals have ho1 := row_nil ho.out 54 5
  all_goals first
    | exact ⟨_, ⟨_, _, _, _, _, _⟩, rfl, (ho1.reorder (M := monL _ node n ⟨_, _, _, _, _, _⟩ none 0 0 ps _ _ []) [1, 2, 3, 4, 0] rfl (by decide)).fresh⟩
    | exact ⟨_, ⟨_, _, _, _, _, _⟩, rfl, (ho1.reorder (M := monL _ node n ⟨_, _, _, _, _, _⟩ none 0 0 ps _ _ []) [1, 2, 4, 3, 0] rfl (by decide)).fresh⟩
    | exact ⟨_, ⟨_, _, _, _, _, _⟩, rfl, (ho1.reorder (M := monL _ node n ⟨_, _, _, _, _, _⟩ none 0 0 ps _ _ []) [1, 3, 2, 4, 0] rfl (by decide)).fresh⟩
    | exact ⟨_, ⟨_, _, _, _, _, _⟩, rfl, (ho1.reorder (M := monL _ node n ⟨_, _, _, _, _, _⟩ none 0 0 ps _ _ []) [1, 3, 4, 2, 0] rfl (by decide)).fresh⟩
    | exact ⟨_, ⟨_, _, _, _, _, _⟩, rfl, (ho1.reorder (M := monL _ node n ⟨_, _, _, _, _, _⟩ none 0 0 ps _ _ []) [1, 4, 2, 3, 0] rfl (by decide)).fresh⟩
    | exact ⟨_, ⟨_, _, _, _, _, _⟩, rfl, (ho1.reorder (M := monL _ node n ⟨_, _, _, _, _, _⟩ none 0 0 ps _ _ []) [1, 4, 3, 2, 0] rfl (by decide)).fresh⟩
theorem report_own {w w0 : World} {S : Nat → Prop} {L : List Res} {b : Nat} {n : Nat} {M : MA} {OA : Option Addr} {on oc : Nat} {ps : List Pt} {last again : List Int} {out : List Rec5} (nd : Nat) (k : Nat) (hO : Own w0 S w L) (hk : L[k]? = some (Res.pack (monL b nd n M OA on oc ps last again out)))
    (round kind p : Nat) (hp : p < n) (hkd : kind < 4) (hround : round < 1048576) (hn : n ≤ 255) (hnd : nd < 256) (x : Pt) (hx : ps[p]? = some x) (a : Nat) (hxa : x.rc[kind]? = some a) (l g : Int) (hl : last[p]? = some l) (hg : again[p]? = some g) (hg0 : 0 ≤ g) (hg1 : g ≤ 1000000) (hl0 : 0 ≤ l) (hl1 : l ≤ 1048576) (hon : on ≤ 1000)
    (a' : Nat) (l' g' : Int) (hr : repS a l g round = (a', l', g')) :
    Calls Try.prog 20 #[.pointer (some ⟨b, 0, none⟩), .int .u32 round, .int .i64 (p : Int), .int .u8 kind] w fun e w' => ∃ OA' oc', e = .returned (.tuple #[.int .u8 (a' : Nat), .nilIface]) ∧
      Own w0 S w' (L.set k (Res.pack (monL b nd n M OA' (if on < 4 then on + 1 else on) oc' ps (last.set p l') (again.set p g') (if on < 4 then out ++ [⟨round, nd, p, kind, a'⟩] else out)))) := by
  unfold repS at hr
  by_cases h1 : a = 1
  · rw [if_pos h1] at hr
    by_cases h2 : l ≠ 0 ∧ (round : Int) ≤ l
    · rw [if_pos h2] at hr
      by_cases h3 : 3 ≤ g + 1
      · rw [if_pos h3] at hr
        injection hr with e1 e2
        injection e2 with e2 e3
        subst e1 e2 e3
        exact report_row3 nd k hO hk round kind p hp hkd hround hn hnd x hx a hxa l g hl hg hg0 hg1 hl0 hl1 hon h1 h2.1 h2.2 h3
      · rw [if_neg h3] at hr
        injection hr with e1 e2
        injection e2 with e2 e3
        subst e1 e2 e3
        exact report_row2 nd k hO hk round kind p hp hkd hround hn hnd x hx a hxa l g hl hg hg0 hg1 hl0 hl1 hon h1 h2.1 h2.2 h3
    · rw [if_neg h2] at hr
      injection hr with e1 e2
      injection e2 with e2 e3
      subst e2 e3
      rw [if_neg (by omega)] at e1
      subst e1
      by_cases h3 : l = 0
      · exact report_rest0 nd k hO hk round kind p hp hkd hround hn hnd x hx a hxa l g hl hg hg0 hg1 hl0 hl1 hon h1 h3
      · exact report_rest1 nd k hO hk round kind p hp hkd hround hn hnd x hx a hxa l g hl hg hg0 hg1 hl0 hl1 hon h1 h3 (fun h => h2 ⟨h3, h⟩)
  · rw [if_neg h1] at hr
    injection hr with e1 e2
    injection e2 with e2 e3
    subst e1 e2 e3
    exact report_plain nd k hO hk round kind p hp hkd hround hn hnd x hx a hxa l g hl hg hg0 hg1 hl0 hl1 hon h1
end Go.Proofs.Ytpiahnecpbalhaa
