/- Report, Seal of the reference's monitor. -/
import Derived.Test.YtpiahnecpbalhaaHeE
import Derived.Test.YtpiahnecpbalhaaTxt
namespace Go.Proofs.Ytpiahnecpbalhaa
open Go.RowKit

def monR (b : Nat) (node : Int) (n : Nat) (M : MA) (OA : Option Addr) (on oc : Nat) (ps : List Pt) (last again : List Int) (out : List Rec5) : List Res :=
  [blk b (.cells #[.int .i64 node, .slice M.PA n M.pc, .slice M.LA n M.lc, .slice M.GA n M.gc, .slice OA on oc] 92), row 31 9 (.slice M.PA n M.pc) n (ps.flatMap Pt.cells), row 3 1 (.slice M.LA n M.lc) n (nums .i64 last),
    row 3 1 (.slice M.GA n M.gc) n (nums .i64 again), row 54 5 (.slice OA on oc) on (out.flatMap Rec5.cells)]
set_option maxRecDepth 100000
set_option maxHeartbeats 8000000
theorem sealR_own {w w0 : World} {S : Nat → Prop} {L : List Res} {b : Nat} {node : Int} {n : Nat} {M : MA} {OA : Option Addr} {on oc : Nat} {ps : List Pt} {last again : List Int} {out : List Rec5} (k : Nat) (hO : Own w0 S w L) (hk : L[k]? = some (Res.pack (monR b node n M OA on oc ps last again out))) :
    Calls Try.prog 19 #[.pointer (some ⟨b, 0, none⟩)] w fun e w' => e = .returned (.slice OA on oc) ∧ Own w0 S w' (row 54 5 (.slice OA on oc) on (out.flatMap Rec5.cells) :: L.set k (Res.pack (monR b node n M none 0 0 ps last again []))) := by
  have ho := hO.open_ k hk
  obtain ⟨x0, x1, x2, x3, x4⟩ := cells5 ho 0 rfl
  have f4 := ho.frozen 0 rfl 4
  have h1 := ho.set 0 rfl 4 (.slice none 0 0)
  have hend : Hidd (Own w0 S (w.setCell ⟨b, 4, none⟩ (.slice none 0 0)) (row 54 5 (.slice OA on oc) on (out.flatMap Rec5.cells) :: L.set k (Res.pack (monR b node n M none 0 0 ps last again [])))) := ⟨by
    have h2 : Own w (Res.pack (monR b node n M OA on oc ps last again out)).foot (w.setCell ⟨b, 4, none⟩ (.slice none 0 0)) (monR b node n M none 0 0 ps last again [] ++ [row 54 5 (.slice OA on oc) on (out.flatMap Rec5.cells)]) :=
      (row_nil h1 54 5).reorder [1, 2, 3, 4, 0, 5] rfl (by decide)
    exact hO.call2 k hk h2.pack_in⟩
  clear ho h1 hO hk
  go_enter Try.func19, Try.ntmps19
  go_wp2
  go_ret
  exact ⟨rfl, hend.out⟩
theorem reportR_bad {w w0 : World} {S : Nat → Prop} {L : List Res} {b : Nat} {node : Int} {n : Nat} {M : MA} {OA : Option Addr} {on oc : Nat} {ps : List Pt} {last again : List Int} {out : List Rec5} (k : Nat) (hO : Own w0 S w L) (hk : L[k]? = some (Res.pack (monR b node n M OA on oc ps last again out)))
    (round kind : Nat) (part : Int) (hbad : part < 0 ∨ (n : Int) ≤ part ∨ 3 < kind ∨ 1048576 ≤ round) :
    Calls Try.prog 21 #[.pointer (some ⟨b, 0, none⟩), .int .u32 round, .int .i64 part, .int .i64 kind] w fun e w' => e = .returned (.tuple #[.int .u8 0, .string (numB 2)]) ∧ Below w.heap.size w w' := by
  have ho := hO.open_ k hk
  obtain ⟨x0, x1, x2, x3, x4⟩ := cells5 ho 0 rfl
  clear ho hO hk
  have i2 : (0 : Int) ≤ (kind : Int) := by omega
  by_cases h1 : part < 0
  · have d1 : decide (part < 0) = true := by simpa using h1
    go_enter Try.func21, Try.ntmps21
    go_wp2_with (go_at_call 36; refine (e_any 2 _ (by decide) (by decide)).mono ?_; rintro e w3 ⟨rfl, hb3⟩)
    go_ret2
    exact ⟨rfl, hb3⟩
  · obtain ⟨p, rfl⟩ : ∃ p : Nat, part = p := ⟨part.toNat, by omega⟩
    by_cases h2 : n ≤ p
    · have d1 : decide (n ≤ p) = true := by simpa using h2
      clear hbad
      go_enter Try.func21, Try.ntmps21
      go_wp2_with (go_at_call 36; refine (e_any 2 _ (by decide) (by decide)).mono ?_; rintro e w3 ⟨rfl, hb3⟩)
      go_ret2
      exact ⟨rfl, hb3⟩
    · have d1 : decide (n ≤ p) = false := by simpa using h2
      by_cases h3 : 3 < kind
      · have d2 : decide (3 < (kind : Int)) = true := by rw [decide_eq_true_eq]; omega
        clear hbad
        go_enter Try.func21, Try.ntmps21
        go_wp2_with (go_at_call 36; refine (e_any 2 _ (by decide) (by decide)).mono ?_; rintro e w3 ⟨rfl, hb3⟩)
        go_ret2
        exact ⟨rfl, hb3⟩
      · have d2 : decide (3 < (kind : Int)) = false := by rw [decide_eq_false_iff_not]; omega
        have d3 : decide (1048576 ≤ (round : Int)) = true := by rw [decide_eq_true_eq]; omega
        clear hbad
        go_enter Try.func21, Try.ntmps21
        go_wp2_with (go_at_call 36; refine (e_any 2 _ (by decide) (by decide)).mono ?_; rintro e w3 ⟨rfl, hb3⟩)
        go_ret2
        exact ⟨rfl, hb3⟩
theorem reportR_plain {w w0 : World} {S : Nat → Prop} {L : List Res} {b : Nat} {n : Nat} {M : MA} {OA : Option Addr} {on oc : Nat} {ps : List Pt} {last again : List Int} {out : List Rec5} (nd : Nat) (k : Nat) (hO : Own w0 S w L) (hk : L[k]? = some (Res.pack (monR b nd n M OA on oc ps last again out)))
    (round kind p : Nat) (hp : p < n) (hkd : kind < 4) (hround : round < 1048576) (hn : n ≤ 255) (hnd : nd < 256) (x : Pt) (hx : ps[p]? = some x) (a : Nat) (hxa : x.rc[kind]? = some a) (l g : Int) (hl : last[p]? = some l) (hg : again[p]? = some g) (_hg0 : 0 ≤ g) (_hg1 : g ≤ 1000000) (_hl0 : 0 ≤ l) (_hl1 : l ≤ 1048576) (hon : on ≤ 1000) (ha : a ≠ 1) :
    Calls Try.prog 21 #[.pointer (some ⟨b, 0, none⟩), .int .u32 round, .int .i64 (p : Int), .int .i64 kind] w fun e w' => ∃ OA' oc', e = .returned (.tuple #[.int .u8 (a : Nat), .string ⟨#[]⟩]) ∧
      Own w0 S w' (L.set k (Res.pack (monR b nd n M OA' (if on < 4 then on + 1 else on) oc' ps (last.set p l) (again.set p g) (if on < 4 then out ++ [⟨round, nd, p, kind, a⟩] else out)))) := by
  have ho := hO.open_ k hk
  obtain ⟨x0, x1, x2, x3, x4⟩ := cells5 ho 0 rfl
  obtain ⟨gP, eP, lP⟩ := head_any (show w.ownsRow 0 31 9 (.slice M.PA n M.pc) n (ps.flatMap Pt.cells) from ho.get 1 rfl) (by omega)
  obtain ⟨gL, eL, lL⟩ := head_any (show w.ownsRow 0 3 1 (.slice M.LA n M.lc) n (nums .i64 last) from ho.get 2 rfl) (by omega)
  obtain ⟨gG, eG, lG⟩ := head_any (show w.ownsRow 0 3 1 (.slice M.GA n M.gc) n (nums .i64 again) from ho.get 3 rfl) (by omega)
  obtain ⟨MPA, pc, MLA, lc, MGA, gc⟩ := M
  simp only at eP eL eG
  subst eP eL eG
  simp only at x0 x1 x2 x3 x4
  have y0 := cells_at (row_cells ho 1 rfl) ((flat_get pcells_len ps p (5 + kind) x hx (by omega)).trans (pt_rc hxa))
  have y1 := cells_at (row_cells ho 2 rfl) (nums_get (k := .i64) hl)
  have y2 := cells_at (row_cells ho 3 rfl) (nums_get (k := .i64) hg)
  rw [← Nat.add_assoc] at y0
  have fL := (show w.ownsRow 0 3 1 (.slice (some ⟨gL, 0, none⟩) n lc) n (nums .i64 last) from ho.get 2 rfl).frozenAt p
  have fG := (show w.ownsRow 0 3 1 (.slice (some ⟨gG, 0, none⟩) n gc) n (nums .i64 again) from ho.get 3 rfl).frozenAt p
  have nbL : ¬ b = gL := fun h => ho.apart 0 2 rfl rfl (by decide) b rfl (by rw [h]; rfl)
  have nbG : ¬ b = gG := fun h => ho.apart 0 3 rfl rfl (by decide) b rfl (by rw [h]; rfl)
  have nLG : ¬ gL = gG := fun h => ho.apart 2 3 rfl rfl (by decide) gL rfl (by rw [h]; rfl)
  have nLb : ¬ gL = b := fun h => nbL h.symm
  have nGb : ¬ gG = b := fun h => nbG h.symm
  have nGL : ¬ gG = gL := fun h => nLG h.symm
  have d0 : decide (3 < (kind : Int)) = false := by rw [decide_eq_false_iff_not]; omega
  have d1 : decide (1048576 ≤ (round : Int)) = false := by rw [decide_eq_false_iff_not]; omega
  have i0 : (0 : Int) ≤ (p : Int) := by omega
  have i1 : (p : Int) < (n : Int) := by omega
  have i2 : (0 : Int) ≤ (kind : Int) := by omega
  have i3 : (kind : Int) < 4 := by omega
  have dn : decide (n ≤ p) = false := by rw [decide_eq_false_iff_not]; omega
  have wn : IntKind.u8.wrap (nd : Int) = nd := by unfold IntKind.wrap; simp [IntKind.signed, IntKind.bits]; omega
  have wp : IntKind.u8.wrap (p : Int) = p := by unfold IntKind.wrap; simp [IntKind.signed, IntKind.bits]; omega
  have wk : IntKind.u8.wrap (kind : Int) = kind := by unfold IntKind.wrap; simp [IntKind.signed, IntKind.bits]; omega
  replace hx := Hidd.mk hx
  replace hxa := Hidd.mk hxa
  replace hl := Hidd.mk hl
  replace hg := Hidd.mk hg
  obtain ⟨iR, hIR⟩ := info_parts info_rec
  replace hIR := Hidd.mk hIR
  have hO2 := Hidd.mk hO
  have hk2 := Hidd.mk hk
  clear hO hk
  have da : ((a : Int) == 1) = false := by rw [beq_eq_false_iff_ne]; omega
  rw [set_get_self hl.out, set_get_self hg.out]
  clear ha
  replace ho := Hidd.mk ho
  by_cases h4 : on < 4
  · simp only [if_pos h4]
    have d4 : decide ((on : Int) < 4) = true := by rw [decide_eq_true_eq]; omega
    go_enter Try.func21, Try.ntmps21
    go_wp2
    obtain ⟨W, rfl⟩ : ∃ W : World, W = w := ⟨_, rfl⟩
    obtain ⟨W0, hW0⟩ : ∃ zz, zz = World.drew W := ⟨_, rfl⟩
    refine wp_region_flow [([0, 1, 5, 6, 11, 13, 15, 2, 7, 12, 14, 3, 8, 4, 9, 10, 16], some (17, [true])), ([], some (18, [false, true])), ([19, 20], some (21, [false, false, false]))] (by kernel_rfl) (by kernel_rfl) ?_
    rw [show ({ W with drawn := W.drawn + 1 } : World) = W0 from hW0.symm]
    replace hW0 := Hidd.mk hW0
    simp only [opsF, List.map_cons, List.map_nil, List.getD_cons_succ, List.getD_cons_zero, Option.map]
    have ho2 := Hidd.mk (show Own W (Res.pack (monR b nd n ⟨some ⟨gP, 0, none⟩, pc, some ⟨gL, 0, none⟩, lc, some ⟨gG, 0, none⟩, gc⟩ OA on oc ps last again out)).foot W0 [blk b (.cells #[.int .i64 (nd : Int), .slice (some ⟨gP, 0, none⟩) n pc, .slice (some ⟨gL, 0, none⟩) n lc, .slice (some ⟨gG, 0, none⟩) n gc, .slice OA on oc] 92), row 31 9 (.slice (some ⟨gP, 0, none⟩) n pc) n (ps.flatMap Pt.cells), row 3 1 (.slice (some ⟨gL, 0, none⟩) n lc) n (nums .i64 (last)), row 3 1 (.slice (some ⟨gG, 0, none⟩) n gc) n (nums .i64 (again)), row 54 5 (.slice OA on oc) on (out.flatMap Rec5.cells)] by rw [hW0.out]; exact ho.out.drew)
    clear x0 x1 x2 x3 x4 y0 y1 y2 fL fG
    obtain ⟨x0, x1, x2, x3, x4⟩ := cells5 ho2.out 0 rfl
    have hpl := ho2.out.lt 0 rfl
    have hTb : ¬ (Value.slice OA on oc).ownBlock = some b := fun e => ho2.out.apart 0 4 rfl rfl (by decide) b rfl e
    obtain ⟨T, hT⟩ : ∃ T : Nat → Prop, T = fun q => (Value.slice OA on oc).ownBlock = some q := ⟨_, rfl⟩
    replace hTb : ¬ T b := by rw [hT]; exact hTb
    replace hT := Hidd.mk hT
    clear hW0 ho
    refine FlW.stage (fun zz => Kept T W0 zz) (Kept.refl _ _) ?_
    repeat (first | (refine StQ.skip (by rfl) ?_; simp only [Act.put, List.setIfInBounds_toArray, List.set_cons_zero, List.set_cons_succ]) | (refine StQ.go' (by rfl) (Exists.intro ?_ (And.intro (fun w' hS => ?_) ?_)); rotate_left; (focus (have hc := Kept.cellAt hS; go_simp; try with_reducible rfl)); simp only [Act.put, List.setIfInBounds_toArray, List.set_cons_zero, List.set_cons_succ]))
    refine StQ.nil ?_
    refine FlO.go (by rfl) (fun K hK => ?_); go_simp; refine hK.out _ _ (.inr ⟨Kept.alloc _ _ _, trivial⟩) ?_; clear hK K
    refine FlW.stage (fun _ => True) trivial (StQ.nil ?_)
    refine FlO.go (by rfl) (fun K hK => ?_)
    (refine wp_row _ _ 40 rfl 54 iR (.agg #[.int .u32 0, .int .u8 0, .int .u8 0, .int .u8 0, .int .u8 0]) 5 8 Try.underlying40 hIR.out.1 hIR.out.2.1 hIR.out.2.2.1 hIR.out.2.2.2 (by rfl) (by decide) (ho2.out.alloc (.cells #[.int .u32 round, .int .u8 nd, .int .u8 p, .int .u8 kind, .int .u8 (a : Nat)] 54)) 5 OA on oc (out.flatMap Rec5.cells) rfl rfl (some ⟨W0.heap.size, 0, none⟩) 1 1 (Rec5.cells ⟨round, nd, p, kind, a⟩) rfl rfl (Cells.new _ _ _ _ rfl) (by intro _ h; cases h) (rval_one _) (by unfold maxLen; omega) (by omega) ?_; intro A6 c6 w6 ho6 hk6)
    refine hK.out _ _ (.inr ⟨by rw [hT.out]; exact (Kept.alloc _ _ _).trans hk6, trivial⟩) ?_
    clear hK K
    replace ho6 := ho6.tail
    have f4 := ho6.frozen 0 rfl 4
    have e4 := ho6.cell 0 rfl 4
    simp at e4
    have h7 := ho6.set 0 rfl 4 (.slice A6 (on + 1) c6)
    have hend : Hidd (Own W (Res.pack (monR b nd n ⟨some ⟨gP, 0, none⟩, pc, some ⟨gL, 0, none⟩, lc, some ⟨gG, 0, none⟩, gc⟩ OA on oc ps last again out)).foot (w6.setCell ⟨b, 4, none⟩ (.slice A6 (on + 1) c6)) (monR b nd n ⟨some ⟨gP, 0, none⟩, pc, some ⟨gL, 0, none⟩, lc, some ⟨gG, 0, none⟩, gc⟩ A6 (on + 1) c6 ps (last) (again) (out ++ [⟨round, nd, p, kind, a⟩]))) := ⟨by
      rw [flatR_append] at h7
      exact h7⟩
    clear h7 ho6 ho2 hk6 x0 x1 x2 x3 x4
    refine FlW.stage (fun zz => zz = _) rfl ?_
    repeat (first | (refine StQ.skip (by rfl) ?_; simp only [Act.put, List.setIfInBounds_toArray, List.set_cons_zero, List.set_cons_succ]) | (refine StQ.go' (by rfl) (Exists.intro ?_ (And.intro (fun w' hS => ?_) ?_)); rotate_left; (focus (rw [hS]; go_simp; try with_reducible rfl)); simp only [Act.put, List.setIfInBounds_toArray, List.set_cons_zero, List.set_cons_succ]))
    refine StQ.nil ?_
    refine FlO.go (by rfl) (fun K hK => ?_); go_simp; refine hK.out _ _ (.inr trivial) ?_; clear hK K
    refine FlW.nil (Calm.normal ?_)
    go_wp2
    go_ret2
    exact ⟨A6, c6, rfl, hO2.out.shut k hk2.out hend.out⟩
  · simp only [if_neg h4]
    have d4 : decide ((on : Int) < 4) = false := by rw [decide_eq_false_iff_not]; omega
    go_enter Try.func21, Try.ntmps21
    go_wp2
    obtain ⟨W, rfl⟩ : ∃ W : World, W = w := ⟨_, rfl⟩
    go_ret2
    have hend := hO2.out.shut k hk2.out (show Own W _ W (monR b nd n ⟨some ⟨gP, 0, none⟩, pc, some ⟨gL, 0, none⟩, lc, some ⟨gG, 0, none⟩, gc⟩ OA on oc ps (last) (again) out) from ho.out)
    first | exact ⟨OA, oc, rfl, hend⟩ | exact ⟨rfl, OA, oc, hend⟩
theorem reportR_row3 {w w0 : World} {S : Nat → Prop} {L : List Res} {b : Nat} {n : Nat} {M : MA} {OA : Option Addr} {on oc : Nat} {ps : List Pt} {last again : List Int} {out : List Rec5} (nd : Nat) (k : Nat) (hO : Own w0 S w L) (hk : L[k]? = some (Res.pack (monR b nd n M OA on oc ps last again out)))
    (round kind p : Nat) (hp : p < n) (hkd : kind < 4) (hround : round < 1048576) (hn : n ≤ 255) (hnd : nd < 256) (x : Pt) (hx : ps[p]? = some x) (a : Nat) (hxa : x.rc[kind]? = some a) (l g : Int) (hl : last[p]? = some l) (hg : again[p]? = some g) (_hg0 : 0 ≤ g) (_hg1 : g ≤ 1000000) (_hl0 : 0 ≤ l) (_hl1 : l ≤ 1048576) (hon : on ≤ 1000) (ha : a = 1) (h1 : l ≠ 0) (h2 : (round : Int) ≤ l) (h3 : 3 ≤ g + 1) :
    Calls Try.prog 21 #[.pointer (some ⟨b, 0, none⟩), .int .u32 round, .int .i64 (p : Int), .int .i64 kind] w fun e w' => ∃ OA' oc', e = .returned (.tuple #[.int .u8 (2 : Nat), .string ⟨#[]⟩]) ∧
      Own w0 S w' (L.set k (Res.pack (monR b nd n M OA' (if on < 4 then on + 1 else on) oc' ps (last.set p ((round : Int) + 1)) (again.set p (g + 1)) (if on < 4 then out ++ [⟨round, nd, p, kind, 2⟩] else out)))) := by
  have ho := hO.open_ k hk
  obtain ⟨x0, x1, x2, x3, x4⟩ := cells5 ho 0 rfl
  obtain ⟨gP, eP, lP⟩ := head_any (show w.ownsRow 0 31 9 (.slice M.PA n M.pc) n (ps.flatMap Pt.cells) from ho.get 1 rfl) (by omega)
  obtain ⟨gL, eL, lL⟩ := head_any (show w.ownsRow 0 3 1 (.slice M.LA n M.lc) n (nums .i64 last) from ho.get 2 rfl) (by omega)
  obtain ⟨gG, eG, lG⟩ := head_any (show w.ownsRow 0 3 1 (.slice M.GA n M.gc) n (nums .i64 again) from ho.get 3 rfl) (by omega)
  obtain ⟨MPA, pc, MLA, lc, MGA, gc⟩ := M
  simp only at eP eL eG
  subst eP eL eG
  simp only at x0 x1 x2 x3 x4
  have y0 := cells_at (row_cells ho 1 rfl) ((flat_get pcells_len ps p (5 + kind) x hx (by omega)).trans (pt_rc hxa))
  have y1 := cells_at (row_cells ho 2 rfl) (nums_get (k := .i64) hl)
  have y2 := cells_at (row_cells ho 3 rfl) (nums_get (k := .i64) hg)
  rw [← Nat.add_assoc] at y0
  have fL := (show w.ownsRow 0 3 1 (.slice (some ⟨gL, 0, none⟩) n lc) n (nums .i64 last) from ho.get 2 rfl).frozenAt p
  have fG := (show w.ownsRow 0 3 1 (.slice (some ⟨gG, 0, none⟩) n gc) n (nums .i64 again) from ho.get 3 rfl).frozenAt p
  have nbL : ¬ b = gL := fun h => ho.apart 0 2 rfl rfl (by decide) b rfl (by rw [h]; rfl)
  have nbG : ¬ b = gG := fun h => ho.apart 0 3 rfl rfl (by decide) b rfl (by rw [h]; rfl)
  have nLG : ¬ gL = gG := fun h => ho.apart 2 3 rfl rfl (by decide) gL rfl (by rw [h]; rfl)
  have nLb : ¬ gL = b := fun h => nbL h.symm
  have nGb : ¬ gG = b := fun h => nbG h.symm
  have nGL : ¬ gG = gL := fun h => nLG h.symm
  have d0 : decide (3 < (kind : Int)) = false := by rw [decide_eq_false_iff_not]; omega
  have d1 : decide (1048576 ≤ (round : Int)) = false := by rw [decide_eq_false_iff_not]; omega
  have i0 : (0 : Int) ≤ (p : Int) := by omega
  have i1 : (p : Int) < (n : Int) := by omega
  have i2 : (0 : Int) ≤ (kind : Int) := by omega
  have i3 : (kind : Int) < 4 := by omega
  have dn : decide (n ≤ p) = false := by rw [decide_eq_false_iff_not]; omega
  have wn : IntKind.u8.wrap (nd : Int) = nd := by unfold IntKind.wrap; simp [IntKind.signed, IntKind.bits]; omega
  have wp : IntKind.u8.wrap (p : Int) = p := by unfold IntKind.wrap; simp [IntKind.signed, IntKind.bits]; omega
  have wk : IntKind.u8.wrap (kind : Int) = kind := by unfold IntKind.wrap; simp [IntKind.signed, IntKind.bits]; omega
  replace hx := Hidd.mk hx
  replace hxa := Hidd.mk hxa
  replace hl := Hidd.mk hl
  replace hg := Hidd.mk hg
  obtain ⟨iR, hIR⟩ := info_parts info_rec
  replace hIR := Hidd.mk hIR
  have hO2 := Hidd.mk hO
  have hk2 := Hidd.mk hk
  clear hO hk
  subst ha
  have dl : decide (0 < l) = true := by rw [decide_eq_true_eq]; omega
  have dr : decide ((round : Int) ≤ l) = true := by rw [decide_eq_true_eq]; omega
  have dr2 : decide ((round : Int) + 1 ≤ l + 1) = true := by rw [decide_eq_true_eq]; omega
  have dg : decide (3 ≤ g + 1) = true := by rw [decide_eq_true_eq]; omega
  clear h1
  replace ho := Hidd.mk ho
  by_cases h4 : on < 4
  · simp only [if_pos h4]
    have d4 : decide ((on : Int) < 4) = true := by rw [decide_eq_true_eq]; omega
    go_enter Try.func21, Try.ntmps21
    go_wp2
    obtain ⟨V0, hV0⟩ : ∃ zz, zz = World.drew w := ⟨_, rfl⟩
    refine wp_region_flow [([0, 4, 5, 9, 1, 6, 2, 7, 3, 8, 10, 11, 12, 13], some (14, [false]))] (by kernel_rfl) (by kernel_rfl) ?_
    rw [show ({ w with drawn := w.drawn + 1 } : World) = V0 from hV0.symm]
    replace hV0 := Hidd.mk hV0
    simp only [opsF, List.map_cons, List.map_nil, List.getD_cons_succ, List.getD_cons_zero, Option.map]
    have hov := Hidd.mk (show Own w _ V0 _ by rw [hV0.out]; exact ho.out.drew)
    have hcl0 : ∀ q, V0.cell? q = w.cell? q := by rw [hV0.out]; exact fun _ => rfl
    have hfz0 : ∀ q, V0.frozen? q = w.frozen? q := by rw [hV0.out]; exact fun _ => rfl
    rw [← hcl0] at x0 x1 x2 x3 x4 y0 y1 y2
    rw [← hfz0] at fL fG
    clear hV0 hcl0 hfz0 ho
    have ho := hov
    clear hov
    refine FlW.stage (fun zz => zz = _) rfl ?_
    repeat (first | (refine StQ.skip (by rfl) ?_; simp only [Act.put, List.setIfInBounds_toArray, List.set_cons_zero, List.set_cons_succ]) | (refine StQ.go' (by rfl) (Exists.intro ?_ (And.intro (fun w' hS => ?_) ?_)); rotate_left; (focus (rw [hS]; go_simp; try with_reducible rfl)); simp only [Act.put, List.setIfInBounds_toArray, List.set_cons_zero, List.set_cons_succ]))
    refine StQ.nil ?_
    refine FlO.go (by rfl) (fun K hK => ?_); go_simp; refine hK.out _ _ (.inr trivial) ?_; clear hK K
    refine FlW.nil (Calm.normal ?_)
    go_wp2
    replace ho := row_set (row_set ho.out 3 rfl p (.int .i64 ((g + 1)))) 2 rfl p (.int .i64 ((round : Int) + 1))
    simp only [List.set_cons_succ, List.set_cons_zero, nums_set] at ho
    generalize World.setCell (World.setCell V0 _ _) _ _ = W at ho ⊢
    replace ho := Hidd.mk ho
    obtain ⟨W0, hW0⟩ : ∃ zz, zz = World.drew W := ⟨_, rfl⟩
    refine wp_region_flow [([0, 1, 5, 6, 11, 13, 15, 2, 7, 12, 14, 3, 8, 4, 9, 10, 16], some (17, [true])), ([], some (18, [false, true])), ([19, 20], some (21, [false, false, false]))] (by kernel_rfl) (by kernel_rfl) ?_
    rw [show ({ W with drawn := W.drawn + 1 } : World) = W0 from hW0.symm]
    replace hW0 := Hidd.mk hW0
    simp only [opsF, List.map_cons, List.map_nil, List.getD_cons_succ, List.getD_cons_zero, Option.map]
    have ho2 := Hidd.mk (show Own w (Res.pack (monR b nd n ⟨some ⟨gP, 0, none⟩, pc, some ⟨gL, 0, none⟩, lc, some ⟨gG, 0, none⟩, gc⟩ OA on oc ps last again out)).foot W0 [blk b (.cells #[.int .i64 (nd : Int), .slice (some ⟨gP, 0, none⟩) n pc, .slice (some ⟨gL, 0, none⟩) n lc, .slice (some ⟨gG, 0, none⟩) n gc, .slice OA on oc] 92), row 31 9 (.slice (some ⟨gP, 0, none⟩) n pc) n (ps.flatMap Pt.cells), row 3 1 (.slice (some ⟨gL, 0, none⟩) n lc) n (nums .i64 (last.set p ((round : Int) + 1))), row 3 1 (.slice (some ⟨gG, 0, none⟩) n gc) n (nums .i64 (again.set p ((g + 1)))), row 54 5 (.slice OA on oc) on (out.flatMap Rec5.cells)] by rw [hW0.out]; exact ho.out.drew)
    clear x0 x1 x2 x3 x4 y0 y1 y2 fL fG
    obtain ⟨x0, x1, x2, x3, x4⟩ := cells5 ho2.out 0 rfl
    have hpl := ho2.out.lt 0 rfl
    have hTb : ¬ (Value.slice OA on oc).ownBlock = some b := fun e => ho2.out.apart 0 4 rfl rfl (by decide) b rfl e
    obtain ⟨T, hT⟩ : ∃ T : Nat → Prop, T = fun q => (Value.slice OA on oc).ownBlock = some q := ⟨_, rfl⟩
    replace hTb : ¬ T b := by rw [hT]; exact hTb
    replace hT := Hidd.mk hT
    clear hW0 ho
    refine FlW.stage (fun zz => Kept T W0 zz) (Kept.refl _ _) ?_
    repeat (first | (refine StQ.skip (by rfl) ?_; simp only [Act.put, List.setIfInBounds_toArray, List.set_cons_zero, List.set_cons_succ]) | (refine StQ.go' (by rfl) (Exists.intro ?_ (And.intro (fun w' hS => ?_) ?_)); rotate_left; (focus (have hc := Kept.cellAt hS; go_simp; try with_reducible rfl)); simp only [Act.put, List.setIfInBounds_toArray, List.set_cons_zero, List.set_cons_succ]))
    refine StQ.nil ?_
    refine FlO.go (by rfl) (fun K hK => ?_); go_simp; refine hK.out _ _ (.inr ⟨Kept.alloc _ _ _, trivial⟩) ?_; clear hK K
    refine FlW.stage (fun _ => True) trivial (StQ.nil ?_)
    refine FlO.go (by rfl) (fun K hK => ?_)
    (refine wp_row _ _ 40 rfl 54 iR (.agg #[.int .u32 0, .int .u8 0, .int .u8 0, .int .u8 0, .int .u8 0]) 5 8 Try.underlying40 hIR.out.1 hIR.out.2.1 hIR.out.2.2.1 hIR.out.2.2.2 (by rfl) (by decide) (ho2.out.alloc (.cells #[.int .u32 round, .int .u8 nd, .int .u8 p, .int .u8 kind, .int .u8 (2 : Nat)] 54)) 5 OA on oc (out.flatMap Rec5.cells) rfl rfl (some ⟨W0.heap.size, 0, none⟩) 1 1 (Rec5.cells ⟨round, nd, p, kind, 2⟩) rfl rfl (Cells.new _ _ _ _ rfl) (by intro _ h; cases h) (rval_one _) (by unfold maxLen; omega) (by omega) ?_; intro A6 c6 w6 ho6 hk6)
    refine hK.out _ _ (.inr ⟨by rw [hT.out]; exact (Kept.alloc _ _ _).trans hk6, trivial⟩) ?_
    clear hK K
    replace ho6 := ho6.tail
    have f4 := ho6.frozen 0 rfl 4
    have e4 := ho6.cell 0 rfl 4
    simp at e4
    have h7 := ho6.set 0 rfl 4 (.slice A6 (on + 1) c6)
    have hend : Hidd (Own w (Res.pack (monR b nd n ⟨some ⟨gP, 0, none⟩, pc, some ⟨gL, 0, none⟩, lc, some ⟨gG, 0, none⟩, gc⟩ OA on oc ps last again out)).foot (w6.setCell ⟨b, 4, none⟩ (.slice A6 (on + 1) c6)) (monR b nd n ⟨some ⟨gP, 0, none⟩, pc, some ⟨gL, 0, none⟩, lc, some ⟨gG, 0, none⟩, gc⟩ A6 (on + 1) c6 ps (last.set p ((round : Int) + 1)) (again.set p ((g + 1))) (out ++ [⟨round, nd, p, kind, 2⟩]))) := ⟨by
      rw [flatR_append] at h7
      exact h7⟩
    clear h7 ho6 ho2 hk6 x0 x1 x2 x3 x4
    refine FlW.stage (fun zz => zz = _) rfl ?_
    repeat (first | (refine StQ.skip (by rfl) ?_; simp only [Act.put, List.setIfInBounds_toArray, List.set_cons_zero, List.set_cons_succ]) | (refine StQ.go' (by rfl) (Exists.intro ?_ (And.intro (fun w' hS => ?_) ?_)); rotate_left; (focus (rw [hS]; go_simp; try with_reducible rfl)); simp only [Act.put, List.setIfInBounds_toArray, List.set_cons_zero, List.set_cons_succ]))
    refine StQ.nil ?_
    refine FlO.go (by rfl) (fun K hK => ?_); go_simp; refine hK.out _ _ (.inr trivial) ?_; clear hK K
    refine FlW.nil (Calm.normal ?_)
    go_wp2
    go_ret2
    exact ⟨A6, c6, rfl, hO2.out.shut k hk2.out hend.out⟩
  · simp only [if_neg h4]
    have d4 : decide ((on : Int) < 4) = false := by rw [decide_eq_false_iff_not]; omega
    go_enter Try.func21, Try.ntmps21
    go_wp2
    obtain ⟨V0, hV0⟩ : ∃ zz, zz = World.drew w := ⟨_, rfl⟩
    refine wp_region_flow [([0, 4, 5, 9, 1, 6, 2, 7, 3, 8, 10, 11, 12, 13], some (14, [false]))] (by kernel_rfl) (by kernel_rfl) ?_
    rw [show ({ w with drawn := w.drawn + 1 } : World) = V0 from hV0.symm]
    replace hV0 := Hidd.mk hV0
    simp only [opsF, List.map_cons, List.map_nil, List.getD_cons_succ, List.getD_cons_zero, Option.map]
    have hov := Hidd.mk (show Own w _ V0 _ by rw [hV0.out]; exact ho.out.drew)
    have hcl0 : ∀ q, V0.cell? q = w.cell? q := by rw [hV0.out]; exact fun _ => rfl
    have hfz0 : ∀ q, V0.frozen? q = w.frozen? q := by rw [hV0.out]; exact fun _ => rfl
    rw [← hcl0] at x0 x1 x2 x3 x4 y0 y1 y2
    rw [← hfz0] at fL fG
    clear hV0 hcl0 hfz0 ho
    have ho := hov
    clear hov
    refine FlW.stage (fun zz => zz = _) rfl ?_
    repeat (first | (refine StQ.skip (by rfl) ?_; simp only [Act.put, List.setIfInBounds_toArray, List.set_cons_zero, List.set_cons_succ]) | (refine StQ.go' (by rfl) (Exists.intro ?_ (And.intro (fun w' hS => ?_) ?_)); rotate_left; (focus (rw [hS]; go_simp; try with_reducible rfl)); simp only [Act.put, List.setIfInBounds_toArray, List.set_cons_zero, List.set_cons_succ]))
    refine StQ.nil ?_
    refine FlO.go (by rfl) (fun K hK => ?_); go_simp; refine hK.out _ _ (.inr trivial) ?_; clear hK K
    refine FlW.nil (Calm.normal ?_)
    go_wp2
    replace ho := row_set (row_set ho.out 3 rfl p (.int .i64 ((g + 1)))) 2 rfl p (.int .i64 ((round : Int) + 1))
    simp only [List.set_cons_succ, List.set_cons_zero, nums_set] at ho
    generalize World.setCell (World.setCell V0 _ _) _ _ = W at ho ⊢
    replace ho := Hidd.mk ho
    go_ret2
    have hend := hO2.out.shut k hk2.out (show Own w _ W (monR b nd n ⟨some ⟨gP, 0, none⟩, pc, some ⟨gL, 0, none⟩, lc, some ⟨gG, 0, none⟩, gc⟩ OA on oc ps (last.set p ((round : Int) + 1)) (again.set p ((g + 1))) out) from ho.out)
    first | exact ⟨OA, oc, rfl, hend⟩ | exact ⟨rfl, OA, oc, hend⟩
theorem reportR_row2 {w w0 : World} {S : Nat → Prop} {L : List Res} {b : Nat} {n : Nat} {M : MA} {OA : Option Addr} {on oc : Nat} {ps : List Pt} {last again : List Int} {out : List Rec5} (nd : Nat) (k : Nat) (hO : Own w0 S w L) (hk : L[k]? = some (Res.pack (monR b nd n M OA on oc ps last again out)))
    (round kind p : Nat) (hp : p < n) (hkd : kind < 4) (hround : round < 1048576) (hn : n ≤ 255) (hnd : nd < 256) (x : Pt) (hx : ps[p]? = some x) (a : Nat) (hxa : x.rc[kind]? = some a) (l g : Int) (hl : last[p]? = some l) (hg : again[p]? = some g) (_hg0 : 0 ≤ g) (_hg1 : g ≤ 1000000) (_hl0 : 0 ≤ l) (_hl1 : l ≤ 1048576) (hon : on ≤ 1000) (ha : a = 1) (h1 : l ≠ 0) (h2 : (round : Int) ≤ l) (h3 : ¬ 3 ≤ g + 1) :
    Calls Try.prog 21 #[.pointer (some ⟨b, 0, none⟩), .int .u32 round, .int .i64 (p : Int), .int .i64 kind] w fun e w' => ∃ OA' oc', e = .returned (.tuple #[.int .u8 (1 : Nat), .string ⟨#[]⟩]) ∧
      Own w0 S w' (L.set k (Res.pack (monR b nd n M OA' (if on < 4 then on + 1 else on) oc' ps (last.set p ((round : Int) + 1)) (again.set p (g + 1)) (if on < 4 then out ++ [⟨round, nd, p, kind, 1⟩] else out)))) := by
  have ho := hO.open_ k hk
  obtain ⟨x0, x1, x2, x3, x4⟩ := cells5 ho 0 rfl
  obtain ⟨gP, eP, lP⟩ := head_any (show w.ownsRow 0 31 9 (.slice M.PA n M.pc) n (ps.flatMap Pt.cells) from ho.get 1 rfl) (by omega)
  obtain ⟨gL, eL, lL⟩ := head_any (show w.ownsRow 0 3 1 (.slice M.LA n M.lc) n (nums .i64 last) from ho.get 2 rfl) (by omega)
  obtain ⟨gG, eG, lG⟩ := head_any (show w.ownsRow 0 3 1 (.slice M.GA n M.gc) n (nums .i64 again) from ho.get 3 rfl) (by omega)
  obtain ⟨MPA, pc, MLA, lc, MGA, gc⟩ := M
  simp only at eP eL eG
  subst eP eL eG
  simp only at x0 x1 x2 x3 x4
  have y0 := cells_at (row_cells ho 1 rfl) ((flat_get pcells_len ps p (5 + kind) x hx (by omega)).trans (pt_rc hxa))
  have y1 := cells_at (row_cells ho 2 rfl) (nums_get (k := .i64) hl)
  have y2 := cells_at (row_cells ho 3 rfl) (nums_get (k := .i64) hg)
  rw [← Nat.add_assoc] at y0
  have fL := (show w.ownsRow 0 3 1 (.slice (some ⟨gL, 0, none⟩) n lc) n (nums .i64 last) from ho.get 2 rfl).frozenAt p
  have fG := (show w.ownsRow 0 3 1 (.slice (some ⟨gG, 0, none⟩) n gc) n (nums .i64 again) from ho.get 3 rfl).frozenAt p
  have nbL : ¬ b = gL := fun h => ho.apart 0 2 rfl rfl (by decide) b rfl (by rw [h]; rfl)
  have nbG : ¬ b = gG := fun h => ho.apart 0 3 rfl rfl (by decide) b rfl (by rw [h]; rfl)
  have nLG : ¬ gL = gG := fun h => ho.apart 2 3 rfl rfl (by decide) gL rfl (by rw [h]; rfl)
  have nLb : ¬ gL = b := fun h => nbL h.symm
  have nGb : ¬ gG = b := fun h => nbG h.symm
  have nGL : ¬ gG = gL := fun h => nLG h.symm
  have d0 : decide (3 < (kind : Int)) = false := by rw [decide_eq_false_iff_not]; omega
  have d1 : decide (1048576 ≤ (round : Int)) = false := by rw [decide_eq_false_iff_not]; omega
  have i0 : (0 : Int) ≤ (p : Int) := by omega
  have i1 : (p : Int) < (n : Int) := by omega
  have i2 : (0 : Int) ≤ (kind : Int) := by omega
  have i3 : (kind : Int) < 4 := by omega
  have dn : decide (n ≤ p) = false := by rw [decide_eq_false_iff_not]; omega
  have wn : IntKind.u8.wrap (nd : Int) = nd := by unfold IntKind.wrap; simp [IntKind.signed, IntKind.bits]; omega
  have wp : IntKind.u8.wrap (p : Int) = p := by unfold IntKind.wrap; simp [IntKind.signed, IntKind.bits]; omega
  have wk : IntKind.u8.wrap (kind : Int) = kind := by unfold IntKind.wrap; simp [IntKind.signed, IntKind.bits]; omega
  replace hx := Hidd.mk hx
  replace hxa := Hidd.mk hxa
  replace hl := Hidd.mk hl
  replace hg := Hidd.mk hg
  obtain ⟨iR, hIR⟩ := info_parts info_rec
  replace hIR := Hidd.mk hIR
  have hO2 := Hidd.mk hO
  have hk2 := Hidd.mk hk
  clear hO hk
  subst ha
  have dl : decide (0 < l) = true := by rw [decide_eq_true_eq]; omega
  have dr : decide ((round : Int) ≤ l) = true := by rw [decide_eq_true_eq]; omega
  have dr2 : decide ((round : Int) + 1 ≤ l + 1) = true := by rw [decide_eq_true_eq]; omega
  have dg : decide (3 ≤ g + 1) = false := by rw [decide_eq_false_iff_not]; omega
  clear h1
  replace ho := Hidd.mk ho
  by_cases h4 : on < 4
  · simp only [if_pos h4]
    have d4 : decide ((on : Int) < 4) = true := by rw [decide_eq_true_eq]; omega
    go_enter Try.func21, Try.ntmps21
    go_wp2
    obtain ⟨V0, hV0⟩ : ∃ zz, zz = World.drew w := ⟨_, rfl⟩
    refine wp_region_flow [([0, 4, 5, 9, 1, 6, 2, 7, 3, 8, 10, 11, 12, 13], some (14, [false]))] (by kernel_rfl) (by kernel_rfl) ?_
    rw [show ({ w with drawn := w.drawn + 1 } : World) = V0 from hV0.symm]
    replace hV0 := Hidd.mk hV0
    simp only [opsF, List.map_cons, List.map_nil, List.getD_cons_succ, List.getD_cons_zero, Option.map]
    have hov := Hidd.mk (show Own w _ V0 _ by rw [hV0.out]; exact ho.out.drew)
    have hcl0 : ∀ q, V0.cell? q = w.cell? q := by rw [hV0.out]; exact fun _ => rfl
    have hfz0 : ∀ q, V0.frozen? q = w.frozen? q := by rw [hV0.out]; exact fun _ => rfl
    rw [← hcl0] at x0 x1 x2 x3 x4 y0 y1 y2
    rw [← hfz0] at fL fG
    clear hV0 hcl0 hfz0 ho
    have ho := hov
    clear hov
    refine FlW.stage (fun zz => zz = _) rfl ?_
    repeat (first | (refine StQ.skip (by rfl) ?_; simp only [Act.put, List.setIfInBounds_toArray, List.set_cons_zero, List.set_cons_succ]) | (refine StQ.go' (by rfl) (Exists.intro ?_ (And.intro (fun w' hS => ?_) ?_)); rotate_left; (focus (rw [hS]; go_simp; try with_reducible rfl)); simp only [Act.put, List.setIfInBounds_toArray, List.set_cons_zero, List.set_cons_succ]))
    refine StQ.nil ?_
    refine FlO.go (by rfl) (fun K hK => ?_); go_simp; refine hK.out _ _ (.inr trivial) ?_; clear hK K
    refine FlW.nil (Calm.normal ?_)
    go_wp2
    replace ho := row_set (row_set ho.out 3 rfl p (.int .i64 ((g + 1)))) 2 rfl p (.int .i64 ((round : Int) + 1))
    simp only [List.set_cons_succ, List.set_cons_zero, nums_set] at ho
    generalize World.setCell (World.setCell V0 _ _) _ _ = W at ho ⊢
    replace ho := Hidd.mk ho
    obtain ⟨W0, hW0⟩ : ∃ zz, zz = World.drew W := ⟨_, rfl⟩
    refine wp_region_flow [([0, 1, 5, 6, 11, 13, 15, 2, 7, 12, 14, 3, 8, 4, 9, 10, 16], some (17, [true])), ([], some (18, [false, true])), ([19, 20], some (21, [false, false, false]))] (by kernel_rfl) (by kernel_rfl) ?_
    rw [show ({ W with drawn := W.drawn + 1 } : World) = W0 from hW0.symm]
    replace hW0 := Hidd.mk hW0
    simp only [opsF, List.map_cons, List.map_nil, List.getD_cons_succ, List.getD_cons_zero, Option.map]
    have ho2 := Hidd.mk (show Own w (Res.pack (monR b nd n ⟨some ⟨gP, 0, none⟩, pc, some ⟨gL, 0, none⟩, lc, some ⟨gG, 0, none⟩, gc⟩ OA on oc ps last again out)).foot W0 [blk b (.cells #[.int .i64 (nd : Int), .slice (some ⟨gP, 0, none⟩) n pc, .slice (some ⟨gL, 0, none⟩) n lc, .slice (some ⟨gG, 0, none⟩) n gc, .slice OA on oc] 92), row 31 9 (.slice (some ⟨gP, 0, none⟩) n pc) n (ps.flatMap Pt.cells), row 3 1 (.slice (some ⟨gL, 0, none⟩) n lc) n (nums .i64 (last.set p ((round : Int) + 1))), row 3 1 (.slice (some ⟨gG, 0, none⟩) n gc) n (nums .i64 (again.set p ((g + 1)))), row 54 5 (.slice OA on oc) on (out.flatMap Rec5.cells)] by rw [hW0.out]; exact ho.out.drew)
    clear x0 x1 x2 x3 x4 y0 y1 y2 fL fG
    obtain ⟨x0, x1, x2, x3, x4⟩ := cells5 ho2.out 0 rfl
    have hpl := ho2.out.lt 0 rfl
    have hTb : ¬ (Value.slice OA on oc).ownBlock = some b := fun e => ho2.out.apart 0 4 rfl rfl (by decide) b rfl e
    obtain ⟨T, hT⟩ : ∃ T : Nat → Prop, T = fun q => (Value.slice OA on oc).ownBlock = some q := ⟨_, rfl⟩
    replace hTb : ¬ T b := by rw [hT]; exact hTb
    replace hT := Hidd.mk hT
    clear hW0 ho
    refine FlW.stage (fun zz => Kept T W0 zz) (Kept.refl _ _) ?_
    repeat (first | (refine StQ.skip (by rfl) ?_; simp only [Act.put, List.setIfInBounds_toArray, List.set_cons_zero, List.set_cons_succ]) | (refine StQ.go' (by rfl) (Exists.intro ?_ (And.intro (fun w' hS => ?_) ?_)); rotate_left; (focus (have hc := Kept.cellAt hS; go_simp; try with_reducible rfl)); simp only [Act.put, List.setIfInBounds_toArray, List.set_cons_zero, List.set_cons_succ]))
    refine StQ.nil ?_
    refine FlO.go (by rfl) (fun K hK => ?_); go_simp; refine hK.out _ _ (.inr ⟨Kept.alloc _ _ _, trivial⟩) ?_; clear hK K
    refine FlW.stage (fun _ => True) trivial (StQ.nil ?_)
    refine FlO.go (by rfl) (fun K hK => ?_)
    (refine wp_row _ _ 40 rfl 54 iR (.agg #[.int .u32 0, .int .u8 0, .int .u8 0, .int .u8 0, .int .u8 0]) 5 8 Try.underlying40 hIR.out.1 hIR.out.2.1 hIR.out.2.2.1 hIR.out.2.2.2 (by rfl) (by decide) (ho2.out.alloc (.cells #[.int .u32 round, .int .u8 nd, .int .u8 p, .int .u8 kind, .int .u8 (1 : Nat)] 54)) 5 OA on oc (out.flatMap Rec5.cells) rfl rfl (some ⟨W0.heap.size, 0, none⟩) 1 1 (Rec5.cells ⟨round, nd, p, kind, 1⟩) rfl rfl (Cells.new _ _ _ _ rfl) (by intro _ h; cases h) (rval_one _) (by unfold maxLen; omega) (by omega) ?_; intro A6 c6 w6 ho6 hk6)
    refine hK.out _ _ (.inr ⟨by rw [hT.out]; exact (Kept.alloc _ _ _).trans hk6, trivial⟩) ?_
    clear hK K
    replace ho6 := ho6.tail
    have f4 := ho6.frozen 0 rfl 4
    have e4 := ho6.cell 0 rfl 4
    simp at e4
    have h7 := ho6.set 0 rfl 4 (.slice A6 (on + 1) c6)
    have hend : Hidd (Own w (Res.pack (monR b nd n ⟨some ⟨gP, 0, none⟩, pc, some ⟨gL, 0, none⟩, lc, some ⟨gG, 0, none⟩, gc⟩ OA on oc ps last again out)).foot (w6.setCell ⟨b, 4, none⟩ (.slice A6 (on + 1) c6)) (monR b nd n ⟨some ⟨gP, 0, none⟩, pc, some ⟨gL, 0, none⟩, lc, some ⟨gG, 0, none⟩, gc⟩ A6 (on + 1) c6 ps (last.set p ((round : Int) + 1)) (again.set p ((g + 1))) (out ++ [⟨round, nd, p, kind, 1⟩]))) := ⟨by
      rw [flatR_append] at h7
      exact h7⟩
    clear h7 ho6 ho2 hk6 x0 x1 x2 x3 x4
    refine FlW.stage (fun zz => zz = _) rfl ?_
    repeat (first | (refine StQ.skip (by rfl) ?_; simp only [Act.put, List.setIfInBounds_toArray, List.set_cons_zero, List.set_cons_succ]) | (refine StQ.go' (by rfl) (Exists.intro ?_ (And.intro (fun w' hS => ?_) ?_)); rotate_left; (focus (rw [hS]; go_simp; try with_reducible rfl)); simp only [Act.put, List.setIfInBounds_toArray, List.set_cons_zero, List.set_cons_succ]))
    refine StQ.nil ?_
    refine FlO.go (by rfl) (fun K hK => ?_); go_simp; refine hK.out _ _ (.inr trivial) ?_; clear hK K
    refine FlW.nil (Calm.normal ?_)
    go_wp2
    go_ret2
    exact ⟨A6, c6, rfl, hO2.out.shut k hk2.out hend.out⟩
  · simp only [if_neg h4]
    have d4 : decide ((on : Int) < 4) = false := by rw [decide_eq_false_iff_not]; omega
    go_enter Try.func21, Try.ntmps21
    go_wp2
    obtain ⟨V0, hV0⟩ : ∃ zz, zz = World.drew w := ⟨_, rfl⟩
    refine wp_region_flow [([0, 4, 5, 9, 1, 6, 2, 7, 3, 8, 10, 11, 12, 13], some (14, [false]))] (by kernel_rfl) (by kernel_rfl) ?_
    rw [show ({ w with drawn := w.drawn + 1 } : World) = V0 from hV0.symm]
    replace hV0 := Hidd.mk hV0
    simp only [opsF, List.map_cons, List.map_nil, List.getD_cons_succ, List.getD_cons_zero, Option.map]
    have hov := Hidd.mk (show Own w _ V0 _ by rw [hV0.out]; exact ho.out.drew)
    have hcl0 : ∀ q, V0.cell? q = w.cell? q := by rw [hV0.out]; exact fun _ => rfl
    have hfz0 : ∀ q, V0.frozen? q = w.frozen? q := by rw [hV0.out]; exact fun _ => rfl
    rw [← hcl0] at x0 x1 x2 x3 x4 y0 y1 y2
    rw [← hfz0] at fL fG
    clear hV0 hcl0 hfz0 ho
    have ho := hov
    clear hov
    refine FlW.stage (fun zz => zz = _) rfl ?_
    repeat (first | (refine StQ.skip (by rfl) ?_; simp only [Act.put, List.setIfInBounds_toArray, List.set_cons_zero, List.set_cons_succ]) | (refine StQ.go' (by rfl) (Exists.intro ?_ (And.intro (fun w' hS => ?_) ?_)); rotate_left; (focus (rw [hS]; go_simp; try with_reducible rfl)); simp only [Act.put, List.setIfInBounds_toArray, List.set_cons_zero, List.set_cons_succ]))
    refine StQ.nil ?_
    refine FlO.go (by rfl) (fun K hK => ?_); go_simp; refine hK.out _ _ (.inr trivial) ?_; clear hK K
    refine FlW.nil (Calm.normal ?_)
    go_wp2
    replace ho := row_set (row_set ho.out 3 rfl p (.int .i64 ((g + 1)))) 2 rfl p (.int .i64 ((round : Int) + 1))
    simp only [List.set_cons_succ, List.set_cons_zero, nums_set] at ho
    generalize World.setCell (World.setCell V0 _ _) _ _ = W at ho ⊢
    replace ho := Hidd.mk ho
    go_ret2
    have hend := hO2.out.shut k hk2.out (show Own w _ W (monR b nd n ⟨some ⟨gP, 0, none⟩, pc, some ⟨gL, 0, none⟩, lc, some ⟨gG, 0, none⟩, gc⟩ OA on oc ps (last.set p ((round : Int) + 1)) (again.set p ((g + 1))) out) from ho.out)
    first | exact ⟨OA, oc, rfl, hend⟩ | exact ⟨rfl, OA, oc, hend⟩
theorem reportR_rest0 {w w0 : World} {S : Nat → Prop} {L : List Res} {b : Nat} {n : Nat} {M : MA} {OA : Option Addr} {on oc : Nat} {ps : List Pt} {last again : List Int} {out : List Rec5} (nd : Nat) (k : Nat) (hO : Own w0 S w L) (hk : L[k]? = some (Res.pack (monR b nd n M OA on oc ps last again out)))
    (round kind p : Nat) (hp : p < n) (hkd : kind < 4) (hround : round < 1048576) (hn : n ≤ 255) (hnd : nd < 256) (x : Pt) (hx : ps[p]? = some x) (a : Nat) (hxa : x.rc[kind]? = some a) (l g : Int) (hl : last[p]? = some l) (hg : again[p]? = some g) (_hg0 : 0 ≤ g) (_hg1 : g ≤ 1000000) (_hl0 : 0 ≤ l) (_hl1 : l ≤ 1048576) (hon : on ≤ 1000) (ha : a = 1) (h1 : l = 0) :
    Calls Try.prog 21 #[.pointer (some ⟨b, 0, none⟩), .int .u32 round, .int .i64 (p : Int), .int .i64 kind] w fun e w' => ∃ OA' oc', e = .returned (.tuple #[.int .u8 (1 : Nat), .string ⟨#[]⟩]) ∧
      Own w0 S w' (L.set k (Res.pack (monR b nd n M OA' (if on < 4 then on + 1 else on) oc' ps (last.set p ((round : Int) + 1)) (again.set p 1) (if on < 4 then out ++ [⟨round, nd, p, kind, 1⟩] else out)))) := by
  have ho := hO.open_ k hk
  obtain ⟨x0, x1, x2, x3, x4⟩ := cells5 ho 0 rfl
  obtain ⟨gP, eP, lP⟩ := head_any (show w.ownsRow 0 31 9 (.slice M.PA n M.pc) n (ps.flatMap Pt.cells) from ho.get 1 rfl) (by omega)
  obtain ⟨gL, eL, lL⟩ := head_any (show w.ownsRow 0 3 1 (.slice M.LA n M.lc) n (nums .i64 last) from ho.get 2 rfl) (by omega)
  obtain ⟨gG, eG, lG⟩ := head_any (show w.ownsRow 0 3 1 (.slice M.GA n M.gc) n (nums .i64 again) from ho.get 3 rfl) (by omega)
  obtain ⟨MPA, pc, MLA, lc, MGA, gc⟩ := M
  simp only at eP eL eG
  subst eP eL eG
  simp only at x0 x1 x2 x3 x4
  have y0 := cells_at (row_cells ho 1 rfl) ((flat_get pcells_len ps p (5 + kind) x hx (by omega)).trans (pt_rc hxa))
  have y1 := cells_at (row_cells ho 2 rfl) (nums_get (k := .i64) hl)
  have y2 := cells_at (row_cells ho 3 rfl) (nums_get (k := .i64) hg)
  rw [← Nat.add_assoc] at y0
  have fL := (show w.ownsRow 0 3 1 (.slice (some ⟨gL, 0, none⟩) n lc) n (nums .i64 last) from ho.get 2 rfl).frozenAt p
  have fG := (show w.ownsRow 0 3 1 (.slice (some ⟨gG, 0, none⟩) n gc) n (nums .i64 again) from ho.get 3 rfl).frozenAt p
  have nbL : ¬ b = gL := fun h => ho.apart 0 2 rfl rfl (by decide) b rfl (by rw [h]; rfl)
  have nbG : ¬ b = gG := fun h => ho.apart 0 3 rfl rfl (by decide) b rfl (by rw [h]; rfl)
  have nLG : ¬ gL = gG := fun h => ho.apart 2 3 rfl rfl (by decide) gL rfl (by rw [h]; rfl)
  have nLb : ¬ gL = b := fun h => nbL h.symm
  have nGb : ¬ gG = b := fun h => nbG h.symm
  have nGL : ¬ gG = gL := fun h => nLG h.symm
  have d0 : decide (3 < (kind : Int)) = false := by rw [decide_eq_false_iff_not]; omega
  have d1 : decide (1048576 ≤ (round : Int)) = false := by rw [decide_eq_false_iff_not]; omega
  have i0 : (0 : Int) ≤ (p : Int) := by omega
  have i1 : (p : Int) < (n : Int) := by omega
  have i2 : (0 : Int) ≤ (kind : Int) := by omega
  have i3 : (kind : Int) < 4 := by omega
  have dn : decide (n ≤ p) = false := by rw [decide_eq_false_iff_not]; omega
  have wn : IntKind.u8.wrap (nd : Int) = nd := by unfold IntKind.wrap; simp [IntKind.signed, IntKind.bits]; omega
  have wp : IntKind.u8.wrap (p : Int) = p := by unfold IntKind.wrap; simp [IntKind.signed, IntKind.bits]; omega
  have wk : IntKind.u8.wrap (kind : Int) = kind := by unfold IntKind.wrap; simp [IntKind.signed, IntKind.bits]; omega
  replace hx := Hidd.mk hx
  replace hxa := Hidd.mk hxa
  replace hl := Hidd.mk hl
  replace hg := Hidd.mk hg
  obtain ⟨iR, hIR⟩ := info_parts info_rec
  replace hIR := Hidd.mk hIR
  have hO2 := Hidd.mk hO
  have hk2 := Hidd.mk hk
  clear hO hk
  subst ha
  subst h1
  replace ho := Hidd.mk ho
  by_cases h4 : on < 4
  · simp only [if_pos h4]
    have d4 : decide ((on : Int) < 4) = true := by rw [decide_eq_true_eq]; omega
    go_enter Try.func21, Try.ntmps21
    go_wp2
    replace ho := row_set (row_set ho.out 3 rfl p (.int .i64 (1))) 2 rfl p (.int .i64 ((round : Int) + 1))
    simp only [List.set_cons_succ, List.set_cons_zero, nums_set] at ho
    generalize World.setCell (World.setCell w _ _) _ _ = W at ho ⊢
    replace ho := Hidd.mk ho
    obtain ⟨W0, hW0⟩ : ∃ zz, zz = World.drew W := ⟨_, rfl⟩
    refine wp_region_flow [([0, 1, 5, 6, 11, 13, 15, 2, 7, 12, 14, 3, 8, 4, 9, 10, 16], some (17, [true])), ([], some (18, [false, true])), ([19, 20], some (21, [false, false, false]))] (by kernel_rfl) (by kernel_rfl) ?_
    rw [show ({ W with drawn := W.drawn + 1 } : World) = W0 from hW0.symm]
    replace hW0 := Hidd.mk hW0
    simp only [opsF, List.map_cons, List.map_nil, List.getD_cons_succ, List.getD_cons_zero, Option.map]
    have ho2 := Hidd.mk (show Own w (Res.pack (monR b nd n ⟨some ⟨gP, 0, none⟩, pc, some ⟨gL, 0, none⟩, lc, some ⟨gG, 0, none⟩, gc⟩ OA on oc ps last again out)).foot W0 [blk b (.cells #[.int .i64 (nd : Int), .slice (some ⟨gP, 0, none⟩) n pc, .slice (some ⟨gL, 0, none⟩) n lc, .slice (some ⟨gG, 0, none⟩) n gc, .slice OA on oc] 92), row 31 9 (.slice (some ⟨gP, 0, none⟩) n pc) n (ps.flatMap Pt.cells), row 3 1 (.slice (some ⟨gL, 0, none⟩) n lc) n (nums .i64 (last.set p ((round : Int) + 1))), row 3 1 (.slice (some ⟨gG, 0, none⟩) n gc) n (nums .i64 (again.set p (1))), row 54 5 (.slice OA on oc) on (out.flatMap Rec5.cells)] by rw [hW0.out]; exact ho.out.drew)
    clear x0 x1 x2 x3 x4 y0 y1 y2 fL fG
    obtain ⟨x0, x1, x2, x3, x4⟩ := cells5 ho2.out 0 rfl
    have hpl := ho2.out.lt 0 rfl
    have hTb : ¬ (Value.slice OA on oc).ownBlock = some b := fun e => ho2.out.apart 0 4 rfl rfl (by decide) b rfl e
    obtain ⟨T, hT⟩ : ∃ T : Nat → Prop, T = fun q => (Value.slice OA on oc).ownBlock = some q := ⟨_, rfl⟩
    replace hTb : ¬ T b := by rw [hT]; exact hTb
    replace hT := Hidd.mk hT
    clear hW0 ho
    refine FlW.stage (fun zz => Kept T W0 zz) (Kept.refl _ _) ?_
    repeat (first | (refine StQ.skip (by rfl) ?_; simp only [Act.put, List.setIfInBounds_toArray, List.set_cons_zero, List.set_cons_succ]) | (refine StQ.go' (by rfl) (Exists.intro ?_ (And.intro (fun w' hS => ?_) ?_)); rotate_left; (focus (have hc := Kept.cellAt hS; go_simp; try with_reducible rfl)); simp only [Act.put, List.setIfInBounds_toArray, List.set_cons_zero, List.set_cons_succ]))
    refine StQ.nil ?_
    refine FlO.go (by rfl) (fun K hK => ?_); go_simp; refine hK.out _ _ (.inr ⟨Kept.alloc _ _ _, trivial⟩) ?_; clear hK K
    refine FlW.stage (fun _ => True) trivial (StQ.nil ?_)
    refine FlO.go (by rfl) (fun K hK => ?_)
    (refine wp_row _ _ 40 rfl 54 iR (.agg #[.int .u32 0, .int .u8 0, .int .u8 0, .int .u8 0, .int .u8 0]) 5 8 Try.underlying40 hIR.out.1 hIR.out.2.1 hIR.out.2.2.1 hIR.out.2.2.2 (by rfl) (by decide) (ho2.out.alloc (.cells #[.int .u32 round, .int .u8 nd, .int .u8 p, .int .u8 kind, .int .u8 (1 : Nat)] 54)) 5 OA on oc (out.flatMap Rec5.cells) rfl rfl (some ⟨W0.heap.size, 0, none⟩) 1 1 (Rec5.cells ⟨round, nd, p, kind, 1⟩) rfl rfl (Cells.new _ _ _ _ rfl) (by intro _ h; cases h) (rval_one _) (by unfold maxLen; omega) (by omega) ?_; intro A6 c6 w6 ho6 hk6)
    refine hK.out _ _ (.inr ⟨by rw [hT.out]; exact (Kept.alloc _ _ _).trans hk6, trivial⟩) ?_
    clear hK K
    replace ho6 := ho6.tail
    have f4 := ho6.frozen 0 rfl 4
    have e4 := ho6.cell 0 rfl 4
    simp at e4
    have h7 := ho6.set 0 rfl 4 (.slice A6 (on + 1) c6)
    have hend : Hidd (Own w (Res.pack (monR b nd n ⟨some ⟨gP, 0, none⟩, pc, some ⟨gL, 0, none⟩, lc, some ⟨gG, 0, none⟩, gc⟩ OA on oc ps last again out)).foot (w6.setCell ⟨b, 4, none⟩ (.slice A6 (on + 1) c6)) (monR b nd n ⟨some ⟨gP, 0, none⟩, pc, some ⟨gL, 0, none⟩, lc, some ⟨gG, 0, none⟩, gc⟩ A6 (on + 1) c6 ps (last.set p ((round : Int) + 1)) (again.set p (1)) (out ++ [⟨round, nd, p, kind, 1⟩]))) := ⟨by
      rw [flatR_append] at h7
      exact h7⟩
    clear h7 ho6 ho2 hk6 x0 x1 x2 x3 x4
    refine FlW.stage (fun zz => zz = _) rfl ?_
    repeat (first | (refine StQ.skip (by rfl) ?_; simp only [Act.put, List.setIfInBounds_toArray, List.set_cons_zero, List.set_cons_succ]) | (refine StQ.go' (by rfl) (Exists.intro ?_ (And.intro (fun w' hS => ?_) ?_)); rotate_left; (focus (rw [hS]; go_simp; try with_reducible rfl)); simp only [Act.put, List.setIfInBounds_toArray, List.set_cons_zero, List.set_cons_succ]))
    refine StQ.nil ?_
    refine FlO.go (by rfl) (fun K hK => ?_); go_simp; refine hK.out _ _ (.inr trivial) ?_; clear hK K
    refine FlW.nil (Calm.normal ?_)
    go_wp2
    go_ret2
    exact ⟨A6, c6, rfl, hO2.out.shut k hk2.out hend.out⟩
  · simp only [if_neg h4]
    have d4 : decide ((on : Int) < 4) = false := by rw [decide_eq_false_iff_not]; omega
    go_enter Try.func21, Try.ntmps21
    go_wp2
    replace ho := row_set (row_set ho.out 3 rfl p (.int .i64 (1))) 2 rfl p (.int .i64 ((round : Int) + 1))
    simp only [List.set_cons_succ, List.set_cons_zero, nums_set] at ho
    generalize World.setCell (World.setCell w _ _) _ _ = W at ho ⊢
    replace ho := Hidd.mk ho
    go_ret2
    have hend := hO2.out.shut k hk2.out (show Own w _ W (monR b nd n ⟨some ⟨gP, 0, none⟩, pc, some ⟨gL, 0, none⟩, lc, some ⟨gG, 0, none⟩, gc⟩ OA on oc ps (last.set p ((round : Int) + 1)) (again.set p (1)) out) from ho.out)
    first | exact ⟨OA, oc, rfl, hend⟩ | exact ⟨rfl, OA, oc, hend⟩
theorem reportR_rest1 {w w0 : World} {S : Nat → Prop} {L : List Res} {b : Nat} {n : Nat} {M : MA} {OA : Option Addr} {on oc : Nat} {ps : List Pt} {last again : List Int} {out : List Rec5} (nd : Nat) (k : Nat) (hO : Own w0 S w L) (hk : L[k]? = some (Res.pack (monR b nd n M OA on oc ps last again out)))
    (round kind p : Nat) (hp : p < n) (hkd : kind < 4) (hround : round < 1048576) (hn : n ≤ 255) (hnd : nd < 256) (x : Pt) (hx : ps[p]? = some x) (a : Nat) (hxa : x.rc[kind]? = some a) (l g : Int) (hl : last[p]? = some l) (hg : again[p]? = some g) (_hg0 : 0 ≤ g) (_hg1 : g ≤ 1000000) (_hl0 : 0 ≤ l) (_hl1 : l ≤ 1048576) (hon : on ≤ 1000) (ha : a = 1) (h1 : l ≠ 0) (h2 : ¬ (round : Int) ≤ l) :
    Calls Try.prog 21 #[.pointer (some ⟨b, 0, none⟩), .int .u32 round, .int .i64 (p : Int), .int .i64 kind] w fun e w' => ∃ OA' oc', e = .returned (.tuple #[.int .u8 (1 : Nat), .string ⟨#[]⟩]) ∧
      Own w0 S w' (L.set k (Res.pack (monR b nd n M OA' (if on < 4 then on + 1 else on) oc' ps (last.set p ((round : Int) + 1)) (again.set p 1) (if on < 4 then out ++ [⟨round, nd, p, kind, 1⟩] else out)))) := by
  have ho := hO.open_ k hk
  obtain ⟨x0, x1, x2, x3, x4⟩ := cells5 ho 0 rfl
  obtain ⟨gP, eP, lP⟩ := head_any (show w.ownsRow 0 31 9 (.slice M.PA n M.pc) n (ps.flatMap Pt.cells) from ho.get 1 rfl) (by omega)
  obtain ⟨gL, eL, lL⟩ := head_any (show w.ownsRow 0 3 1 (.slice M.LA n M.lc) n (nums .i64 last) from ho.get 2 rfl) (by omega)
  obtain ⟨gG, eG, lG⟩ := head_any (show w.ownsRow 0 3 1 (.slice M.GA n M.gc) n (nums .i64 again) from ho.get 3 rfl) (by omega)
  obtain ⟨MPA, pc, MLA, lc, MGA, gc⟩ := M
  simp only at eP eL eG
  subst eP eL eG
  simp only at x0 x1 x2 x3 x4
  have y0 := cells_at (row_cells ho 1 rfl) ((flat_get pcells_len ps p (5 + kind) x hx (by omega)).trans (pt_rc hxa))
  have y1 := cells_at (row_cells ho 2 rfl) (nums_get (k := .i64) hl)
  have y2 := cells_at (row_cells ho 3 rfl) (nums_get (k := .i64) hg)
  rw [← Nat.add_assoc] at y0
  have fL := (show w.ownsRow 0 3 1 (.slice (some ⟨gL, 0, none⟩) n lc) n (nums .i64 last) from ho.get 2 rfl).frozenAt p
  have fG := (show w.ownsRow 0 3 1 (.slice (some ⟨gG, 0, none⟩) n gc) n (nums .i64 again) from ho.get 3 rfl).frozenAt p
  have nbL : ¬ b = gL := fun h => ho.apart 0 2 rfl rfl (by decide) b rfl (by rw [h]; rfl)
  have nbG : ¬ b = gG := fun h => ho.apart 0 3 rfl rfl (by decide) b rfl (by rw [h]; rfl)
  have nLG : ¬ gL = gG := fun h => ho.apart 2 3 rfl rfl (by decide) gL rfl (by rw [h]; rfl)
  have nLb : ¬ gL = b := fun h => nbL h.symm
  have nGb : ¬ gG = b := fun h => nbG h.symm
  have nGL : ¬ gG = gL := fun h => nLG h.symm
  have d0 : decide (3 < (kind : Int)) = false := by rw [decide_eq_false_iff_not]; omega
  have d1 : decide (1048576 ≤ (round : Int)) = false := by rw [decide_eq_false_iff_not]; omega
  have i0 : (0 : Int) ≤ (p : Int) := by omega
  have i1 : (p : Int) < (n : Int) := by omega
  have i2 : (0 : Int) ≤ (kind : Int) := by omega
  have i3 : (kind : Int) < 4 := by omega
  have dn : decide (n ≤ p) = false := by rw [decide_eq_false_iff_not]; omega
  have wn : IntKind.u8.wrap (nd : Int) = nd := by unfold IntKind.wrap; simp [IntKind.signed, IntKind.bits]; omega
  have wp : IntKind.u8.wrap (p : Int) = p := by unfold IntKind.wrap; simp [IntKind.signed, IntKind.bits]; omega
  have wk : IntKind.u8.wrap (kind : Int) = kind := by unfold IntKind.wrap; simp [IntKind.signed, IntKind.bits]; omega
  replace hx := Hidd.mk hx
  replace hxa := Hidd.mk hxa
  replace hl := Hidd.mk hl
  replace hg := Hidd.mk hg
  obtain ⟨iR, hIR⟩ := info_parts info_rec
  replace hIR := Hidd.mk hIR
  have hO2 := Hidd.mk hO
  have hk2 := Hidd.mk hk
  clear hO hk
  subst ha
  have dl : decide (0 < l) = true := by rw [decide_eq_true_eq]; omega
  have dr : decide ((round : Int) ≤ l) = false := by rw [decide_eq_false_iff_not]; omega
  have dr2 : decide ((round : Int) + 1 ≤ l + 1) = false := by rw [decide_eq_false_iff_not]; omega
  clear h1
  replace ho := Hidd.mk ho
  by_cases h4 : on < 4
  · simp only [if_pos h4]
    have d4 : decide ((on : Int) < 4) = true := by rw [decide_eq_true_eq]; omega
    go_enter Try.func21, Try.ntmps21
    go_wp2
    replace ho := row_set (row_set ho.out 3 rfl p (.int .i64 (1))) 2 rfl p (.int .i64 ((round : Int) + 1))
    simp only [List.set_cons_succ, List.set_cons_zero, nums_set] at ho
    generalize World.setCell (World.setCell w _ _) _ _ = W at ho ⊢
    replace ho := Hidd.mk ho
    obtain ⟨W0, hW0⟩ : ∃ zz, zz = World.drew W := ⟨_, rfl⟩
    refine wp_region_flow [([0, 1, 5, 6, 11, 13, 15, 2, 7, 12, 14, 3, 8, 4, 9, 10, 16], some (17, [true])), ([], some (18, [false, true])), ([19, 20], some (21, [false, false, false]))] (by kernel_rfl) (by kernel_rfl) ?_
    rw [show ({ W with drawn := W.drawn + 1 } : World) = W0 from hW0.symm]
    replace hW0 := Hidd.mk hW0
    simp only [opsF, List.map_cons, List.map_nil, List.getD_cons_succ, List.getD_cons_zero, Option.map]
    have ho2 := Hidd.mk (show Own w (Res.pack (monR b nd n ⟨some ⟨gP, 0, none⟩, pc, some ⟨gL, 0, none⟩, lc, some ⟨gG, 0, none⟩, gc⟩ OA on oc ps last again out)).foot W0 [blk b (.cells #[.int .i64 (nd : Int), .slice (some ⟨gP, 0, none⟩) n pc, .slice (some ⟨gL, 0, none⟩) n lc, .slice (some ⟨gG, 0, none⟩) n gc, .slice OA on oc] 92), row 31 9 (.slice (some ⟨gP, 0, none⟩) n pc) n (ps.flatMap Pt.cells), row 3 1 (.slice (some ⟨gL, 0, none⟩) n lc) n (nums .i64 (last.set p ((round : Int) + 1))), row 3 1 (.slice (some ⟨gG, 0, none⟩) n gc) n (nums .i64 (again.set p (1))), row 54 5 (.slice OA on oc) on (out.flatMap Rec5.cells)] by rw [hW0.out]; exact ho.out.drew)
    clear x0 x1 x2 x3 x4 y0 y1 y2 fL fG
    obtain ⟨x0, x1, x2, x3, x4⟩ := cells5 ho2.out 0 rfl
    have hpl := ho2.out.lt 0 rfl
    have hTb : ¬ (Value.slice OA on oc).ownBlock = some b := fun e => ho2.out.apart 0 4 rfl rfl (by decide) b rfl e
    obtain ⟨T, hT⟩ : ∃ T : Nat → Prop, T = fun q => (Value.slice OA on oc).ownBlock = some q := ⟨_, rfl⟩
    replace hTb : ¬ T b := by rw [hT]; exact hTb
    replace hT := Hidd.mk hT
    clear hW0 ho
    refine FlW.stage (fun zz => Kept T W0 zz) (Kept.refl _ _) ?_
    repeat (first | (refine StQ.skip (by rfl) ?_; simp only [Act.put, List.setIfInBounds_toArray, List.set_cons_zero, List.set_cons_succ]) | (refine StQ.go' (by rfl) (Exists.intro ?_ (And.intro (fun w' hS => ?_) ?_)); rotate_left; (focus (have hc := Kept.cellAt hS; go_simp; try with_reducible rfl)); simp only [Act.put, List.setIfInBounds_toArray, List.set_cons_zero, List.set_cons_succ]))
    refine StQ.nil ?_
    refine FlO.go (by rfl) (fun K hK => ?_); go_simp; refine hK.out _ _ (.inr ⟨Kept.alloc _ _ _, trivial⟩) ?_; clear hK K
    refine FlW.stage (fun _ => True) trivial (StQ.nil ?_)
    refine FlO.go (by rfl) (fun K hK => ?_)
    (refine wp_row _ _ 40 rfl 54 iR (.agg #[.int .u32 0, .int .u8 0, .int .u8 0, .int .u8 0, .int .u8 0]) 5 8 Try.underlying40 hIR.out.1 hIR.out.2.1 hIR.out.2.2.1 hIR.out.2.2.2 (by rfl) (by decide) (ho2.out.alloc (.cells #[.int .u32 round, .int .u8 nd, .int .u8 p, .int .u8 kind, .int .u8 (1 : Nat)] 54)) 5 OA on oc (out.flatMap Rec5.cells) rfl rfl (some ⟨W0.heap.size, 0, none⟩) 1 1 (Rec5.cells ⟨round, nd, p, kind, 1⟩) rfl rfl (Cells.new _ _ _ _ rfl) (by intro _ h; cases h) (rval_one _) (by unfold maxLen; omega) (by omega) ?_; intro A6 c6 w6 ho6 hk6)
    refine hK.out _ _ (.inr ⟨by rw [hT.out]; exact (Kept.alloc _ _ _).trans hk6, trivial⟩) ?_
    clear hK K
    replace ho6 := ho6.tail
    have f4 := ho6.frozen 0 rfl 4
    have e4 := ho6.cell 0 rfl 4
    simp at e4
    have h7 := ho6.set 0 rfl 4 (.slice A6 (on + 1) c6)
    have hend : Hidd (Own w (Res.pack (monR b nd n ⟨some ⟨gP, 0, none⟩, pc, some ⟨gL, 0, none⟩, lc, some ⟨gG, 0, none⟩, gc⟩ OA on oc ps last again out)).foot (w6.setCell ⟨b, 4, none⟩ (.slice A6 (on + 1) c6)) (monR b nd n ⟨some ⟨gP, 0, none⟩, pc, some ⟨gL, 0, none⟩, lc, some ⟨gG, 0, none⟩, gc⟩ A6 (on + 1) c6 ps (last.set p ((round : Int) + 1)) (again.set p (1)) (out ++ [⟨round, nd, p, kind, 1⟩]))) := ⟨by
      rw [flatR_append] at h7
      exact h7⟩
    clear h7 ho6 ho2 hk6 x0 x1 x2 x3 x4
    refine FlW.stage (fun zz => zz = _) rfl ?_
    repeat (first | (refine StQ.skip (by rfl) ?_; simp only [Act.put, List.setIfInBounds_toArray, List.set_cons_zero, List.set_cons_succ]) | (refine StQ.go' (by rfl) (Exists.intro ?_ (And.intro (fun w' hS => ?_) ?_)); rotate_left; (focus (rw [hS]; go_simp; try with_reducible rfl)); simp only [Act.put, List.setIfInBounds_toArray, List.set_cons_zero, List.set_cons_succ]))
    refine StQ.nil ?_
    refine FlO.go (by rfl) (fun K hK => ?_); go_simp; refine hK.out _ _ (.inr trivial) ?_; clear hK K
    refine FlW.nil (Calm.normal ?_)
    go_wp2
    go_ret2
    exact ⟨A6, c6, rfl, hO2.out.shut k hk2.out hend.out⟩
  · simp only [if_neg h4]
    have d4 : decide ((on : Int) < 4) = false := by rw [decide_eq_false_iff_not]; omega
    go_enter Try.func21, Try.ntmps21
    go_wp2
    replace ho := row_set (row_set ho.out 3 rfl p (.int .i64 (1))) 2 rfl p (.int .i64 ((round : Int) + 1))
    simp only [List.set_cons_succ, List.set_cons_zero, nums_set] at ho
    generalize World.setCell (World.setCell w _ _) _ _ = W at ho ⊢
    replace ho := Hidd.mk ho
    go_ret2
    have hend := hO2.out.shut k hk2.out (show Own w _ W (monR b nd n ⟨some ⟨gP, 0, none⟩, pc, some ⟨gL, 0, none⟩, lc, some ⟨gG, 0, none⟩, gc⟩ OA on oc ps (last.set p ((round : Int) + 1)) (again.set p (1)) out) from ho.out)
    first | exact ⟨OA, oc, rfl, hend⟩ | exact ⟨rfl, OA, oc, hend⟩
theorem reportR_own {w w0 : World} {S : Nat → Prop} {L : List Res} {b : Nat} {n : Nat} {M : MA} {OA : Option Addr} {on oc : Nat} {ps : List Pt} {last again : List Int} {out : List Rec5} (nd : Nat) (k : Nat) (hO : Own w0 S w L) (hk : L[k]? = some (Res.pack (monR b nd n M OA on oc ps last again out)))
    (round kind p : Nat) (hp : p < n) (hkd : kind < 4) (hround : round < 1048576) (hn : n ≤ 255) (hnd : nd < 256) (x : Pt) (hx : ps[p]? = some x) (a : Nat) (hxa : x.rc[kind]? = some a) (l g : Int) (hl : last[p]? = some l) (hg : again[p]? = some g) (hg0 : 0 ≤ g) (hg1 : g ≤ 1000000) (hl0 : 0 ≤ l) (hl1 : l ≤ 1048576) (hon : on ≤ 1000)
    (a' : Nat) (l' g' : Int) (hr : repS a l g round = (a', l', g')) :
    Calls Try.prog 21 #[.pointer (some ⟨b, 0, none⟩), .int .u32 round, .int .i64 (p : Int), .int .i64 kind] w fun e w' => ∃ OA' oc', e = .returned (.tuple #[.int .u8 (a' : Nat), .string ⟨#[]⟩]) ∧
      Own w0 S w' (L.set k (Res.pack (monR b nd n M OA' (if on < 4 then on + 1 else on) oc' ps (last.set p l') (again.set p g') (if on < 4 then out ++ [⟨round, nd, p, kind, a'⟩] else out)))) := by
  unfold repS at hr
  by_cases h1 : a = 1
  · rw [if_pos h1] at hr
    by_cases h2 : l ≠ 0 ∧ (round : Int) ≤ l
    · rw [if_pos h2] at hr
      by_cases h3 : 3 ≤ g + 1
      · rw [if_pos h3] at hr
        injection hr with e1 e2
        injection e2 with e2 e3
        subst e1 e2 e3
        exact reportR_row3 nd k hO hk round kind p hp hkd hround hn hnd x hx a hxa l g hl hg hg0 hg1 hl0 hl1 hon h1 h2.1 h2.2 h3
      · rw [if_neg h3] at hr
        injection hr with e1 e2
        injection e2 with e2 e3
        subst e1 e2 e3
        exact reportR_row2 nd k hO hk round kind p hp hkd hround hn hnd x hx a hxa l g hl hg hg0 hg1 hl0 hl1 hon h1 h2.1 h2.2 h3
    · rw [if_neg h2] at hr
      injection hr with e1 e2
      injection e2 with e2 e3
      subst e2 e3
      rw [if_neg (by omega)] at e1
      subst e1
      by_cases h3 : l = 0
      · exact reportR_rest0 nd k hO hk round kind p hp hkd hround hn hnd x hx a hxa l g hl hg hg0 hg1 hl0 hl1 hon h1 h3
      · exact reportR_rest1 nd k hO hk round kind p hp hkd hround hn hnd x hx a hxa l g hl hg hg0 hg1 hl0 hl1 hon h1 h3 (fun h => h2 ⟨h3, h⟩)
  · rw [if_neg h1] at hr
    injection hr with e1 e2
    injection e2 with e2 e3
    subst e1 e2 e3
    exact reportR_plain nd k hO hk round kind p hp hkd hround hn hnd x hx a hxa l g hl hg hg0 hg1 hl0 hl1 hon h1
end Go.Proofs.Ytpiahnecpbalhaa
