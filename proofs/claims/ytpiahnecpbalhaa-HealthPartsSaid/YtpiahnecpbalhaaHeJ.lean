/- HealthParts walked. -/
import Derived.Test.YtpiahnecpbalhaaHeI
namespace Go.Proofs.Ytpiahnecpbalhaa
open Go.RowKit

theorem cells9' {w0 w : World} {S : Nat → Prop} {L : List Res} {p : Nat} {T : TypeId} {fr : Nat × Nat} {a0 a1 a2 a3 a4 a5 a6 a7 a8 : Value} (h : Own w0 S w L) (k : Nat) (hk : L[k]? = some (blk p (.cells #[a0, a1, a2, a3, a4, a5, a6, a7, a8] T fr))) :
    w.cell? ⟨p, 0, none⟩ = some a0 ∧ w.cell? ⟨p, 1, none⟩ = some a1 ∧ w.cell? ⟨p, 2, none⟩ = some a2 ∧ w.cell? ⟨p, 3, none⟩ = some a3 ∧ w.cell? ⟨p, 4, none⟩ = some a4 ∧ w.cell? ⟨p, 5, none⟩ = some a5 ∧ w.cell? ⟨p, 6, none⟩ = some a6 ∧ w.cell? ⟨p, 7, none⟩ = some a7 ∧ w.cell? ⟨p, 8, none⟩ = some a8 :=
  ⟨h.cell k hk 0, h.cell k hk 1, h.cell k hk 2, h.cell k hk 3, h.cell k hk 4, h.cell k hk 5, h.cell k hk 6, h.cell k hk 7, h.cell k hk 8⟩
def p4 : Pt := ⟨0, 0, 0, 0, 0, 1, 1, 1, 1⟩
theorem repS_bd {l g : Int} {round i : Nat} (_ : 0 ≤ l) (_ : l ≤ 1048576) (g0 : 0 ≤ g) (g1 : g ≤ i) (hr : round < 1048576) {a' : Nat} {l' g' : Int} (h : repS 1 l g round = (a', l', g')) : 0 ≤ l' ∧ l' ≤ 1048576 ∧ 0 ≤ g' ∧ g' ≤ ((i + 1 : Nat) : Int) := by
  unfold repS at h
  rw [if_pos rfl] at h
  injection h with _ h
  injection h with h2 h3
  subst h2 h3
  refine ⟨by omega, by omega, ?_, ?_⟩ <;> split <;> omega
set_option maxRecDepth 100000
set_option maxHeartbeats 8000000
theorem healthParts_walk (a0 : Option Addr) (len0 cap0 : Nat) (z0 : List Int) (a1 : Option Addr) (len1 cap1 : Nat) (z1 : List Int) (w : World) (h0 : IsRow .u32 w a0 len0 cap0 z0) (_ : len0 * 4 ≤ 140737488351232) (h1 : IsRow .i64 w a1 len1 cap1 z1) (_ : len1 * 8 ≤ 140737488351232) :
    Calls Try.prog 6 #[.slice a0 len0 cap0, .slice a1 len1 cap1] w fun e w' => e = .returned (.bool true) ∧ Below w.heap.size w w' := by
  obtain ⟨xs, hxl, hlc, hcm, hxc, hxw⟩ := h0.open_
  obtain ⟨ys, hyl, hlc1, hcm1, hyc, _⟩ := h1.open_
  clear h0 h1
  replace hxc := Hidd.mk hxc
  replace hxl := Hidd.mk hxl
  replace hyc := Hidd.mk hyc
  replace hyl := Hidd.mk hyl
  replace hxw := Hidd.mk hxw
  unfold maxLen at hcm hcm1
  go_enter Try.func6, Try.ntmps6
  go_wp2_with (go_at_call 14; refine (awake_any _).mono ?_; rintro e w1 ⟨rfl, hb1⟩; have ho1 := Hidd.mk (((Own.nil w (fun _ => False)).ext hb1).alloc (.cells #[.int .i64 0, .int .i64 0, .int .i64 0, .int .i64 0, .int .i64 0, .int .u8 1, .int .u8 1, .int .u8 1, .int .u8 1] 31 (0, 0))); clear hb1)
  generalize w1.heap.size = p5 at ho1 ⊢
  generalize World.alloc w1 _ = wa at ho1 ⊢
  obtain ⟨W0, hW0⟩ : ∃ zz, zz = World.drew wa := ⟨_, rfl⟩
  refine wp_region_tree (.two [0, 1, 4, 5] 2 [true] (.two [] 3 [false, true] (.one [] 6 [false, false, true] (.one [] 7 [false, false, false, false] (.leaf [8, 9]))) 6 [false, true] (.one [] 3 [false, false, true] (.one [] 7 [false, false, false, false] (.leaf [8, 9])))) 6 [true] (.one [] 2 [false, true] (.one [] 3 [false, false, true] (.one [] 7 [false, false, false, false] (.leaf [8, 9]))))) (by kernel_rfl) (by kernel_rfl) ?_
  rw [show ({ wa with drawn := wa.drawn + 1 } : World) = W0 from hW0.symm]
  replace hW0 := Hidd.mk hW0
  simp only [Tr.map, List.map_cons, List.map_nil, List.getD_cons_succ, List.getD_cons_zero]
  have ho2 := Hidd.mk (show Own w (fun _ => False) W0 _ by rw [hW0.out]; exact ho1.out.drew)
  clear hW0 ho1
  have hpl := ho2.out.lt 0 rfl
  obtain ⟨x0, x1, x2, x3, x4, x5, x6, x7, x8⟩ := cells9' ho2.out 0 rfl
  have ho := Hidd.mk (Own.nil W0 (fun _ => False))
  refine TrW.two (fun zz => Kept (fun _ => False) W0 zz) (Kept.refl _ _) ?_
  repeat (first | (refine StQ.skip (by rfl) ?_; simp only [Act.put, List.setIfInBounds_toArray, List.set_cons_zero, List.set_cons_succ]) | (refine StQ.go' (by rfl) (Exists.intro ?_ (And.intro (fun w' hS => ?_) ?_)); rotate_left; (focus (have hc := Kept.cell0 hS; go_simp; try with_reducible rfl)); simp only [Act.put, List.setIfInBounds_toArray, List.set_cons_zero, List.set_cons_succ]))
  refine StQ.nil ?_
  refine ⟨?_, ?_⟩
  focus
    clear x0 x1 x2 x3 x4 x5 x6 x7 x8
    (refine TrO.go (by rfl) (fun K hK => ?_); go_simp; have ho1 := row_lit ho.out 31 9 2 #[.int .i64 0, .int .i64 0, .int .i64 0, .int .i64 0, .int .i64 0, .int .u8 1, .int .u8 1, .int .u8 1, .int .u8 1, .int .i64 0, .int .i64 0, .int .i64 0, .int .i64 0, .int .i64 0, .int .u8 1, .int .u8 1, .int .u8 1, .int .u8 1] ([p4, p4].flatMap Pt.cells) rfl rfl (by decide); refine hK.out _ _ (.inr ⟨ho1.kept, trivial⟩) ?_; clear hK K ho; generalize World.alloc _ _ = W1 at ho1 ⊢; have ho := Hidd.mk ho1; clear ho1)
    refine TrW.two (fun _ => True) trivial (StQ.nil ⟨?_, ?_⟩)
    focus
      (refine TrO.go (by rfl) (fun K hK => ?_); go_simp; refine (new_own 0 _ 2 2 [p4, p4] _ (row_cells ho.out 0 rfl) rfl (by decide)).mono ?_; rintro e W1 ⟨b1, M1, rfl, hn⟩; have ho1 := ho.out.made hn; refine hK.out _ _ (.inr (by first | exact ⟨ho1.kept, trivial⟩ | exact trivial)) ?_; clear hK K ho; have ho := Hidd.mk ho1; clear ho1 hn)
      (refine TrW.one (fun _ => True) trivial (StQ.nil ?_))
      (refine TrO.go (by rfl) (fun K hK => ?_); go_simp; have ho1 := row_lit ho.out 31 9 2 #[.int .i64 0, .int .i64 0, .int .i64 0, .int .i64 0, .int .i64 0, .int .u8 1, .int .u8 1, .int .u8 1, .int .u8 1, .int .i64 0, .int .i64 0, .int .i64 0, .int .i64 0, .int .i64 0, .int .u8 1, .int .u8 1, .int .u8 1, .int .u8 1] ([p4, p4].flatMap Pt.cells) rfl rfl (by decide); refine hK.out _ _ (.inr ⟨ho1.kept, trivial⟩) ?_; clear hK K ho; generalize World.alloc _ _ = W1 at ho1 ⊢; have ho := Hidd.mk ho1; clear ho1)
      (refine TrW.one (fun _ => True) trivial (StQ.nil ?_))
      (refine TrO.go (by rfl) (fun K hK => ?_); go_simp; refine (new_own 0 _ 2 2 [p4, p4] _ (row_cells ho.out 0 rfl) rfl (by decide)).mono ?_; rintro e W1 ⟨b2, M2, rfl, hn⟩; have ho1 := ho.out.made hn; refine hK.out _ _ (.inr (by first | exact ⟨ho1.kept, trivial⟩ | exact trivial)) ?_; clear hK K ho; have ho := Hidd.mk ho1; clear ho1 hn)
      (refine TrW.leaf (fun _ => True) trivial ?_; (repeat (refine StQ.go' (by rfl) (Exists.intro ?_ (And.intro (fun w' hS => ?_) ?_)); rotate_left; (focus (go_simp; try with_reducible rfl)); simp only [Act.put, List.setIfInBounds_toArray, List.set_cons_zero, List.set_cons_succ])); refine StQ.nil ?_)
      refine Calm.normal ?_
      have hL := Hidd.mk ((ho2.out.madeL ho.out).reorder (M := [Res.pack (monL b1 (0 : Nat) 2 M1 none 0 0 [p4, p4] [0, 0] [0, 0] []), Res.pack (monL b2 (0 : Nat) 2 M2 none 0 0 [p4, p4] [0, 0] [0, 0] [])]) [2, 0] rfl (by decide))
      clear ho ho2 hpl
      skip
    rotate_left
    focus
      (refine TrO.go (by rfl) (fun K hK => ?_); go_simp; have ho1 := row_lit ho.out 31 9 2 #[.int .i64 0, .int .i64 0, .int .i64 0, .int .i64 0, .int .i64 0, .int .u8 1, .int .u8 1, .int .u8 1, .int .u8 1, .int .i64 0, .int .i64 0, .int .i64 0, .int .i64 0, .int .i64 0, .int .u8 1, .int .u8 1, .int .u8 1, .int .u8 1] ([p4, p4].flatMap Pt.cells) rfl rfl (by decide); refine hK.out _ _ (.inr ⟨ho1.kept, trivial⟩) ?_; clear hK K ho; generalize World.alloc _ _ = W1 at ho1 ⊢; have ho := Hidd.mk ho1; clear ho1)
      (refine TrW.one (fun _ => True) trivial (StQ.nil ?_))
      (refine TrO.go (by rfl) (fun K hK => ?_); go_simp; refine (new_own 0 _ 2 2 [p4, p4] _ (row_cells ho.out 1 rfl) rfl (by decide)).mono ?_; rintro e W1 ⟨b1, M1, rfl, hn⟩; have ho1 := ho.out.made hn; refine hK.out _ _ (.inr (by first | exact ⟨ho1.kept, trivial⟩ | exact trivial)) ?_; clear hK K ho; have ho := Hidd.mk ho1; clear ho1 hn)
      (refine TrW.one (fun _ => True) trivial (StQ.nil ?_))
      (refine TrO.go (by rfl) (fun K hK => ?_); go_simp; refine (new_own 0 _ 2 2 [p4, p4] _ (row_cells ho.out 1 rfl) rfl (by decide)).mono ?_; rintro e W1 ⟨b2, M2, rfl, hn⟩; have ho1 := ho.out.made hn; refine hK.out _ _ (.inr (by first | exact ⟨ho1.kept, trivial⟩ | exact trivial)) ?_; clear hK K ho; have ho := Hidd.mk ho1; clear ho1 hn)
      (refine TrW.leaf (fun _ => True) trivial ?_; (repeat (refine StQ.go' (by rfl) (Exists.intro ?_ (And.intro (fun w' hS => ?_) ?_)); rotate_left; (focus (go_simp; try with_reducible rfl)); simp only [Act.put, List.setIfInBounds_toArray, List.set_cons_zero, List.set_cons_succ])); refine StQ.nil ?_)
      refine Calm.normal ?_
      have hL := Hidd.mk ((ho2.out.madeL ho.out).reorder (M := [Res.pack (monL b1 (0 : Nat) 2 M1 none 0 0 [p4, p4] [0, 0] [0, 0] []), Res.pack (monL b2 (0 : Nat) 2 M2 none 0 0 [p4, p4] [0, 0] [0, 0] [])]) [1, 0] rfl (by decide))
      clear ho ho2 hpl
      skip
  rotate_left 2
  focus
    clear x0 x1 x2 x3 x4 x5 x6 x7 x8
    (refine TrO.go (by rfl) (fun K hK => ?_); go_simp; have ho1 := row_lit ho.out 31 9 2 #[.int .i64 0, .int .i64 0, .int .i64 0, .int .i64 0, .int .i64 0, .int .u8 1, .int .u8 1, .int .u8 1, .int .u8 1, .int .i64 0, .int .i64 0, .int .i64 0, .int .i64 0, .int .i64 0, .int .u8 1, .int .u8 1, .int .u8 1, .int .u8 1] ([p4, p4].flatMap Pt.cells) rfl rfl (by decide); refine hK.out _ _ (.inr ⟨ho1.kept, trivial⟩) ?_; clear hK K ho; generalize World.alloc _ _ = W1 at ho1 ⊢; have ho := Hidd.mk ho1; clear ho1)
    (refine TrW.one (fun _ => True) trivial (StQ.nil ?_))
    (refine TrO.go (by rfl) (fun K hK => ?_); go_simp; have ho1 := row_lit ho.out 31 9 2 #[.int .i64 0, .int .i64 0, .int .i64 0, .int .i64 0, .int .i64 0, .int .u8 1, .int .u8 1, .int .u8 1, .int .u8 1, .int .i64 0, .int .i64 0, .int .i64 0, .int .i64 0, .int .i64 0, .int .u8 1, .int .u8 1, .int .u8 1, .int .u8 1] ([p4, p4].flatMap Pt.cells) rfl rfl (by decide); refine hK.out _ _ (.inr ⟨ho1.kept, trivial⟩) ?_; clear hK K ho; generalize World.alloc _ _ = W1 at ho1 ⊢; have ho := Hidd.mk ho1; clear ho1)
    (refine TrW.one (fun _ => True) trivial (StQ.nil ?_))
    (refine TrO.go (by rfl) (fun K hK => ?_); go_simp; refine (new_own 0 _ 2 2 [p4, p4] _ (row_cells ho.out 0 rfl) rfl (by decide)).mono ?_; rintro e W1 ⟨b1, M1, rfl, hn⟩; have ho1 := ho.out.made hn; refine hK.out _ _ (.inr (by first | exact ⟨ho1.kept, trivial⟩ | exact trivial)) ?_; clear hK K ho; have ho := Hidd.mk ho1; clear ho1 hn)
    (refine TrW.one (fun _ => True) trivial (StQ.nil ?_))
    (refine TrO.go (by rfl) (fun K hK => ?_); go_simp; refine (new_own 0 _ 2 2 [p4, p4] _ (row_cells ho.out 2 rfl) rfl (by decide)).mono ?_; rintro e W1 ⟨b2, M2, rfl, hn⟩; have ho1 := ho.out.made hn; refine hK.out _ _ (.inr (by first | exact ⟨ho1.kept, trivial⟩ | exact trivial)) ?_; clear hK K ho; have ho := Hidd.mk ho1; clear ho1 hn)
    (refine TrW.leaf (fun _ => True) trivial ?_; (repeat (refine StQ.go' (by rfl) (Exists.intro ?_ (And.intro (fun w' hS => ?_) ?_)); rotate_left; (focus (go_simp; try with_reducible rfl)); simp only [Act.put, List.setIfInBounds_toArray, List.set_cons_zero, List.set_cons_succ])); refine StQ.nil ?_)
    refine Calm.normal ?_
    have hL := Hidd.mk ((ho2.out.madeL ho.out).reorder (M := [Res.pack (monL b1 (0 : Nat) 2 M1 none 0 0 [p4, p4] [0, 0] [0, 0] []), Res.pack (monL b2 (0 : Nat) 2 M2 none 0 0 [p4, p4] [0, 0] [0, 0] [])]) [1, 0] rfl (by decide))
    clear ho ho2 hpl
    skip
  all_goals go_wp2
  all_goals go_loopw [8] (fun v8 wr => ∃ (i : Nat) (l0 l1 g0 g1 : Int) (OA : Option Addr) (on oc : Nat) (out : List Rec5) (OB : Option Addr) (om od : Nat) (ouu : List Rec5), v8 = .int .i64 i ∧ i ≤ 60 ∧ on ≤ 4 ∧ om ≤ 4 ∧ 0 ≤ l0 ∧ l0 ≤ 1048576 ∧ 0 ≤ l1 ∧ l1 ≤ 1048576 ∧ 0 ≤ g0 ∧ g0 ≤ i ∧ 0 ≤ g1 ∧ g1 ≤ i ∧
      Hidd (Own w (fun _ => False) wr [Res.pack (monL b1 (0 : Nat) 2 M1 OA on oc [p4, p4] [l0, l1] [g0, g1] out), Res.pack (monL b2 (0 : Nat) 2 M2 OB om od [p4, p4] [l0, 0] [g0, 0] ouu)])) (fun v8 _ => 60 - (intOf v8).toNat)
  all_goals first
    | (case atStart => exact ⟨0, 0, 0, 0, 0, none, 0, 0, [], none, 0, 0, [], rfl, by omega, by omega, by omega, by omega, by omega, by omega, by omega, by omega, by omega, by omega, by omega, hL⟩)
    | skip
  all_goals (case round =>
    clear hL
    obtain ⟨i, l0, l1, g0, g1, OA, on, oc, out, OB, om, od, ouu, rfl, hi, hon, hom, hl0, hl0', hl1, hl1', hg0, hg0', hg1, hg1', ho⟩ := hrel
    by_cases hlt : i < len0 ∧ i < len1 ∧ i < 60
    · obtain ⟨hlt, hlt1, h60⟩ := hlt
      have d1 : decide (i < len0) = true := by simpa using hlt
      have d2 : decide (i < len1) = true := by simpa using hlt1
      have d3 : decide ((i : Int) < 60) = true := by rw [decide_eq_true_eq]; omega
      obtain ⟨ad, rfl, hc⟩ := hxc.out.at i (by rw [hxl.out]; exact hlt)
      obtain ⟨ae, rfl, hd⟩ := (hyc.out.below (ho.out.below fun _ => id)).at i (by rw [hyl.out]; exact hlt1)
      have bi0 : (0 : Int) ≤ (i : Int) := by omega
      have bi1 : (i : Int) < (len0 : Int) := by omega
      have bi2 : (i : Int) < (len1 : Int) := by omega
      have hw := hxw.out (xs.getD i 0) (by rw [List.getD_eq_getElem?_getD, List.getElem?_eq_getElem (by rw [hxl.out]; exact hlt)]; exact List.getElem_mem _)
      generalize xs.getD i 0 = rz at hc hw
      generalize ys.getD i 0 = z at hd
      obtain ⟨rd, rfl, hrd⟩ := wf32 hw
      obtain ⟨f, hf, hf1, hf2⟩ := u64_mod z 2 (by decide)
      rw [show ((2 : Nat) : Int) = 2 from rfl] at hf1 hf2
      clear hw
      have hc0 := Hidd.mk hc
      replace hc := vkeep (ho.out.below fun _ => id) hc
      obtain rfl | rfl : f = 0 ∨ f = 1 := by omega
      · rw [show ((0 : Nat) : Int) = 0 from rfl] at hf1 hf2
        clear hf
        by_cases hr : rd < 1048576
        · obtain ⟨⟨a', l', g'⟩, hrs⟩ : ∃ q, repS 1 l0 g0 rd = q := ⟨_, rfl⟩
          obtain ⟨q1, q2, q3, q4⟩ := repS_bd hl0 hl0' hg0 hg0' hr hrs
          replace hrs := Hidd.mk hrs
          go_wp2_with (first
            | (go_at_call 20; have hq := ho.out; clear hq; refine (report_at _ _ _ 0 0 ho.out rfl rd 0 0 rfl rfl rfl (by decide) (by decide) hr (by decide) (by decide) p4 rfl 1 rfl l0 g0 rfl rfl hg0 (by omega) hl0 hl0' (by omega) a' l' g' hrs.out a' rfl).mono ?_; rintro e w4 ⟨OA4, oc4, rfl, ho4⟩; have hc4 := vkeep (ho4.below fun _ => id) hc0.out; have ho4 := Hidd.mk ho4; clear ho)
            | (go_at_call 20; have hq := ho4.out; clear hq; refine (report_at _ _ _ 0 1 ho4.out rfl rd 0 0 rfl rfl rfl (by decide) (by decide) hr (by decide) (by decide) p4 rfl 1 rfl l0 g0 rfl rfl hg0 (by omega) hl0 hl0' (by omega) a' l' g' hrs.out a' rfl).mono ?_; rintro e w5 ⟨OB5, od5, rfl, ho5⟩; have ho5 := Hidd.mk ho5; clear ho4)
            | (go_at_call 22; have hq := ho5.out; clear hq; refine (read_any [] none .nilIface _ rfl ⟨by decide, by simp, by simp⟩).mono ?_; rintro e w6 ⟨rfl, hb6⟩; have ho6 := Hidd.mk (ho5.out.ext hb6); clear ho5 hb6)
            | (go_at_call 22; have hq := ho6.out; clear hq; refine (read_any [] none .nilIface _ rfl ⟨by decide, by simp, by simp⟩).mono ?_; rintro e w7 ⟨rfl, hb7⟩; have ho7 := Hidd.mk (ho6.out.ext hb7); clear ho6 hb7))
          go_roundw
          case rel => exact ⟨i + 1, l', l1, g', g1, OA4, _, oc4, _, OB5, _, od5, _, by go_num, by omega, by split <;> omega, by split <;> omega, q1, q2, hl1, hl1', q3, q4, hg1, by omega, ho7⟩
          case measure => simp [intOf]; omega
        · go_wp2_with (first
            | (go_at_call 20; have hq := ho.out; clear hq; refine (report_bad 0 ho.out rfl rd 0 0 (by omega)).mono ?_; rintro e w4 ⟨rfl, rfl⟩; have ho4 := ho; clear ho)
            | (go_at_call 20; have hq := ho4.out; clear hq; refine (report_bad 1 ho4.out rfl rd 0 0 (by omega)).mono ?_; rintro e w5 ⟨rfl, rfl⟩; have ho5 := ho4; clear ho4)
            | (go_at_call 22; have hq := ho5.out; clear hq; refine (read_any [] (some 2) _ _ rfl ⟨by decide, by simp, by simp⟩).mono ?_; rintro e w6 ⟨rfl, hb6⟩; have ho6 := Hidd.mk (ho5.out.ext hb6); clear ho5 hb6)
            | (go_at_call 22; have hq := ho6.out; clear hq; refine (read_any [] (some 2) _ _ rfl ⟨by decide, by simp, by simp⟩).mono ?_; rintro e w7 ⟨rfl, hb7⟩; have ho7 := Hidd.mk (ho6.out.ext hb7); clear ho6 hb7))
          go_roundw
          case rel => exact ⟨i + 1, l0, l1, g0, g1, OA, on, oc, out, OB, om, od, ouu, by go_num, by omega, hon, hom, hl0, hl0', hl1, hl1', hg0, by omega, hg1, by omega, ho7⟩
          case measure => simp [intOf]; omega
      · rw [show ((1 : Nat) : Int) = 1 from rfl] at hf1 hf2
        clear hf
        by_cases hr : rd < 1048576
        · obtain ⟨⟨a', l', g'⟩, hrs⟩ : ∃ q, repS 1 l1 g1 rd = q := ⟨_, rfl⟩
          obtain ⟨q1, q2, q3, q4⟩ := repS_bd hl1 hl1' hg1 hg1' hr hrs
          replace hrs := Hidd.mk hrs
          go_wp2_with (go_at_call 20; refine (report_at _ _ _ 0 0 ho.out rfl rd 0 1 rfl rfl rfl (by decide) (by decide) hr (by decide) (by decide) p4 rfl 1 rfl l1 g1 rfl rfl hg1 (by omega) hl1 hl1' (by omega) a' l' g' hrs.out a' rfl).mono ?_; rintro e w4 ⟨OA4, oc4, rfl, ho4⟩; have ho4 := Hidd.mk ho4; clear ho)
          go_roundw
          case rel => exact ⟨i + 1, l0, l', g0, g', OA4, _, oc4, _, OB, om, od, ouu, by go_num, by omega, by split <;> omega, hom, hl0, hl0', q1, q2, hg0, by omega, q3, q4, ho4⟩
          case measure => simp [intOf]; omega
        · go_wp2_with (go_at_call 20; refine (report_bad 0 ho.out rfl rd 0 1 (by omega)).mono ?_; rintro e w4 ⟨rfl, rfl⟩)
          go_roundw
          case rel => exact ⟨i + 1, l0, l1, g0, g1, OA, on, oc, out, OB, om, od, ouu, by go_num, by omega, hon, hom, hl0, hl0', hl1, hl1', hg0, by omega, hg1, by omega, ho⟩
          case measure => simp [intOf]; omega
    · have hcase : decide (i < len0) = false ∨ (decide (i < len0) = true ∧ decide (i < len1) = false) ∨ (decide (i < len0) = true ∧ decide (i < len1) = true ∧ decide ((i : Int) < 60) = false) := by
        by_cases h2 : i < len0
        · by_cases h3 : i < len1
          · exact .inr (.inr ⟨by simpa using h2, by simpa using h3, by rw [decide_eq_false_iff_not]; omega⟩)
          · exact .inr (.inl ⟨by simpa using h2, by simpa using h3⟩)
        · exact .inl (by simpa using h2)
      clear hlt
      rcases hcase with d1 | ⟨d1, d2⟩ | ⟨d1, d2, d3⟩
      all_goals go_wp2
      all_goals go_ret
      all_goals exact ⟨rfl, ho.out.below fun _ => id⟩)
end Go.Proofs.Ytpiahnecpbalhaa
