/- Works; the law SoundChecks walked. -/
import Derived.Test.YtcamoldjljfbeaaSoJ
import Derived.Test.YtcamoldjljfbeaaSoK
import Derived.Test.YtcamoldjljfbeaaSoH
namespace Go.Proofs.Ytcamoldjljfbeaa
open Go.RowKit

def workB (n f sl gp rh d0 d1 mg : Int) (ps : List Pt) (qs : List Qt) (rs : List Rt) : Bool := !longB ps.length qs.length rs.length && (soundE n f sl gp rh d0 d1 mg ps qs rs).isNone
theorem firstE_some {α : Type} {ok : α → Bool} {c q a : Int} : ∀ {l : List α} {i : Nat}, firstE ok c l i = some (q, a) → q = c ∧ (i : Int) ≤ a ∧ a < (i : Int) + l.length
  | [], _, h => by cases h
  | y :: l, i, h => by
    unfold firstE at h
    split at h
    · have := firstE_some h
      simp only [List.length_cons]
      omega
    · injection h with h
      injection h with h1 h2
      subst h1 h2
      simp only [List.length_cons]
      exact ⟨trivial, Int.le_refl _, by omega⟩
theorem winF_some {N : Int} {q : Nat} : ∀ {l pre : List Pt} {i : Nat}, winF N pre l i = some q → i ≤ q ∧ q < i + l.length
  | [], _, _, h => by cases h
  | y :: l, pre, i, h => by
    unfold winF at h
    split at h
    · injection h with h
      subst h
      simp only [List.length_cons]
      omega
    · have := winF_some h
      simp only [List.length_cons]
      omega
theorem rouF_some {qs : List Qt} {q : Nat} : ∀ {l pre : List Rt} {i : Nat}, rouF qs pre l i = some q → i ≤ q ∧ q < i + l.length
  | [], _, _, h => by cases h
  | y :: l, pre, i, h => by
    unfold rouF at h
    split at h
    · injection h with h
      subst h
      simp only [List.length_cons]
      omega
    · have := rouF_some h
      simp only [List.length_cons]
      omega
theorem tabE_some {n f sl gp rh d0 d1 mg : Int} {ps : List Pt} {qs : List Qt} {rs : List Rt} {c a : Int} (h : tabE n f sl gp rh d0 d1 mg ps qs rs = some (c, a)) : c ≠ 0 ∧ 0 ≤ c ∧ c ≤ 100 ∧ -1 ≤ a ∧ a ≤ 100 := by
  unfold tabE at h
  split at h
  · injection h with h; injection h with h1 h2; subst h1 h2; decide
  · split at h
    · injection h with h; injection h with h1 h2; subst h1 h2; decide
    · split at h
      · rename_i e he
        injection h with h
        subst h
        have := firstE_some he
        omega
      · split at h
        · rename_i e he
          injection h with h
          subst h
          have := firstE_some he
          omega
        · have := firstE_some h
          omega
theorem soundE_some {n f sl gp rh d0 d1 mg : Int} {ps : List Pt} {qs : List Qt} {rs : List Rt} {c a : Int} (h : soundE n f sl gp rh d0 d1 mg ps qs rs = some (c, a)) : c ≠ 0 ∧ 0 ≤ c ∧ c ≤ 100 ∧ -1 ≤ a ∧ a ≤ 100 := by
  unfold soundE at h
  split at h
  · rename_i e he
    injection h with h
    subst h
    exact tabE_some he
  · rename_i he
    have hT := Tab.of he
    have h1 := hT.np
    have h3 := hT.nr
    split at h
    · injection h with h; injection h with h1 h2; subst h1 h2; decide
    split at h
    · injection h with h; injection h with h1 h2; subst h1 h2; decide
    split at h
    · injection h with h; injection h with h1 h2; subst h1 h2; decide
    split at h
    · injection h with h; injection h with h1 h2; subst h1 h2; decide
    split at h
    · rename_i q hq
      injection h with h
      injection h with e1 e2
      subst e1 e2
      have := winF_some hq
      omega
    · split at h
      · rename_i q hq
        injection h with h
        injection h with e1 e2
        subst e1 e2
        have := rouF_some hq
        omega
      · cases h
theorem ok_of {er : Option (Int × Int)} (h : ∀ c a, er = some (c, a) → c ≠ 0 ∧ 0 ≤ c ∧ c ≤ 100 ∧ -1 ≤ a ∧ a ≤ 100) : OkErr (erL er) none := by
  rcases er with _ | ⟨c, a⟩
  · exact ⟨by decide, by simp [erL], by simp⟩
  · refine ⟨show 1 ≤ 20 by decide, fun p hp => ?_, by simp⟩
    obtain rfl := List.mem_singleton.1 hp
    have := h c a rfl
    simp only
    omega
set_option maxRecDepth 100000
set_option maxHeartbeats 8000000
theorem works_any (n f sl gp rh d0 d1 mg : Int) (PA : Option Addr) (pn pc : Nat) (OA : Option Addr) (on oc : Nat) (RA : Option Addr) (rn rc : Nat) (ps : List Pt) (qs : List Qt) (rs : List Rt) (w : World) (hP : At Pt.cells w PA pn ps) (hQ : At Qt.cells w OA on qs) (hR : At Rt.cells w RA rn rs)
    (oP : ∀ p ∈ ps, p.Ok) (oQ : ∀ p ∈ qs, p.Ok) (b : Bool) (hb : workB n f sl gp rh d0 d1 mg ps qs rs = b) :
    Calls Try.prog 25 #[.agg #[.int .i64 n, .int .i64 f, .int .i64 sl, .int .i64 gp, .int .i64 rh, .int .i64 d0, .int .i64 d1, .int .i64 mg, .slice PA pn pc, .slice OA on oc, .slice RA rn rc]] w fun e w' => e = .returned (.bool b) ∧ Below w.heap.size w w' := by
  have ho := Hidd.mk ((Own.nil w (fun _ => False)).alloc (.cells #[.int .i64 n, .int .i64 f, .int .i64 sl, .int .i64 gp, .int .i64 rh, .int .i64 d0, .int .i64 d1, .int .i64 mg, .slice PA pn pc, .slice OA on oc, .slice RA rn rc] 26))
  have hB0 := ho.out.below fun _ => id
  unfold workB at hb
  rw [hP.1, hQ.1, hR.1] at hb
  rcases hl : longB pn on rn with _ | _
  rotate_left
  · rw [hl] at hb
    obtain rfl : false = b := hb
    replace hl := Hidd.mk hl
    clear hP hQ hR oP oQ hB0
    go_enter Try.func25, Try.ntmps25
    go_wp2_with (go_at_call 19; refine (long_any n f sl gp rh d0 d1 mg PA pn pc OA on oc RA rn rc _).mono ?_; rintro e w1 ⟨rfl, hb⟩; rw [hl.out]; have ho1 := Hidd.mk (ho.out.ext hb); clear hb ho)
    go_ret
    exact ⟨rfl, ho1.out.below fun _ => id⟩
  · rw [hl] at hb
    replace hP := Hidd.mk hP
    replace hQ := Hidd.mk hQ
    replace hR := Hidd.mk hR
    replace oP := Hidd.mk oP
    replace oQ := Hidd.mk oQ
    replace hl := Hidd.mk hl
    clear hB0
    rcases he : soundE n f sl gp rh d0 d1 mg ps qs rs with _ | ⟨c, a⟩
    · rw [he] at hb
      obtain rfl : true = b := hb
      replace he := Hidd.mk he
      go_enter Try.func25, Try.ntmps25
      go_wp2_with (first
        | (go_at_call 19; refine (long_any n f sl gp rh d0 d1 mg PA pn pc OA on oc RA rn rc _).mono ?_; rintro e w1 ⟨rfl, hb⟩; rw [hl.out]; have ho1 := Hidd.mk (ho.out.ext hb); clear hb ho; obtain ⟨x0, x1, x2, x3, x4, x5, x6, x7, x8, x9, xA⟩ := cells11 ho1.out 0 rfl)
        | (go_at_call 23; refine (refSound_any n f sl gp rh d0 d1 mg PA pn pc OA on oc RA rn rc ps qs rs _ (hP.out.below (ho1.out.below fun _ => id)) (hQ.out.below (ho1.out.below fun _ => id)) (hR.out.below (ho1.out.below fun _ => id)) oP.out oQ.out _ he.out).mono ?_; rintro e w2 ⟨rfl, hb⟩; rw [show textE none = ⟨#[]⟩ from rfl]; have ho2 := Hidd.mk (ho1.out.ext hb); clear hb ho1))
      go_ret
      exact ⟨rfl, ho2.out.below fun _ => id⟩
    · rw [he] at hb
      obtain rfl : false = b := hb
      replace he := Hidd.mk he
      have hne := ne_empty (atB_pos c a)
      go_enter Try.func25, Try.ntmps25
      go_wp2_with (first
        | (go_at_call 19; refine (long_any n f sl gp rh d0 d1 mg PA pn pc OA on oc RA rn rc _).mono ?_; rintro e w1 ⟨rfl, hb⟩; rw [hl.out]; have ho1 := Hidd.mk (ho.out.ext hb); clear hb ho; obtain ⟨x0, x1, x2, x3, x4, x5, x6, x7, x8, x9, xA⟩ := cells11 ho1.out 0 rfl)
        | (go_at_call 23; refine (refSound_any n f sl gp rh d0 d1 mg PA pn pc OA on oc RA rn rc ps qs rs _ (hP.out.below (ho1.out.below fun _ => id)) (hQ.out.below (ho1.out.below fun _ => id)) (hR.out.below (ho1.out.below fun _ => id)) oP.out oQ.out _ he.out).mono ?_; rintro e w2 ⟨rfl, hb⟩; rw [show textE (some (c, a)) = atB c a from rfl]; have ho2 := Hidd.mk (ho1.out.ext hb); clear hb ho1))
      go_ret
      exact ⟨rfl, ho2.out.below fun _ => id⟩
theorem soundChecks_walk (n f sl gp rh d0 d1 mg : Int) (PA : Option Addr) (pn pc : Nat) (pz : List (List Value)) (OA : Option Addr) (on oc : Nat) (oz : List (List Value)) (RA : Option Addr) (rn rc : Nat) (rz : List (List Value)) (w : World) (_h0 : (Lit.int .i64 n).wf = true) (_h1 : (Lit.int .i64 f).wf = true) (_h2 : (Lit.int .i64 sl).wf = true) (_h3 : (Lit.int .i64 gp).wf = true) (_h4 : (Lit.int .i64 rh).wf = true) (_h5 : (Lit.int .i64 d0).wf = true) (_h6 : (Lit.int .i64 d1).wf = true) (_h7 : (Lit.int .i64 mg).wf = true) (h8 : Rows' w 48 [.int .i64, .int .i64, .int .i64, .int .i64, .int .i64, .int .u8, .int .u8, .int .u8, .int .u8] PA pn pc pz) (h9 : Rows' w 40 [.int .i64, .int .u8, .bool, .int .i64, .int .i64, .int .i64] OA on oc oz) (hA : Rows' w 16 [.int .i64, .int .i64] RA rn rc rz) :
    Calls Try.prog 3 #[.agg #[.int .i64 n, .int .i64 f, .int .i64 sl, .int .i64 gp, .int .i64 rh, .int .i64 d0, .int .i64 d1, .int .i64 mg, .slice PA pn pc, .slice OA on oc, .slice RA rn rc]] w fun e w' => e = .returned (.bool true) ∧ Below w.heap.size w w' := by
  obtain ⟨ps, hP, oP⟩ := parts_of h8
  obtain ⟨qs, hQ, oQ⟩ := ports_of h9
  obtain ⟨rs, hR, _⟩ := routes_of hA
  have hpw := h8.wt
  have hqw := h9.wt
  have hrw := hA.wt
  unfold reachBytes at hpw hqw hrw
  clear _h0 _h1 _h2 _h3 _h4 _h5 _h6 _h7 h8 h9 hA
  have ho := Hidd.mk ((Own.nil w (fun _ => False)).alloc (.cells #[.int .i64 n, .int .i64 f, .int .i64 sl, .int .i64 gp, .int .i64 rh, .int .i64 d0, .int .i64 d1, .int .i64 mg, .slice PA pn pc, .slice OA on oc, .slice RA rn rc] 26))
  replace hP := Hidd.mk hP
  replace hQ := Hidd.mk hQ
  replace hR := Hidd.mk hR
  replace oP := Hidd.mk oP
  replace oQ := Hidd.mk oQ
  rcases hl : longB pn on rn with _ | _
  rotate_left
  · replace hl := Hidd.mk hl
    go_enter Try.func3, Try.ntmps3
    go_wp2_with (first
      | (go_at_call 18; refine (awake6_any _).mono ?_; rintro e w1 ⟨rfl, hb⟩; have ho1 := Hidd.mk (ho.out.ext hb); clear hb ho; obtain ⟨x0, x1, x2, x3, x4, x5, x6, x7, x8, x9, xA⟩ := cells11 ho1.out 0 rfl)
      | (go_at_call 19; refine (long_any n f sl gp rh d0 d1 mg PA pn pc OA on oc RA rn rc _).mono ?_; rintro e w2 ⟨rfl, hb⟩; rw [hl.out]; have ho2 := Hidd.mk (ho1.out.ext hb); clear hb ho1))
    go_ret
    exact ⟨rfl, ho2.out.below fun _ => id⟩
  · replace hl := Hidd.mk hl
    obtain ⟨er, her⟩ : ∃ er, soundE n f sl gp rh d0 d1 mg ps qs rs = er := ⟨_, rfl⟩
    have hok : Hidd (OkErr (erL er) none) := ⟨ok_of fun c a e => soundE_some (her.trans e)⟩
    replace her := Hidd.mk her
    have hte := errB_erL er
    go_enter Try.func3, Try.ntmps3
    go_wp2_with (first
      | (go_at_call 18; refine (awake6_any _).mono ?_; rintro e w1 ⟨rfl, hb⟩; have ho1 := Hidd.mk (ho.out.ext hb); clear hb ho; obtain ⟨x0, x1, x2, x3, x4, x5, x6, x7, x8, x9, xA⟩ := cells11 ho1.out 0 rfl)
      | (go_at_call 19; refine (long_any n f sl gp rh d0 d1 mg PA pn pc OA on oc RA rn rc _).mono ?_; rintro e w2 ⟨rfl, hb⟩; rw [hl.out]; have ho2 := Hidd.mk (ho1.out.ext hb); clear hb ho1 x0 x1 x2 x3 x4 x5 x6 x7 x8 x9 xA))
    generalize w.heap.size = p1 at ho2 ⊢
    obtain ⟨W0, hW0⟩ : ∃ zz, zz = World.drew w2 := ⟨_, rfl⟩
    refine wp_region_flow [([0, 4], some (1, [true])), ([], some (2, [false, true])), ([], some (3, [false, false, true])), ([], some (5, [false, false, false, false])), ([6, 7], none)] (by kernel_rfl) (by kernel_rfl) ?_
    rw [show ({ w2 with drawn := w2.drawn + 1 } : World) = W0 from hW0.symm]
    replace hW0 := Hidd.mk hW0
    simp only [opsF, List.map_cons, List.map_nil, List.getD_cons_succ, List.getD_cons_zero, Option.map]
    have ho3 := Hidd.mk (show Own w (fun _ => False) W0 _ by rw [hW0.out]; exact ho2.out.drew)
    clear hW0 ho2
    obtain ⟨x0, x1, x2, x3, x4, x5, x6, x7, x8, x9, xA⟩ := cells11 ho3.out 0 rfl
    have hpl1 := ho3.out.lt 0 rfl
    have hB3 := Hidd.mk (ho3.out.below fun _ => id)
    refine FlW.stage (fun zz => Kept (fun _ => False) W0 zz) (Kept.refl _ _) ?_
    repeat (first | (refine StQ.skip (by rfl) ?_; simp only [Act.put, List.setIfInBounds_toArray, List.set_cons_zero, List.set_cons_succ]) | (refine StQ.go' (by rfl) (Exists.intro ?_ (And.intro (fun w' hS => ?_) ?_)); rotate_left; (focus (have hc := Kept.cell0 hS; go_simp; try with_reducible rfl)); simp only [Act.put, List.setIfInBounds_toArray, List.set_cons_zero, List.set_cons_succ]))
    refine StQ.nil ?_
    refine FlO.go (by rfl) (fun K hK => ?_)
    go_simp
    (refine (copied_any n f sl gp rh d0 d1 mg PA pn pc OA on oc RA rn rc ps qs rs _ (hP.out.below hB3.out) (hQ.out.below hB3.out) (hR.out.below hB3.out) hpw hqw hrw).mono ?_; rintro e w4 ⟨A, a, B, b, C, c, rfl, hn4⟩; have ho4 := Hidd.mk hn4)
    refine hK.out _ _ (.inr ⟨hn4.kept, trivial⟩) ?_
    clear hK K
    clear x0 x1 x2 x3 x4 x5 x6 x7 x8 x9 xA hpl1 hn4
    obtain ⟨l1, l2⟩ := row_le ho4.out 2 rfl
    obtain ⟨l3, l4⟩ := row_le ho4.out 0 rfl
    unfold maxLen at l2 l4
    refine FlW.stage (fun _ => True) trivial (StQ.nil ?_)
    refine FlO.go (by rfl) (fun K hK => ?_)
    go_simp
    (refine (soundCheck_any n f sl gp rh d0 d1 mg A pn a B on b C rn c ps qs rs _ ⟨hP.out.1, row_cells ho4.out 2 rfl⟩ ⟨hQ.out.1, row_cells ho4.out 1 rfl⟩ ⟨hR.out.1, row_cells ho4.out 0 rfl⟩ oP.out oQ.out l1 l2 l3 l4 _ her.out).mono ?_; rintro e w5 ⟨v, rfl, he, hb5⟩; have ho5 := Hidd.mk (ho4.out.ext hb5); have he5 := Hidd.mk he.isErr)
    refine hK.out _ _ (.inr ⟨ho5.out.kept, trivial⟩) ?_
    clear hK K
    clear he hb5 ho4
    refine FlW.stage (fun _ => True) trivial (StQ.nil ?_)
    refine FlO.go (by rfl) (fun K hK => ?_)
    go_simp
    (refine (read_any (erL er) none v _ he5.out hok.out).mono ?_; rintro e w6 ⟨rfl, hb6⟩; rw [hte]; have ho6 := Hidd.mk (ho5.out.ext hb6))
    refine hK.out _ _ (.inr ⟨ho6.out.kept, trivial⟩) ?_
    clear hK K
    clear hb6 ho5 he5
    have hB6 := Hidd.mk (hB3.out.trans ((ho6.out.below fun _ => id).mono hB3.out.size))
    refine FlW.stage (fun _ => True) trivial (StQ.nil ?_)
    refine FlO.go (by rfl) (fun K hK => ?_)
    go_simp
    (refine (refSound_any n f sl gp rh d0 d1 mg PA pn pc OA on oc RA rn rc ps qs rs _ (hP.out.below hB6.out) (hQ.out.below hB6.out) (hR.out.below hB6.out) oP.out oQ.out _ her.out).mono ?_; rintro e w7 ⟨rfl, hb7⟩; have hB7 := Hidd.mk (below_then hB6.out hb7))
    refine hK.out _ _ (.inr trivial) ?_
    clear hK K
    clear hb7 hB6 ho6
    refine FlW.heads (fun zz => zz = _) rfl ?_
    repeat (first | (refine StQ.skip (by rfl) ?_; simp only [Act.put, List.setIfInBounds_toArray, List.set_cons_zero, List.set_cons_succ]) | (refine StQ.go' (by rfl) (Exists.intro ?_ (And.intro (fun w' hS => ?_) ?_)); rotate_left; (focus (rw [hS]; go_simp; try with_reducible rfl)); simp only [Act.put, List.setIfInBounds_toArray, List.set_cons_zero, List.set_cons_succ]))
    refine StQ.nil ?_
    refine FlW.nil (Calm.normal ?_)
    go_wp2
    go_ret
    exact ⟨rfl, hB7.out⟩
end Go.Proofs.Ytcamoldjljfbeaa
