/- frames.At, Next, Idle. -/
import Derived.Test.YtcamoldjljfbeaaSoV
namespace Go.Proofs.Ytcamoldjljfbeaa
open Go.RowKit

def Ends3 (E : Int → Prop) (s u : Int) : Nat → Int → Prop
  | 0 => E
  | 1 => fun e => E e ∨ e = s
  | _ => fun e => (E e ∨ e = s) ∨ e = u
set_option maxRecDepth 100000
set_option maxHeartbeats 8000000
theorem ends3_at (E : Int → Prop) (s u : Int) (k : Nat) (hk : k < 2) : ∃ x : Int, (∀ w, (Instr.index 94 (.agg #[.int .i64 s, .int .i64 u]) (.int .i64 (k : Int))).run Try.prog w = .ok (.int .i64 x) w) ∧ ∀ e, (Ends3 E s u k e ∨ e = x) ↔ Ends3 E s u (k + 1) e := by
  rcases k with _ | k
  · exact ⟨s, fun w => by kernel_rfl, fun e => Iff.rfl⟩
  · obtain rfl : k = 0 := by omega
    exact ⟨u, fun w => by kernel_rfl, fun e => Iff.rfl⟩
theorem frAt_any (n f sl gp rh d0 d1 mg : Int) (PA : Option Addr) (pn pc : Nat) (OA : Option Addr) (on oc : Nat) (RA : Option Addr) (rn rc : Nat) (ps : List Pt) (node t : Int) (w : World) (hP : At Pt.cells w PA pn ps) (hpn : pn ≤ 12) (hi : ∀ p ∈ ps, PtIn p) (hd : Dis ps) :
    Calls Try.prog 36 #[.agg #[.int .i64 n, .int .i64 f, .int .i64 sl, .int .i64 gp, .int .i64 rh, .int .i64 d0, .int .i64 d1, .int .i64 mg, .slice PA pn pc, .slice OA on oc, .slice RA rn rc], .int .i64 node, .int .i64 t] w fun e w' => ∃ r, e = .returned (.int .i64 r) ∧ AtIs ps node t r ∧ Below w.heap.size w w' := by
  have ho0 := Hidd.mk ((Own.nil w (fun _ => False)).alloc (.cells #[.int .i64 n, .int .i64 f, .int .i64 sl, .int .i64 gp, .int .i64 rh, .int .i64 d0, .int .i64 d1, .int .i64 mg, .slice PA pn pc, .slice OA on oc, .slice RA rn rc] 26))
  obtain ⟨l, hl⟩ : ∃ l, ordL ps node = l := ⟨_, rfl⟩
  have hO : Ord ps node l := by rw [← hl]; exact ordL_ord _ _
  obtain ⟨ln, hln⟩ : ∃ ln, l.length = ln := ⟨_, rfl⟩
  have hl12 : ln ≤ 12 := by rw [← hln]; have := hO.len; have := hP.1; omega
  replace hP := Hidd.mk hP
  replace hi := Hidd.mk hi
  replace hd := Hidd.mk hd
  replace hl := Hidd.mk hl
  replace hln := Hidd.mk hln
  replace hO := Hidd.mk hO
  go_enter Try.func36, Try.ntmps36
  go_wp2_with (go_at_call 37; refine (wins_any n f sl gp rh d0 d1 mg PA pn pc OA on oc RA rn rc ps node l _ (hP.out.below (ho0.out.below fun _ => id)) hpn hi.out hd.out hl.out ln hln.out).mono ?_; rintro e w1 ⟨A, c, rfl, hn⟩; have ho1 := Hidd.mk (ho0.out.madeL hn); clear hn)
  clear ho0
  generalize w.heap.size = p1 at ho1 ⊢
  go_loopw [13] (fun v13 wr => ∃ (j : Nat), v13 = .int .i64 j ∧ j ≤ ln ∧ Hidd (∀ k i, k < j → l[k]? = some i → ¬ inW ps i t) ∧ Hidd (Own w (fun _ => False) wr [row 62 3 (.slice A ln c) ln (l.flatMap (winC ps))])) (fun v13 _ => ln - (intOf v13).toNat)
  case atStart => exact ⟨0, rfl, Nat.zero_le _, ⟨fun k i h => by omega⟩, ⟨ho1.out.reorder (M := [_]) [0] rfl (by decide)⟩⟩
  case round =>
    clear ho1
    obtain ⟨j, rfl, hjl, hno, ho⟩ := hrel
    by_cases hlj : j < ln
    · obtain ⟨i, hi'⟩ : ∃ x, l[j]? = some x := ⟨_, List.getElem?_eq_getElem (by rw [hln.out]; exact hlj)⟩
      obtain ⟨p, hp, hnode, hpp⟩ := hO.out.at hi'
      obtain ⟨a, rfl, y0, y1, y2⟩ := At.win (w := wr) (A := A) (n := ln) ⟨hln.out, row_cells ho.out 0 rfl⟩ hi'
      have hyl := World.block_lt_of_cell? _ _ y0
      have bj0 : (0 : Int) ≤ (j : Int) := by omega
      have bj1 : (j : Int) < (ln : Int) := by omega
      obtain ⟨s, hs⟩ : ∃ s, stOf ps i = s := ⟨_, rfl⟩
      obtain ⟨u, hu⟩ : ∃ u, stOf ps i + lnOf ps i = u := ⟨_, rfl⟩
      rw [hs] at y1
      rw [hu] at y2
      have hin : inW ps i t ↔ s ≤ t ∧ t < u := by unfold inW; rw [hu, hs]
      have hex : AtIs ps node t i ↔ inW ps i t := ⟨fun h => by
        rcases h with ⟨k, h1, h2, h3, e⟩ | ⟨_, e⟩
        · obtain rfl : i = k := by omega
          exact h3
        · omega, fun h => .inl ⟨i, hpp, (ndOf_at hp).trans hnode, h, rfl⟩⟩
      have hnx : ¬ inW ps i t → ∀ k x, k < j + 1 → l[k]? = some x → ¬ inW ps x t := fun h k x hk hx => by
        by_cases hkj : k = j
        · subst hkj
          rw [hi'] at hx
          injection hx with hx
          subst hx
          exact h
        · exact hno.out k x (by omega) hx
      have hend := Hidd.mk (ho.out.alloc (.cells #[.int .i64 (i : Int), .int .i64 s, .int .i64 u] 62)).tail
      have hfin := Hidd.mk (ho.out.alloc (.cells #[.int .i64 (i : Int), .int .i64 s, .int .i64 u] 62))
      clear hs hu hp hi'
      by_cases c0 : s ≤ t
      · by_cases c1 : t < u
        · have e0 := decide_eq_true c0
          have e1 := decide_eq_true c1
          have hend2 := Hidd.mk (hex.2 (hin.2 ⟨c0, c1⟩))
          clear hex hin hnx c0 c1 hend
          go_wp2
          go_ret
          exact ⟨_, rfl, hend2.out, hfin.out.below fun _ => id⟩
        · have e0 := decide_eq_true c0
          have e1 := decide_eq_false c1
          have hend2 := Hidd.mk (hnx fun h => c1 (hin.1 h).2)
          clear hex hin hnx c0 c1 hfin
          go_wp2
          go_roundw
          case rel => exact ⟨j + 1, by go_num, by omega, hend2, hend⟩
          case measure => (simp [intOf]; try omega)
      · have e0 := decide_eq_false c0
        have hend2 := Hidd.mk (hnx fun h => c0 (hin.1 h).1)
        clear hex hin hnx c0 hfin
        go_wp2
        go_roundw
        case rel => exact ⟨j + 1, by go_num, by omega, hend2, hend⟩
        case measure => (simp [intOf]; try omega)
    · obtain rfl : ln = j := by omega
      have hend := Hidd.mk (show AtIs ps node t (-1) from .inr ⟨fun i h1 h2 => by
        obtain ⟨k, hk⟩ := List.getElem?_of_mem (hO.out.mem.2 ⟨h1, h2⟩)
        have hkl : k < ln := by rw [← hln.out]; exact (List.getElem?_eq_some_iff.1 hk).1
        exact hno.out k i hkl hk, rfl⟩)
      go_wp2
      go_ret
      exact ⟨_, rfl, hend.out, ho.out.below fun _ => id⟩
theorem frNext_any (n f sl gp rh d0 d1 mg : Int) (PA : Option Addr) (pn pc : Nat) (OA : Option Addr) (on oc : Nat) (RA : Option Addr) (rn rc : Nat) (ps : List Pt) (node t : Int) (w : World) (hP : At Pt.cells w PA pn ps) (hpn : pn ≤ 12) (hi : ∀ p ∈ ps, PtIn p) (hd : Dis ps) :
    Calls Try.prog 35 #[.agg #[.int .i64 n, .int .i64 f, .int .i64 sl, .int .i64 gp, .int .i64 rh, .int .i64 d0, .int .i64 d1, .int .i64 mg, .slice PA pn pc, .slice OA on oc, .slice RA rn rc], .int .i64 node, .int .i64 t] w fun e w' => ∃ b fd, e = .returned (.tuple #[.int .i64 b, .bool fd]) ∧ NextOf (EndOf ps node) t b fd ∧ Below w.heap.size w w' := by
  have ho0 := Hidd.mk ((Own.nil w (fun _ => False)).alloc (.cells #[.int .i64 n, .int .i64 f, .int .i64 sl, .int .i64 gp, .int .i64 rh, .int .i64 d0, .int .i64 d1, .int .i64 mg, .slice PA pn pc, .slice OA on oc, .slice RA rn rc] 26))
  obtain ⟨l, hl⟩ : ∃ l, ordL ps node = l := ⟨_, rfl⟩
  have hO : Ord ps node l := by rw [← hl]; exact ordL_ord _ _
  obtain ⟨ln, hln⟩ : ∃ ln, l.length = ln := ⟨_, rfl⟩
  have hl12 : ln ≤ 12 := by rw [← hln]; have := hO.len; have := hP.1; omega
  replace hP := Hidd.mk hP
  replace hi := Hidd.mk hi
  replace hd := Hidd.mk hd
  replace hl := Hidd.mk hl
  replace hln := Hidd.mk hln
  replace hO := Hidd.mk hO
  go_enter Try.func35, Try.ntmps35
  go_wp2_with (go_at_call 37; refine (wins_any n f sl gp rh d0 d1 mg PA pn pc OA on oc RA rn rc ps node l _ (hP.out.below (ho0.out.below fun _ => id)) hpn hi.out hd.out hl.out ln hln.out).mono ?_; rintro e w1 ⟨A, c, rfl, hn⟩; have ho1 := Hidd.mk (ho0.out.madeL hn); clear hn)
  clear ho0
  generalize w.heap.size = p1 at ho1 ⊢
  go_loopw [8, 9, 18] (fun v8 v9 v18 wr => ∃ (j : Nat) (b : Int) (fd : Bool), v18 = .int .i64 j ∧ v8 = .int .i64 b ∧ v9 = .bool fd ∧ j ≤ ln ∧ Hidd (NextOf (EndsL ps (l.take j)) t b fd) ∧ Hidd (Own w (fun _ => False) wr [row 62 3 (.slice A ln c) ln (l.flatMap (winC ps))])) (fun _ _ v18 _ => ln - (intOf v18).toNat)
  case atStart => exact ⟨0, 0, false, rfl, rfl, rfl, Nat.zero_le _, ⟨NextOf.none _ (fun e h => by obtain ⟨i, h, _⟩ := h; cases h) t⟩, ⟨ho1.out.reorder (M := [_]) [0] rfl (by decide)⟩⟩
  case round =>
    clear ho1
    obtain ⟨j, b, fd, rfl, rfl, rfl, hjl, hno, ho⟩ := hrel
    by_cases hlj : j < ln
    · obtain ⟨i, hi'⟩ : ∃ x, l[j]? = some x := ⟨_, List.getElem?_eq_getElem (by rw [hln.out]; exact hlj)⟩
      obtain ⟨a, rfl, y0, y1, y2⟩ := At.win (w := wr) (A := A) (n := ln) ⟨hln.out, row_cells ho.out 0 rfl⟩ hi'
      have hyl := World.block_lt_of_cell? _ _ y0
      have bj0 : (0 : Int) ≤ (j : Int) := by omega
      have bj1 : (j : Int) < (ln : Int) := by omega
      obtain ⟨s, hs⟩ : ∃ s, stOf ps i = s := ⟨_, rfl⟩
      obtain ⟨u, hu⟩ : ∃ u, stOf ps i + lnOf ps i = u := ⟨_, rfl⟩
      have hsn := Hidd.mk fun e => EndsL.snoc ps (l.take j) i e
      rw [← take_put hi', hu, hs] at hsn
      rw [hs] at y1
      rw [hu] at y2
      have hend := Hidd.mk (ho.out.alloc (.cells #[.int .i64 (i : Int), .int .i64 s, .int .i64 u] 62)).tail
      clear hs hu hi'
      go_wp2
      clear y0 y1 y2 hyl ho
      generalize World.alloc wr _ = wz at hend ⊢
      obtain ⟨E, hE⟩ : ∃ E, EndsL ps (l.take j) = E := ⟨_, rfl⟩
      rw [hE] at hno
      replace hE := Hidd.mk hE
      go_loopw [8, 9, 27] (fun v8 v9 v27 wr => ∃ (k : Nat) (b : Int) (fd : Bool), v27 = .int .i64 k ∧ v8 = .int .i64 b ∧ v9 = .bool fd ∧ k ≤ 2 ∧ Hidd (NextOf (Ends3 E s u k) t b fd) ∧ Hidd (Own w (fun _ => False) wr [row 62 3 (.slice (some a) ln c) ln (l.flatMap (winC ps))])) (fun _ _ v27 _ => 2 - (intOf v27).toNat)
      case atStart => exact ⟨0, b, fd, rfl, rfl, rfl, by omega, hno, hend⟩
      case round =>
        clear hno hend
        obtain ⟨k, b, fd, rfl, rfl, rfl, hk2, hno, ho⟩ := hrel
        by_cases hk : k < 2
        · obtain ⟨x, hix, hse⟩ := ends3_at E s u k hk
          have bk1 : (k : Int) < 2 := by omega
          have bk0 : (0 : Int) ≤ (k : Int) := by omega
          replace hse := Hidd.mk hse
          by_cases c0 : t < x
          · have e0 := decide_eq_true c0
            cases fd
            · have hend := Hidd.mk ((hno.out.take c0 (by intro h; cases h)).same hse.out)
              clear c0 hno
              go_wp2
              go_roundw
              case rel => exact ⟨k + 1, _, true, by go_num, rfl, rfl, by omega, hend, ho⟩
              case measure => (simp [intOf]; try omega)
            · by_cases c1 : x < b
              · have e1 := decide_eq_true c1
                have hend := Hidd.mk ((hno.out.take c0 fun _ => by omega).same hse.out)
                clear c0 hno c1
                go_wp2
                go_roundw
                case rel => exact ⟨k + 1, _, true, by go_num, rfl, rfl, by omega, hend, ho⟩
                case measure => (simp [intOf]; try omega)
              · have e1 := decide_eq_false c1
                have hend := Hidd.mk ((hno.out.skip fun _ => ⟨rfl, by omega⟩).same hse.out)
                clear c0 hno c1
                go_wp2
                go_roundw
                case rel => exact ⟨k + 1, _, true, by go_num, rfl, rfl, by omega, hend, ho⟩
                case measure => (simp [intOf]; try omega)
          · have e0 := decide_eq_false c0
            have hend := Hidd.mk ((hno.out.skip fun h => absurd h c0).same hse.out)
            clear c0 hno
            go_wp2
            go_roundw
            case rel => exact ⟨k + 1, b, fd, by go_num, rfl, rfl, by omega, hend, ho⟩
            case measure => (simp [intOf]; try omega)
        · obtain rfl : k = 2 := by omega
          have hend := Hidd.mk (hno.out.same (F := EndsL ps (l.take (j + 1))) fun e => by rw [hsn.out e, hE.out]; exact Iff.rfl)
          clear hno
          go_wp2
          go_roundw
          case rel => exact ⟨j + 1, b, fd, by go_num, rfl, rfl, by omega, hend, ho⟩
          case measure => (simp [intOf]; try omega)
    · obtain rfl : ln = j := by omega
      have h1 : l.take ln = l := List.take_of_length_le (by rw [hln.out]; exact Nat.le_refl _)
      rw [h1] at hno
      have hend := Hidd.mk (hno.out.same fun e => EndsL.ord hO.out e)
      go_wp2
      go_ret2
      exact ⟨_, _, rfl, hend.out, ho.out.below fun _ => id⟩
theorem frIdle_any (n f sl gp rh d0 d1 mg : Int) (PA : Option Addr) (pn pc : Nat) (OA : Option Addr) (on oc : Nat) (RA : Option Addr) (rn rc : Nat) (ps : List Pt) (node : Int) (w : World) (hP : At Pt.cells w PA pn ps) (hpn : pn ≤ 12) (hi : ∀ p ∈ ps, PtIn p) (hd : Dis ps) (hs : Sc n f sl gp rh d0 d1 mg) :
    Calls Try.prog 41 #[.agg #[.int .i64 n, .int .i64 f, .int .i64 sl, .int .i64 gp, .int .i64 rh, .int .i64 d0, .int .i64 d1, .int .i64 mg, .slice PA pn pc, .slice OA on oc, .slice RA rn rc], .int .i64 node] w fun e w' => e = .returned (.int .i64 (rnd n sl gp - sumL ps (ordL ps node))) ∧ Below w.heap.size w w' := by
  have ho0 := Hidd.mk ((Own.nil w (fun _ => False)).alloc (.cells #[.int .i64 n, .int .i64 f, .int .i64 sl, .int .i64 gp, .int .i64 rh, .int .i64 d0, .int .i64 d1, .int .i64 mg, .slice PA pn pc, .slice OA on oc, .slice RA rn rc] 26))
  obtain ⟨l, hl⟩ : ∃ l, ordL ps node = l := ⟨_, rfl⟩
  rw [hl]
  have hO : Ord ps node l := by rw [← hl]; exact ordL_ord _ _
  obtain ⟨ln, hln⟩ : ∃ ln, l.length = ln := ⟨_, rfl⟩
  have hl12 : ln ≤ 12 := by rw [← hln]; have := hO.len; have := hP.1; omega
  have hR := hs.rnd
  obtain ⟨R, hRe⟩ : ∃ R, rnd n sl gp = R := ⟨_, rfl⟩
  rw [hRe] at hR ⊢
  replace hP := Hidd.mk hP
  replace hi := Hidd.mk hi
  replace hd := Hidd.mk hd
  replace hl := Hidd.mk hl
  replace hln := Hidd.mk hln
  replace hO := Hidd.mk hO
  replace hRe := Hidd.mk hRe
  replace hs := Hidd.mk hs
  go_enter Try.func41, Try.ntmps41
  go_wp2_with (first
    | (go_at_call 49; refine (round_any n f sl gp rh d0 d1 mg PA pn pc OA on oc RA rn rc _ hs.out).mono ?_; rintro e w3 ⟨rfl, hb⟩; rw [hRe.out]; have ho3 := Hidd.mk (ho0.out.ext hb); clear hb ho0; obtain ⟨x0, x1, x2, x3, x4, x5, x6, x7, x8, x9, xA⟩ := cells11 ho3.out 0 rfl)
    | (go_at_call 37; refine (wins_any n f sl gp rh d0 d1 mg PA pn pc OA on oc RA rn rc ps node l _ (hP.out.below (ho3.out.below fun _ => id)) hpn hi.out hd.out hl.out ln hln.out).mono ?_; rintro e w1 ⟨A, c, rfl, hn⟩; have ho1 := Hidd.mk (ho3.out.madeL hn); clear hn))
  clear ho3 x0 x1 x2 x3 x4 x5 x6 x7 x8 x9 xA
  generalize w.heap.size = p1 at ho1 ⊢
  have hbd := Hidd.mk (sumL_bd hi.out)
  have hst := Hidd.mk (st_bd hi.out)
  go_loopw [5, 14] (fun v5 v14 wr => ∃ (j : Nat), v14 = .int .i64 j ∧ v5 = .int .i64 (R - sumL ps (l.take j)) ∧ j ≤ ln ∧ Hidd (Own w (fun _ => False) wr [row 62 3 (.slice A ln c) ln (l.flatMap (winC ps))])) (fun _ v14 _ => ln - (intOf v14).toNat)
  case atStart => exact ⟨0, rfl, by simp [sumL], Nat.zero_le _, ⟨ho1.out.reorder (M := [_]) [0] rfl (by decide)⟩⟩
  case round =>
    clear ho1
    obtain ⟨j, rfl, rfl, hjl, ho⟩ := hrel
    by_cases hlj : j < ln
    · obtain ⟨i, hi'⟩ : ∃ x, l[j]? = some x := ⟨_, List.getElem?_eq_getElem (by rw [hln.out]; exact hlj)⟩
      obtain ⟨a, rfl, y0, y1, y2⟩ := At.win (w := wr) (A := A) (n := ln) ⟨hln.out, row_cells ho.out 0 rfl⟩ hi'
      have hyl := World.block_lt_of_cell? _ _ y0
      have bj0 : (0 : Int) ≤ (j : Int) := by omega
      have bj1 : (j : Int) < (ln : Int) := by omega
      have hsu : sumL ps (l.take (j + 1)) = sumL ps (l.take j) + lnOf ps i := by rw [take_put hi', sumL_app]; simp [sumL]
      have hb1 := hbd.out (l.take j)
      have hb0 : (l.take j).length ≤ 12 := by rw [List.length_take]; omega
      obtain ⟨q1, q2, q3, q4⟩ := hst.out i
      obtain ⟨s, hs⟩ : ∃ s, stOf ps i = s := ⟨_, rfl⟩
      obtain ⟨d, hu⟩ : ∃ d, lnOf ps i = d := ⟨_, rfl⟩
      obtain ⟨m, hm⟩ : ∃ m, sumL ps (l.take j) = m := ⟨_, rfl⟩
      rw [hs] at y1 y2 q1 q2
      rw [hu] at y2 q3 q4 hsu
      rw [hm] at hb1 hsu ⊢
      have hm2 : m ≤ 3221225472 := by omega
      obtain ⟨hm1, _⟩ := hb1
      have hend := Hidd.mk (ho.out.alloc (.cells #[.int .i64 (i : Int), .int .i64 s, .int .i64 (s + d)] 62)).tail
      have va : IntKind.i64.wrap (s + d - s) = d := by rw [show s + d - s = d by omega]; exact IntWalk.i64_in _ (by omega)
      have vb : IntKind.i64.wrap (R - m - d) = R - m - d := IntWalk.i64_in _ (by omega)
      replace hsu := Hidd.mk hsu
      clear hs hu hm hi' hb0
      go_wp2
      go_roundw
      case rel => exact ⟨j + 1, by go_num, by rw [hsu.out]; go_num, by omega, hend⟩
      case measure => (simp [intOf]; try omega)
    · obtain rfl : ln = j := by omega
      have h1 : l.take ln = l := List.take_of_length_le (by rw [hln.out]; exact Nat.le_refl _)
      rw [h1]
      go_wp2
      go_ret
      exact ⟨rfl, ho.out.below fun _ => id⟩
end Go.Proofs.Ytcamoldjljfbeaa
