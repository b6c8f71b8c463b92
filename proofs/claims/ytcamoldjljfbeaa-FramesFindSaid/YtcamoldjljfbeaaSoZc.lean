/- The reference's At, Next, Idle of windows. -/
import Derived.Test.YtcamoldjljfbeaaSoX
namespace Go.Proofs.Ytcamoldjljfbeaa
open Go.RowKit

def EndB (ps : List Pt) (node : Int) (i : Nat) (e : Int) : Prop := ∃ x : Nat, x < i ∧ ndOf ps x = node ∧ (e = stOf ps x ∨ e = stOf ps x + lnOf ps x)
theorem EndB.all (ps : List Pt) (node e : Int) : EndB ps node ps.length e ↔ EndOf ps node e := Iff.rfl
theorem EndB.no {ps : List Pt} {node : Int} {i : Nat} (h : ndOf ps i ≠ node) (e : Int) : EndB ps node i e ↔ EndB ps node (i + 1) e := by
  constructor
  · rintro ⟨x, h1, h2⟩
    exact ⟨x, by omega, h2⟩
  · rintro ⟨x, h1, h2, h3⟩
    by_cases hx : x = i
    · subst hx
      exact absurd h2 h
    · exact ⟨x, by omega, h2, h3⟩
theorem EndB.yes {ps : List Pt} {node : Int} {i : Nat} (h : ndOf ps i = node) (e : Int) : ((EndB ps node i e ∨ e = stOf ps i) ∨ e = stOf ps i + lnOf ps i) ↔ EndB ps node (i + 1) e := by
  constructor
  · rintro ((⟨x, h1, h2⟩ | h1) | h1)
    · exact ⟨x, by omega, h2⟩
    · exact ⟨i, by omega, h, .inl h1⟩
    · exact ⟨i, by omega, h, .inr h1⟩
  · rintro ⟨x, h1, h2, h3⟩
    by_cases hx : x = i
    · subst hx
      rcases h3 with h3 | h3
      · exact .inl (.inr h3)
      · exact .inr h3
    · exact .inl (.inl ⟨x, by omega, h2, h3⟩)
set_option maxRecDepth 100000
set_option maxHeartbeats 8000000
theorem rAt_any (n f sl gp rh d0 d1 mg : Int) (PA : Option Addr) (pn pc : Nat) (OA : Option Addr) (on oc : Nat) (RA : Option Addr) (rn rc : Nat) (ps : List Pt) (node t : Int) (w : World) (hP : At Pt.cells w PA pn ps) (hpn : pn ≤ 12) (hi : ∀ p ∈ ps, PtIn p) (ht : W64 t) :
    Calls Try.prog 40 #[.agg #[.int .i64 n, .int .i64 f, .int .i64 sl, .int .i64 gp, .int .i64 rh, .int .i64 d0, .int .i64 d1, .int .i64 mg, .slice PA pn pc, .slice OA on oc, .slice RA rn rc], .int .i64 node, .int .i64 t] w fun e w' => ∃ r, e = .returned (.int .i64 r) ∧ AtIs ps node t r ∧ Below w.heap.size w w' := by
  have ho0 := Hidd.mk ((Own.nil w (fun _ => False)).alloc (.cells #[.int .i64 n, .int .i64 f, .int .i64 sl, .int .i64 gp, .int .i64 rh, .int .i64 d0, .int .i64 d1, .int .i64 mg, .slice PA pn pc, .slice OA on oc, .slice RA rn rc] 26))
  have hpl := Hidd.mk hP.1
  replace hP := Hidd.mk hP
  replace hi := Hidd.mk hi
  obtain ⟨ht1, ht2⟩ := ht
  go_enter Try.func40, Try.ntmps40
  go_wp2
  generalize w.heap.size = p1 at ho0 ⊢
  generalize World.alloc w _ = W0 at ho0 ⊢
  go_loopw [7] (fun v7 wr => ∃ (i : Nat), v7 = .int .i64 i ∧ i ≤ pn ∧ Hidd (∀ k, k < i → ndOf ps k = node → ¬ inW ps k t) ∧ Hidd (Own w (fun _ => False) wr [blk p1 (.cells #[.int .i64 n, .int .i64 f, .int .i64 sl, .int .i64 gp, .int .i64 rh, .int .i64 d0, .int .i64 d1, .int .i64 mg, .slice PA pn pc, .slice OA on oc, .slice RA rn rc] 26)])) (fun v7 _ => pn - (intOf v7).toNat)
  case atStart => exact ⟨0, rfl, Nat.zero_le _, ⟨fun k h => by omega⟩, ho0⟩
  case round =>
    clear ho0
    obtain ⟨i, rfl, hil, hno, ho⟩ := hrel
    obtain ⟨x0, x1, x2, x3, x4, x5, x6, x7, x8, x9, xA⟩ := cells11 ho.out 0 rfl
    have hlt1 := ho.out.lt 0 rfl
    by_cases hlt : i < pn
    · obtain ⟨p, hp⟩ : ∃ x, ps[i]? = some x := ⟨_, List.getElem?_eq_getElem (by rw [hpl.out]; exact hlt)⟩
      obtain ⟨i1, i2, i3, i4⟩ := hi.out p (List.mem_of_getElem? hp)
      obtain ⟨a, rfl, y0, y1, y2, y3, y4, y5, y6, y7, y8⟩ := (hP.out.below (ho.out.below fun _ => id)).part hp
      have hyl := World.block_lt_of_cell? wr _ y0
      have bi0 : (0 : Int) ≤ (i : Int) := by omega
      have bi1 : (i : Int) < (pn : Int) := by omega
      have hpp : i < ps.length := by rw [hpl.out]; exact hlt
      have hin : inW ps i t ↔ p.start ≤ t ∧ t < p.start + p.len := by unfold inW; rw [stOf_at hp, lnOf_at hp]
      have hnd := ndOf_at hp
      have hnx : (p.node = node → ¬ inW ps i t) → ∀ k, k < i + 1 → ndOf ps k = node → ¬ inW ps k t := fun h k hk hx => by
        by_cases hkj : k = i
        · subst hkj
          exact h (hnd.symm.trans hx)
        · exact hno.out k (by omega) hx
      have hyes : p.node = node → inW ps i t → AtIs ps node t i := fun h1 h2 => .inl ⟨i, hpp, hnd.trans h1, h2, rfl⟩
      clear hp hpp hnd
      obtain ⟨q0, q1, q2, q3, q4, q5, q6, q7, q8⟩ := p
      simp only at y0 y1 y2 y3 y4 y5 y6 y7 y8 i1 i2 i3 i4 hin hnx hyes
      have hend := Hidd.mk (ho.out.alloc (.cells #[.int .i64 q0, .int .i64 q1, .int .i64 q2, .int .i64 q3, .int .i64 q4, .int .u8 (q5 : Int), .int .u8 (q6 : Int), .int .u8 (q7 : Int), .int .u8 (q8 : Int)] 38)).tail
      have hfin := Hidd.mk (ho.out.alloc (.cells #[.int .i64 q0, .int .i64 q1, .int .i64 q2, .int .i64 q3, .int .i64 q4, .int .u8 (q5 : Int), .int .u8 (q6 : Int), .int .u8 (q7 : Int), .int .u8 (q8 : Int)] 38))
      by_cases c0 : q0 = node
      · have e0 : (q0 == node) = true := by simpa using c0
        by_cases c1 : q1 ≤ t
        · have e1 := decide_eq_true c1
          have va : IntKind.i64.wrap (t - q1) = t - q1 := IntWalk.i64_in _ (by omega)
          by_cases c2 : t - q1 < q2
          · have e2 := decide_eq_true c2
            have hend2 := Hidd.mk (hyes c0 (hin.2 ⟨c1, by omega⟩))
            clear hin hnx c0 c1 c2 hend hyes
            go_wp2
            go_ret
            exact ⟨_, rfl, hend2.out, hfin.out.below fun _ => id⟩
          · have e2 := decide_eq_false c2
            have hend2 := Hidd.mk (hnx fun _ h => by have := (hin.1 h).2; omega)
            clear hin hnx c0 c1 c2 hfin hyes
            go_wp2
            go_roundw
            case rel => exact ⟨i + 1, by go_num, by omega, hend2, hend⟩
            case measure => (simp [intOf]; try omega)
        · have e1 := decide_eq_false c1
          have hend2 := Hidd.mk (hnx fun _ h => c1 (hin.1 h).1)
          clear hin hnx c0 c1 hfin hyes
          go_wp2
          go_roundw
          case rel => exact ⟨i + 1, by go_num, by omega, hend2, hend⟩
          case measure => (simp [intOf]; try omega)
      · have e0 : (q0 == node) = false := by simpa using c0
        have hend2 := Hidd.mk (hnx fun h => absurd h c0)
        clear hin hnx c0 hfin hyes
        go_wp2
        go_roundw
        case rel => exact ⟨i + 1, by go_num, by omega, hend2, hend⟩
        case measure => (simp [intOf]; try omega)
    · obtain rfl : pn = i := by omega
      have hend := Hidd.mk (show AtIs ps node t (-1) from .inr ⟨fun i h1 h2 => hno.out i (by rw [← hpl.out]; exact h1) h2, rfl⟩)
      go_wp2
      go_ret
      exact ⟨_, rfl, hend.out, ho.out.below fun _ => id⟩
theorem rIdle_any (n f sl gp rh d0 d1 mg : Int) (PA : Option Addr) (pn pc : Nat) (OA : Option Addr) (on oc : Nat) (RA : Option Addr) (rn rc : Nat) (ps : List Pt) (node : Int) (w : World) (hP : At Pt.cells w PA pn ps) (hpn : pn ≤ 12) (hi : ∀ p ∈ ps, PtIn p) (hs : Sc n f sl gp rh d0 d1 mg) :
    Calls Try.prog 42 #[.agg #[.int .i64 n, .int .i64 f, .int .i64 sl, .int .i64 gp, .int .i64 rh, .int .i64 d0, .int .i64 d1, .int .i64 mg, .slice PA pn pc, .slice OA on oc, .slice RA rn rc], .int .i64 node] w fun e w' => e = .returned (.int .i64 (rnd n sl gp - sumL ps (selL ps node pn))) ∧ Below w.heap.size w w' := by
  have ho0 := Hidd.mk ((Own.nil w (fun _ => False)).alloc (.cells #[.int .i64 n, .int .i64 f, .int .i64 sl, .int .i64 gp, .int .i64 rh, .int .i64 d0, .int .i64 d1, .int .i64 mg, .slice PA pn pc, .slice OA on oc, .slice RA rn rc] 26))
  have hpl := Hidd.mk hP.1
  have hR := hs.rnd
  obtain ⟨R, hRe⟩ : ∃ R, rnd n sl gp = R := ⟨_, rfl⟩
  rw [hRe] at hR ⊢
  have hbd := Hidd.mk (sumL_bd hi)
  have hsl := Hidd.mk (selL_len ps node)
  replace hP := Hidd.mk hP
  replace hi := Hidd.mk hi
  replace hRe := Hidd.mk hRe
  replace hs := Hidd.mk hs
  go_enter Try.func42, Try.ntmps42
  go_wp2_with (go_at_call 43; refine (rround_any n f sl gp rh d0 d1 mg PA pn pc OA on oc RA rn rc _ hs.out).mono ?_; rintro e w3 ⟨rfl, hb⟩; rw [hRe.out]; have ho3 := Hidd.mk (ho0.out.ext hb); clear hb ho0)
  generalize w.heap.size = p1 at ho3 ⊢
  go_loopw [5, 6] (fun v5 v6 wr => ∃ (i : Nat), v6 = .int .i64 i ∧ v5 = .int .i64 (R - sumL ps (selL ps node i)) ∧ i ≤ pn ∧ Hidd (Own w (fun _ => False) wr [blk p1 (.cells #[.int .i64 n, .int .i64 f, .int .i64 sl, .int .i64 gp, .int .i64 rh, .int .i64 d0, .int .i64 d1, .int .i64 mg, .slice PA pn pc, .slice OA on oc, .slice RA rn rc] 26)])) (fun _ v6 _ => pn - (intOf v6).toNat)
  case atStart => exact ⟨0, rfl, by simp [sumL, selL], Nat.zero_le _, ho3⟩
  case round =>
    clear ho3
    obtain ⟨i, rfl, rfl, hil, ho⟩ := hrel
    obtain ⟨x0, x1, x2, x3, x4, x5, x6, x7, x8, x9, xA⟩ := cells11 ho.out 0 rfl
    have hlt1 := ho.out.lt 0 rfl
    by_cases hlt : i < pn
    · obtain ⟨p, hp⟩ : ∃ x, ps[i]? = some x := ⟨_, List.getElem?_eq_getElem (by rw [hpl.out]; exact hlt)⟩
      obtain ⟨i1, i2, i3, i4⟩ := hi.out p (List.mem_of_getElem? hp)
      obtain ⟨a, rfl, y0, y1, y2, y3, y4, y5, y6, y7, y8⟩ := (hP.out.below (ho.out.below fun _ => id)).part hp
      have bi0 : (0 : Int) ≤ (i : Int) := by omega
      have bi1 : (i : Int) < (pn : Int) := by omega
      have hsc := selL_succ ps node i
      rw [ndOf_at hp] at hsc
      have hln := lnOf_at hp
      have hb1 := hbd.out (selL ps node i)
      have hb0 := hsl.out i
      clear hp
      obtain ⟨q0, q1, q2, q3, q4, q5, q6, q7, q8⟩ := p
      simp only at y0 y1 y2 y3 y4 y5 y6 y7 y8 i1 i2 i3 i4 hsc hln
      by_cases c0 : q0 = node
      · have e0 : (q0 == node) = true := by simpa using c0
        rw [if_pos c0] at hsc
        have hsu : sumL ps (selL ps node (i + 1)) = sumL ps (selL ps node i) + q2 := by rw [hsc, sumL_app, ← hln]; simp [sumL]
        obtain ⟨m, hm⟩ : ∃ m, sumL ps (selL ps node i) = m := ⟨_, rfl⟩
        rw [hm] at hb1 hsu ⊢
        have hm2 : m ≤ 3221225472 := by omega
        obtain ⟨hm1, _⟩ := hb1
        have vb : IntKind.i64.wrap (R - m - q2) = R - m - q2 := IntWalk.i64_in _ (by omega)
        replace hsu := Hidd.mk hsu
        clear hsc hm hln c0 hb0
        go_wp2
        go_roundw
        case rel => exact ⟨i + 1, by go_num, by rw [hsu.out]; go_num, by omega, ho⟩
        case measure => (simp [intOf]; try omega)
      · have e0 : (q0 == node) = false := by simpa using c0
        rw [if_neg c0] at hsc
        replace hsc := Hidd.mk hsc
        clear hln c0 hb0 hb1
        go_wp2
        go_roundw
        case rel => exact ⟨i + 1, by go_num, by rw [hsc.out], by omega, ho⟩
        case measure => (simp [intOf]; try omega)
    · obtain rfl : pn = i := by omega
      go_wp2
      go_ret
      exact ⟨rfl, ho.out.below fun _ => id⟩
end Go.Proofs.Ytcamoldjljfbeaa
