/- The fixed fact of the queue's laws; the nil queue. -/
import Derived.Test.YtjejkmnlkmcckaaQuL
namespace Go.Proofs.Ytjejkmnlkmcckaa
open Go.RowKit

theorem awake_any (w : World) : Calls Try.prog 13 #[] w fun e w' => e = .returned (.bool true) ∧ Below w.heap.size w w' := by
  go_enter Try.func13, Try.ntmps13
  go_wp2_with (go_at_call 14; refine (new_own _).mono ?_; rintro e w1 ⟨b, rfl, ho1⟩)
  have ho2 := Hidd.mk (ho1.alloc (.cells #[.int .i64 5, .int .i64 1, .int .i64 7, .int .i64 5, .int .i64 0, .int .i64 8, .int .i64 3, .int .i64 9, .int .i64 9, .int .i64 5, .int .i64 0, .int .i64 6] 28))
  generalize w1.alloc _ = w2 at ho2 ⊢
  obtain ⟨g, hg⟩ : ∃ g, w1.heap.size = g := ⟨_, rfl⟩
  rw [hg] at ho2 ⊢
  clear hg ho1
  go_loopw [19] (fun v19 wr => ∃ (i : Nat) (A : Option Addr) (cap : Nat), v19 = .int .i64 i ∧ i ≤ 4 ∧ Hidd (Own w (fun _ => False) wr [blk g (.cells #[.int .i64 5, .int .i64 1, .int .i64 7, .int .i64 5, .int .i64 0, .int .i64 8, .int .i64 3, .int .i64 9, .int .i64 9, .int .i64 5, .int .i64 0, .int .i64 6] 28), qres b A i cap (awk i) i])) (fun v19 _ => 4 - (intOf v19).toNat)
  case atStart => exact ⟨0, none, 0, rfl, by decide, ho2⟩
  case round =>
    clear ho2
    obtain ⟨i, A, cap, rfl, hi, ho⟩ := hrel
    have hc := ho.out.cell 0 rfl
    obtain rfl | rfl | rfl | rfl | rfl : i = 0 ∨ i = 1 ∨ i = 2 ∨ i = 3 ∨ i = 4 := by omega
    · have x0 := hc 0
      have x1 := hc 1
      have x2 := hc 2
      clear hc
      simp at x0 x1 x2
      go_wp2_with (go_at_call 15; refine (put_own 2 (ho.out.alloc _) rfl _ _ _ (by decide) (by decide)).mono ?_; rintro e w5 ⟨rfl, A', cap', ho5⟩)
      go_roundw
      case rel => exact ⟨1, A', cap', rfl, by decide, ⟨by have h := ho5.tail; rw [awk0] at h; exact h⟩⟩
      case measure => simp [intOf]
    · have x0 := hc 3
      have x1 := hc 4
      have x2 := hc 5
      clear hc
      simp at x0 x1 x2
      go_wp2_with (go_at_call 15; refine (put_own 2 (ho.out.alloc _) rfl _ _ _ (by decide) (by decide)).mono ?_; rintro e w5 ⟨rfl, A', cap', ho5⟩)
      go_roundw
      case rel => exact ⟨2, A', cap', rfl, by decide, ⟨by have h := ho5.tail; rw [awk1] at h; exact h⟩⟩
      case measure => simp [intOf]
    · have x0 := hc 6
      have x1 := hc 7
      have x2 := hc 8
      clear hc
      simp at x0 x1 x2
      go_wp2_with (go_at_call 15; refine (put_own 2 (ho.out.alloc _) rfl _ _ _ (by decide) (by decide)).mono ?_; rintro e w5 ⟨rfl, A', cap', ho5⟩)
      go_roundw
      case rel => exact ⟨3, A', cap', rfl, by decide, ⟨by have h := ho5.tail; rw [awk2] at h; exact h⟩⟩
      case measure => simp [intOf]
    · have x0 := hc 9
      have x1 := hc 10
      have x2 := hc 11
      clear hc
      simp at x0 x1 x2
      go_wp2_with (go_at_call 15; refine (put_own 2 (ho.out.alloc _) rfl _ _ _ (by decide) (by decide)).mono ?_; rintro e w5 ⟨rfl, A', cap', ho5⟩)
      go_roundw
      case rel => exact ⟨4, A', cap', rfl, by decide, ⟨by have h := ho5.tail; rw [awk3] at h; exact h⟩⟩
      case measure => simp [intOf]
    · clear hc
      go_wp2_with (first
        | (go_at_call 16; with_reducible refine (take_own 1 ho.out rfl (last := 3) (by decide) (z := ⟨3, 9, 9, 3⟩) (y := ⟨5, 1, 7, 1⟩) rfl rfl).mono ?_; rintro e w6 ⟨rfl, ho6⟩; rw [awk4] at ho6; replace ho6 := Hidd.mk ho6)
        | (go_at_call 16; with_reducible refine (take_own 2 (ho6.out.alloc _) rfl (last := 2) (by decide) (z := ⟨5, 0, 8, 2⟩) (y := ⟨5, 1, 7, 1⟩) rfl rfl).mono ?_; rintro e w7 ⟨rfl, ho7⟩; rw [awk5] at ho7; replace ho7 := Hidd.mk ho7)
        | (go_at_call 16; with_reducible refine (take_own 3 (ho7.out.alloc _) rfl (last := 1) (by decide) (z := ⟨5, 0, 6, 4⟩) (y := ⟨5, 1, 7, 1⟩) rfl rfl).mono ?_; rintro e w8 ⟨rfl, ho8⟩; rw [awk6] at ho8; have x6 := ho8.cell 1 rfl 2; have x7 := ho8.cell 0 rfl 2; have z6 := ho8.lt 1 rfl; have z7 := ho8.lt 0 rfl; simp at x6 x7; replace ho8 := Hidd.mk ho8)
        | (go_at_call 19; refine (len_own 4 (ho8.out.alloc _) rfl).mono ?_; rintro e w9 ⟨rfl, rfl⟩))
      go_ret
      exact ⟨rfl, (ho8.out.alloc _).below (fun _ => id)⟩

theorem readNil (c : Int) (h1 : -9223372036854775808 < c) (h2 : c ≤ 9223372036854775807) (w : World) : Calls Try.prog 17 #[.iface 91 (.int .i64 c)] w fun e w' => e = .returned (.string (numB c)) ∧ Below w.heap.size w w' :=
  read_any [] (some c) _ w rfl ⟨by decide, by simp, by simpa using ⟨h1, h2⟩⟩

theorem queueNil_walk (e0 e1 e2 : Int) (w : World) (_ : (Lit.int .i64 e0).wf = true) (_ : (Lit.int .i64 e1).wf = true) (_ : (Lit.int .i64 e2).wf = true) :
    Calls Try.prog 5 #[.agg #[.int .i64 e0, .int .i64 e1, .int .i64 e2]] w fun e w' => e = .returned (.bool true) ∧ Below w.heap.size w w' := by
  go_enter Try.func5, Try.ntmps5
  go_wp2_with (first
    | (go_at_call 13; refine (awake_any _).mono ?_; rintro e w1 ⟨rfl, hb1⟩; have ho1 := Hidd.mk (((Own.nil w (fun _ => False)).alloc _).ext hb1); clear hb1)
    | (go_at_call 16; refine (take_nil _).mono ?_; rintro e w2 ⟨rfl, hb2⟩; have ho2 := Hidd.mk (ho1.out.ext hb2); clear hb2)
    | (go_at_call 18; refine (e_any 1 _ (by decide) (by decide)).mono ?_; rintro e w3 ⟨rfl, hb3⟩; have ho3 := Hidd.mk ((ho2.out.alloc _).ext hb3); have x0 := ho3.out.cell 1 rfl 0; have x1 := ho3.out.cell 1 rfl 1; have x2 := ho3.out.cell 1 rfl 2; simp at x0 x1 x2; clear hb3)
    | (go_at_call 19; refine (len_nil _).mono ?_; rintro e w4 ⟨rfl, rfl⟩)
    | (go_at_call 15; refine (put_nil _ _ _ _).mono ?_; rintro e w5 ⟨rfl, hb5⟩)
    | (go_at_call 17; refine (readNil 1 (by decide) (by decide) _).mono ?_; rintro e w6 ⟨rfl, hb6⟩; have ho6 := Hidd.mk (ho3.out.ext (below_then hb5 hb6)); have y0 := ho6.out.cell 0 rfl 0; have y1 := ho6.out.cell 0 rfl 1; have y2 := ho6.out.cell 0 rfl 2; simp at y0 y1 y2)
    | (go_at_call 17; refine (readNil 1 (by decide) (by decide) _).mono ?_; rintro e w7 ⟨rfl, hb7⟩; have ho7 := Hidd.mk (ho6.out.ext hb7)))
  go_ret
  exact ⟨rfl, ho7.out.below (fun _ => id)⟩
end Go.Proofs.Ytjejkmnlkmcckaa
