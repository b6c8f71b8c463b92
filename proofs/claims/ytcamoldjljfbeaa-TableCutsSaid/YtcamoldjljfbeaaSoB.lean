/- Small contracts of table: in, part, port; New. -/
import Derived.Test.YtcamoldjljfbeaaSoA
namespace Go.Proofs.Ytcamoldjljfbeaa
open Go.RowKit

set_option maxRecDepth 100000
set_option maxHeartbeats 4000000
theorem in_any (n lo hi : Int) (w : World) : Calls Try.prog 65 #[.int .i64 n, .int .i64 lo, .int .i64 hi] w fun e w' => e = .returned (.bool (inB n lo hi)) ∧ w = w' := by
  by_cases h1 : lo ≤ n
  · have d1 : decide (lo ≤ n) = true := by simpa using h1
    by_cases h2 : n ≤ hi
    · have d2 : decide (n ≤ hi) = true := by simpa using h2
      have e : inB n lo hi = true := by unfold inB; simp [h1, h2]
      rw [e]
      clear e h1 h2
      go_enter Try.func65, Try.ntmps65
      go_wp2
      go_ret
      exact ⟨rfl, rfl⟩
    · have d2 : decide (n ≤ hi) = false := by simpa using h2
      have e : inB n lo hi = false := by unfold inB; simp; omega
      rw [e]
      clear e h1 h2
      go_enter Try.func65, Try.ntmps65
      go_wp2
      go_ret
      exact ⟨rfl, rfl⟩
  · have d1 : decide (lo ≤ n) = false := by simpa using h1
    have e : inB n lo hi = false := by unfold inB; simp; omega
    rw [e]
    clear e h1
    go_enter Try.func65, Try.ntmps65
    go_wp2
    go_ret
    exact ⟨rfl, rfl⟩
/-- A single error: none, or a code at a place. -/
def IsE (w : World) (er : Option (Int × Int)) (v : Value) : Prop := match er with
  | none => v = .nilIface
  | some (c, a) => ∃ b, v = .iface 77 (.pointer (some ⟨b, 0, none⟩)) ∧ w.heap[b]? = some (.cells #[.int .i64 c, .int .i64 a, .nilIface] 79 (0, 0))
def erL (er : Option (Int × Int)) : List (Int × Int) := match er with
  | none => []
  | some q => [q]
theorem IsE.isErr {w : World} {er : Option (Int × Int)} {v : Value} (h : IsE w er v) : IsErr w (erL er) none v := by
  rcases er with _ | ⟨c, a⟩
  · exact h
  · obtain ⟨b, e, hb⟩ := h
    exact ⟨b, .nilIface, e, hb, rfl⟩
theorem IsE.below {w w' : World} {er : Option (Int × Int)} {v : Value} (h : IsE w er v) (hB : Below w.heap.size w w') : IsE w' er v := by
  rcases er with _ | ⟨c, a⟩
  · exact h
  · obtain ⟨b, e, hb⟩ := h
    exact ⟨b, e, (hB.block b (Array.getElem?_eq_some_iff.1 hb).1).trans hb⟩
theorem new_any (c a : Int) (w : World) (hc : c ≠ 0) (ha : -1 ≤ a) : Calls Try.prog 52 #[.int .i64 c, .int .i64 a] w fun e w' => ∃ b, e = .returned (.iface 77 (.pointer (some ⟨b, 0, none⟩))) ∧ IsE w' (some (c, a)) (.iface 77 (.pointer (some ⟨b, 0, none⟩))) ∧ Below w.heap.size w w' := by
  have hcd : (c == 0) = false := by rw [beq_eq_false_iff_ne]; exact hc
  have hob := Hidd.mk ((Own.nil w (fun _ => False)).alloc (.cells #[.int .i64 c, .int .i64 a, .nilIface] 79))
  go_enter Try.func52, Try.ntmps52
  go_wp2
  go_ret
  exact ⟨_, rfl, ⟨_, rfl, hob.out.get 0 rfl⟩, hob.out.below fun _ => id⟩
theorem part_any (p : Pt) (nodes : Int) (w : World) (h4 : p.Ok) (hn0 : 1 ≤ nodes) (hn1 : nodes ≤ 7) : Calls Try.prog 66 #[.agg #[.int .i64 p.node, .int .i64 p.start, .int .i64 p.len, .int .i64 p.budget, .int .i64 p.words, .int .u8 p.r0, .int .u8 p.r1, .int .u8 p.r2, .int .u8 p.r3], .int .i64 nodes] w
    fun e w' => e = .returned (.bool (ptB p nodes)) ∧ Below w.heap.size w w' := by
  obtain ⟨nd, st, ln, bd, wd, r0, r1, r2, r3⟩ := p
  simp only [ptB]
  obtain ⟨_, _, _, _, _, hr0, hr1, hr2, hr3⟩ := h4
  simp only at hr0 hr1 hr2 hr3
  have x0 : ∀ W, (Instr.index 36 (.agg #[.int .u8 (r0 : Int), .int .u8 (r1 : Int), .int .u8 (r2 : Int), .int .u8 (r3 : Int)]) (.int .i64 0)).run Try.prog W = .ok (.int .u8 (r0 : Int)) W := fun _ => by kernel_rfl
  have x1 : ∀ W, (Instr.index 36 (.agg #[.int .u8 (r0 : Int), .int .u8 (r1 : Int), .int .u8 (r2 : Int), .int .u8 (r3 : Int)]) (.int .i64 1)).run Try.prog W = .ok (.int .u8 (r1 : Int)) W := fun _ => by kernel_rfl
  have x2 : ∀ W, (Instr.index 36 (.agg #[.int .u8 (r0 : Int), .int .u8 (r1 : Int), .int .u8 (r2 : Int), .int .u8 (r3 : Int)]) (.int .i64 2)).run Try.prog W = .ok (.int .u8 (r2 : Int)) W := fun _ => by kernel_rfl
  have x3 : ∀ W, (Instr.index 36 (.agg #[.int .u8 (r0 : Int), .int .u8 (r1 : Int), .int .u8 (r2 : Int), .int .u8 (r3 : Int)]) (.int .i64 3)).run Try.prog W = .ok (.int .u8 (r3 : Int)) W := fun _ => by kernel_rfl
  have hbw : Hidd (Below w.heap.size w (w.alloc (.cells #[.int .i64 nd, .int .i64 st, .int .i64 ln, .int .i64 bd, .int .i64 wd, .int .u8 r0, .int .u8 r1, .int .u8 r2, .int .u8 r3] 38))) := ⟨below_alloc (Below.refl _ _) _⟩
  have e3 : ∀ r : Nat, decide (3 < (r : Int)) = !decide (r ≤ 3) := fun r => by
    by_cases h : r ≤ 3
    · simp [h]; omega
    · simp [h]; omega
  have E0 := e3 r0
  have E1 := e3 r1
  have E2 := e3 r2
  have E3 := e3 r3
  clear e3
  rcases h0 : decide (r0 ≤ 3) with _ | _
  · rw [h0] at E0
    simp only [Bool.false_and]
    clear E1 E2 E3 h0
    go_enter Try.func66, Try.ntmps66
    go_wp2
    refine wp_loop_rounds 5 ?_
    rw [rounds_succ]
    go_wp2
    go_ret
    exact ⟨rfl, hbw.out⟩
  rcases h1 : decide (r1 ≤ 3) with _ | _
  · rw [h0] at E0
    rw [h1] at E1
    simp only [Bool.false_and, Bool.and_false]
    clear E2 E3 h0 h1
    go_enter Try.func66, Try.ntmps66
    go_wp2
    refine wp_loop_rounds 5 ?_
    rw [rounds_succ]
    go_wp2
    rw [rounds_succ]
    go_wp2
    go_ret
    exact ⟨rfl, hbw.out⟩
  rcases h2 : decide (r2 ≤ 3) with _ | _
  · rw [h0] at E0
    rw [h1] at E1
    rw [h2] at E2
    simp only [Bool.false_and, Bool.and_false]
    clear E3 h0 h1 h2
    go_enter Try.func66, Try.ntmps66
    go_wp2
    refine wp_loop_rounds 5 ?_
    rw [rounds_succ]
    go_wp2
    rw [rounds_succ]
    go_wp2
    rw [rounds_succ]
    go_wp2
    go_ret
    exact ⟨rfl, hbw.out⟩
  rcases h3 : decide (r3 ≤ 3) with _ | _
  · rw [h0] at E0
    rw [h1] at E1
    rw [h2] at E2
    rw [h3] at E3
    simp only [Bool.false_and, Bool.and_false]
    clear h0 h1 h2 h3
    go_enter Try.func66, Try.ntmps66
    go_wp2
    refine wp_loop_rounds 5 ?_
    rw [rounds_succ]
    go_wp2
    rw [rounds_succ]
    go_wp2
    rw [rounds_succ]
    go_wp2
    rw [rounds_succ]
    go_wp2
    go_ret
    exact ⟨rfl, hbw.out⟩
  rw [h0] at E0
  rw [h1] at E1
  rw [h2] at E2
  rw [h3] at E3
  simp only [Bool.true_and]
  clear h0 h1 h2 h3
  rcases k0 : inB nd 0 (nodes - 1) with _ | _
  rotate_left
  rcases k1 : inB st 0 268435456 with _ | _
  rotate_left
  rcases k2 : inB ln 1 268435456 with _ | _
  rotate_left
  rcases k3 : inB bd 0 64 with _ | _
  rotate_left
  rcases k4 : inB wd 0 16 with _ | _
  all_goals simp only [Bool.false_and, Bool.and_false, Bool.and_true]
  all_goals go_enter Try.func66, Try.ntmps66
  all_goals go_wp2
  all_goals refine wp_loop_rounds 5 ?_
  all_goals rw [rounds_succ]
  all_goals go_wp2
  all_goals rw [rounds_succ]
  all_goals go_wp2
  all_goals rw [rounds_succ]
  all_goals go_wp2
  all_goals rw [rounds_succ]
  all_goals go_wp2
  all_goals rw [rounds_succ]
  all_goals go_wp2_with (go_at_call 65; refine (in_any _ _ _ _).mono ?_; rintro e w' ⟨rfl, rfl⟩; (try rw [k0]); (try rw [k1]); (try rw [k2]); (try rw [k3]); (try rw [k4]))
  all_goals go_ret
  all_goals exact ⟨rfl, hbw.out⟩
theorem port_any (p : Qt) (parts : Int) (w : World) (h4 : p.Ok) (hn0 : 0 ≤ parts) (hn1 : parts ≤ 1000000) : Calls Try.prog 67 #[.agg #[.int .i64 p.part, .int .u8 p.kind, .bool p.out, .int .i64 p.size, .int .i64 p.depth, .int .i64 p.fresh], .int .i64 parts] w
    fun e w' => e = .returned (.bool (qtB p parts)) ∧ Below w.heap.size w w' := by
  obtain ⟨pt, kd, ou, sz, dp, fr⟩ := p
  simp only [qtB]
  have hkd := h4.kind
  simp only at hkd
  clear h4
  have hbw : Hidd (Below w.heap.size w (w.alloc (.cells #[.int .i64 pt, .int .u8 kd, .bool ou, .int .i64 sz, .int .i64 dp, .int .i64 fr] 44))) := ⟨below_alloc (Below.refl _ _) _⟩
  rcases k0 : inB pt 0 (parts - 1) with _ | _
  rotate_left
  rcases k1 : inB sz 0 16 with _ | _
  rotate_left
  by_cases hk1 : kd = 1
  · subst hk1
    rw [if_pos rfl]
    rcases k2 : decide (dp = 0) with _ | _
    rotate_left
    rcases k3 : inB fr 0 8 with _ | _
    rotate_left
    rcases ou with _ | _
    rotate_left
    rcases k4 : decide (fr = 0) with _ | _
    all_goals simp only [Bool.false_and, Bool.and_false, Bool.and_true, Bool.not_true, Bool.not_false, Bool.false_or, Bool.true_or, decide_eq_true_eq, decide_eq_false_iff_not] at *
    all_goals (try (have e2 : (dp == 0) = true := by rw [beq_iff_eq]; assumption))
    all_goals (try (have e2 : (dp == 0) = false := by rw [beq_eq_false_iff_ne]; assumption))
    all_goals (try (have e4 : (fr == 0) = true := by rw [beq_iff_eq]; assumption))
    all_goals (try (have e4 : (fr == 0) = false := by rw [beq_eq_false_iff_ne]; assumption))
    all_goals clear k2
    all_goals (try clear k4)
    all_goals go_enter Try.func67, Try.ntmps67
    all_goals go_wp2_with (go_at_call 65; refine (in_any _ _ _ _).mono ?_; rintro e w' ⟨rfl, rfl⟩; (try rw [k0]); (try rw [k1]); (try rw [k3]))
    all_goals go_ret
    all_goals exact ⟨rfl, hbw.out⟩
  · rw [if_neg hk1]
    have c1 : ((kd : Int) == 1) = false := by rw [beq_eq_false_iff_ne]; omega
    by_cases hk2 : kd = 2
    · subst hk2
      rw [if_pos rfl]
      rcases k2 : inB dp 1 4 with _ | _
      rotate_left
      rcases k4 : decide (fr = 0) with _ | _
      all_goals simp only [Bool.false_and, Bool.and_false, Bool.and_true, decide_eq_true_eq, decide_eq_false_iff_not] at *
      all_goals (try (have e4 : (fr == 0) = true := by rw [beq_iff_eq]; assumption))
      all_goals (try (have e4 : (fr == 0) = false := by rw [beq_eq_false_iff_ne]; assumption))
      all_goals (try clear k4)
      all_goals clear hk1
      all_goals go_enter Try.func67, Try.ntmps67
      all_goals go_wp2_with (go_at_call 65; refine (in_any _ _ _ _).mono ?_; rintro e w' ⟨rfl, rfl⟩; (try rw [k0]); (try rw [k1]); (try rw [k2]))
      all_goals go_ret
      all_goals exact ⟨rfl, hbw.out⟩
    · rw [if_neg hk2]
      have c2 : ((kd : Int) == 2) = false := by rw [beq_eq_false_iff_ne]; omega
      clear hk1 hk2
      simp only [Bool.and_false]
      go_enter Try.func67, Try.ntmps67
      go_wp2_with (go_at_call 65; refine (in_any _ _ _ _).mono ?_; rintro e w' ⟨rfl, rfl⟩; (try rw [k0]); (try rw [k1]))
      go_ret
      exact ⟨rfl, hbw.out⟩
  all_goals simp only [Bool.false_and, Bool.and_false]
  all_goals go_enter Try.func67, Try.ntmps67
  all_goals go_wp2_with (go_at_call 65; refine (in_any _ _ _ _).mono ?_; rintro e w' ⟨rfl, rfl⟩; (try rw [k0]); (try rw [k1]))
  all_goals go_ret
  all_goals exact ⟨rfl, hbw.out⟩
end Go.Proofs.Ytcamoldjljfbeaa
