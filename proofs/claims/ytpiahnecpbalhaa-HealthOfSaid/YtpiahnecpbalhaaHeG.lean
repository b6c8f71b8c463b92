/- HealthOf walked. -/
import Derived.Test.YtpiahnecpbalhaaHeF
namespace Go.Proofs.Ytpiahnecpbalhaa
open Go.RowKit

set_option maxRecDepth 100000
set_option maxHeartbeats 4000000
theorem of_eq (b1 b2 b3 c1 c2 c3 : Bool) (w : World) : (binOp .eql 59 (.agg #[.bool b1, .bool b2, .bool b3]) (.agg #[.bool c1, .bool c2, .bool c3])).run Try.prog w = .ok (.bool ((b1 == c1) && (b2 == c2) && (b3 == c3))) w := by
  cases b1 <;> cases b2 <;> cases b3 <;> cases c1 <;> cases c2 <;> cases c3 <;> kernel_rfl
theorem of_lit0 (w : World) : Calls Try.prog 23 #[.int .u8 0] w fun e w' => e = .returned (.agg #[.bool false, .bool false, .bool false]) ∧ Below w.heap.size w w' := of_any 0 w (by decide)
theorem of_lit1 (w : World) : Calls Try.prog 23 #[.int .u8 1] w fun e w' => e = .returned (.agg #[.bool true, .bool false, .bool false]) ∧ Below w.heap.size w w' := of_any 1 w (by decide)
theorem of_lit2 (w : World) : Calls Try.prog 23 #[.int .u8 2] w fun e w' => e = .returned (.agg #[.bool true, .bool true, .bool false]) ∧ Below w.heap.size w w' := of_any 2 w (by decide)
theorem of_lit3 (w : World) : Calls Try.prog 23 #[.int .u8 3] w fun e w' => e = .returned (.agg #[.bool true, .bool true, .bool true]) ∧ Below w.heap.size w w' := of_any 3 w (by decide)
theorem healthOf_walk (a0 a1 : Int) (w : World) (h0 : (Lit.int .u8 a0).wf = true) (h1 : (Lit.int .u8 a1).wf = true) :
    Calls Try.prog 7 #[.int .u8 a0, .int .u8 a1] w fun e w' => e = .returned (.bool true) ∧ Below w.heap.size w w' := by
  obtain ⟨a, rfl, ha⟩ := wf8 h0
  obtain ⟨b, rfl, hb⟩ := wf8 h1
  clear h0 h1
  have he := of_eq
  have key : ∀ (i j : Nat), i < 4 → j < 4 → (a : Int) % 4 = i → (b : Int) % 4 = j → Calls Try.prog 7 #[.int .u8 a, .int .u8 b] w fun e w' => e = .returned (.bool true) ∧ Below w.heap.size w w' := by
    intro i j hi hj h0 h1
    obtain rfl | rfl | rfl | rfl : i = 0 ∨ i = 1 ∨ i = 2 ∨ i = 3 := by omega
    all_goals obtain rfl | rfl | rfl | rfl : j = 0 ∨ j = 1 ∨ j = 2 ∨ j = 3 := by omega
    all_goals clear hi hj
    all_goals go_enter Try.func7, Try.ntmps7
    all_goals go_wp2_with (first
      | (go_at_call 14; refine (awake_any _).mono ?_; rintro e w1 ⟨rfl, hb1⟩; have hb1 := Hidd.mk hb1)
      | (go_at_call 23; have hq := hb1.out; clear hq; with_reducible refine (of_lit0 _).mono ?_; rintro e w2 ⟨rfl, hb2⟩; have hb1 := Hidd.mk (below_then hb1.out hb2); clear hb2)
      | (go_at_call 23; have hq := hb1.out; clear hq; with_reducible refine (of_lit1 _).mono ?_; rintro e w2 ⟨rfl, hb2⟩; have hb1 := Hidd.mk (below_then hb1.out hb2); clear hb2)
      | (go_at_call 23; have hq := hb1.out; clear hq; with_reducible refine (of_lit2 _).mono ?_; rintro e w2 ⟨rfl, hb2⟩; have hb1 := Hidd.mk (below_then hb1.out hb2); clear hb2)
      | (go_at_call 23; have hq := hb1.out; clear hq; with_reducible refine (of_lit3 _).mono ?_; rintro e w2 ⟨rfl, hb2⟩; have hb1 := Hidd.mk (below_then hb1.out hb2); clear hb2))
    all_goals go_ret
    all_goals exact ⟨rfl, by repeat (first | exact Below.refl _ _ | exact hb1.out | refine Below.setCell ?_ (by have := hb1.out.size; simp at this ⊢; omega) _ | refine Below.alloc ?_ (by have := hb1.out.size; simp at this ⊢; omega) _)⟩
  exact key (a % 4) (b % 4) (by omega) (by omega) (by omega) (by omega)
end Go.Proofs.Ytpiahnecpbalhaa
