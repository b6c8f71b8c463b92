/- BankNil walked. -/
import Derived.Test.YtjbhcmkloamcmaaBkK
namespace Go.Proofs.Ytjbhcmkloamcmaa
open Go.RowKit

theorem read_one (W : World) : Calls Try.prog 19 #[.iface 66 (.int .i64 1)] W fun e w' => e = .returned (.string (numB 1)) ∧ Below W.heap.size W w' := read_any [] (some 1) _ W rfl ⟨by decide, by simp, by simp⟩
theorem begin_nilZ (W : World) : Calls Try.prog 13 #[.pointer none, .int .i64 1, .agg #[.int .u8 0, .int .u8 0, .int .u8 0, .int .u8 0, .int .u8 0, .int .u8 0, .int .u8 0, .int .u8 0, .int .u8 0, .int .u8 0, .int .u8 0, .int .u8 0, .int .u8 0, .int .u8 0, .int .u8 0, .int .u8 0, .int .u8 0, .int .u8 0, .int .u8 0, .int .u8 0, .int .u8 0, .int .u8 0, .int .u8 0, .int .u8 0, .int .u8 0, .int .u8 0, .int .u8 0, .int .u8 0, .int .u8 0, .int .u8 0, .int .u8 0, .int .u8 0]] W fun e w' => e = .returned (.iface 66 (.int .i64 1)) ∧ Below W.heap.size W w' := begin_nil 1 (List.replicate 32 0) W
set_option maxRecDepth 100000
set_option maxHeartbeats 16000000
theorem bankNil_walk (a0 : Int) (a1 : Option Addr) (len1 cap1 : Nat) (z1 : List Int) (w : World) (_ : (Lit.int .i64 a0).wf = true) (_ : IsRow .u8 w a1 len1 cap1 z1) (_ : len1 * 1 ≤ 140737488351232) :
    Calls Try.prog 9 #[.int .i64 a0, .slice a1 len1 cap1] w fun e w' => e = .returned (.bool true) ∧ Below w.heap.size w w' := by
  go_enter Try.func9, Try.ntmps9
  go_wp2_with (first
    | (go_at_call 10; refine (awake19_any _).mono ?_; rintro e w1 ⟨rfl, hb1⟩; replace hb1 := Hidd.mk hb1)
    | (go_at_call 18; refine (arm_nil _ _).mono ?_; rintro e w2 ⟨rfl, rfl⟩)
    | (go_at_call 11; refine (open_nil _).mono ?_; rintro e w2 ⟨rfl, rfl⟩)
    | (go_at_call 28; have hq := hb1.out; clear hq; refine (e_any 1 _ (by decide) (by decide)).mono ?_; rintro e w3 ⟨rfl, hb3⟩; have hb2 := Hidd.mk (below_then hb1.out hb3); clear hb1 hb3)
    | (go_at_call 17; refine (image_nil _).mono ?_; rintro e w2 ⟨rfl, rfl⟩)
    | (go_at_call 23; refine (crash_nil _).mono ?_; rintro e w2 ⟨rfl, rfl⟩)
    | (go_at_call 19; have hq := hb2.out; clear hq; refine (read_one _).mono ?_; rintro e w4 ⟨rfl, hb4⟩; have hb3 := Hidd.mk (below_then hb2.out hb4); clear hb2 hb4)
    | (go_at_call 21; refine (left_nil _).mono ?_; rintro e w2 ⟨rfl, rfl⟩)
    | (go_at_call 13; have hq := hb3.out; clear hq; refine (begin_nilZ _).mono ?_; rintro e w5 ⟨rfl, hb5⟩; have hb2 := Hidd.mk (below_then hb3.out hb5); clear hb3 hb5)
    | (go_at_call 14; refine (chunk_nil _ _ _ _).mono ?_; rintro e w2 ⟨rfl, rfl⟩; have hb2 := hb3; clear hb3)
    | (go_at_call 20; refine (commit_nil _).mono ?_; rintro e w2 ⟨rfl, rfl⟩; have hb2 := hb3; clear hb3))
  go_ret
  exact ⟨rfl, hb3.out⟩
end Go.Proofs.Ytjbhcmkloamcmaa
