/- Turning of words: the program's and the reference's. -/
import Derived.Test.YtjbhcmkloamcmaaDgPl
import Derived.Test.YtjbhcmkloamcmaaProg
namespace Go.Proofs.Ytjbhcmkloamcmaa
open Go.RowKit

theorem ret_u32 {a b : W32} (h : a = b) : Ending.returned (.int .u32 (a.toNat : Int)) = .returned (u32v b) := by rw [h]; rfl
set_option maxRecDepth 100000
theorem rotl_any (x : W32) (n : Nat) (h1 : 1 ≤ n) (h2 : n ≤ 31) (w : World) : Calls Try.prog 52 #[.int .u32 (x.toNat : Int), .int .i64 (-(n : Int))] w fun e w' => e = .returned (u32v (rr x n)) ∧ w = w' := by
  have hw : IntKind.u64.wrap (-(n : Int)) = ((18446744073709551616 - n : Nat) : Int) := by rw [IntKind.wrap_u64]; omega
  have ha : bits .and .u64 ((18446744073709551616 - n : Nat) : Int) 31 = ((32 - n : Nat) : Int) := by
    rw [show (31 : Int) = ((31 : Nat) : Int) from rfl, bits_and_u64_nat _ 31 (by omega) (by decide), Nat.and_two_pow_sub_one_eq_mod _ 5]
    congr 1
    omega
  go_enter Try.func52, Try.ntmps52
  go_wp2
  go_ret
  refine ⟨?_, rfl⟩
  rw [v_shl', v_shr', v_or]
  refine ret_u32 ?_
  rw [rr, show 32 - (32 - n) = n by omega, BitVec.or_comm]
theorem turn_any (x : W32) (n : Nat) (h1 : 1 ≤ n) (h2 : n ≤ 31) (w : World) : Calls Try.prog 51 #[.int .u32 (x.toNat : Int), .int .i64 (n : Int)] w fun e w' => e = .returned (u32v (rr x n)) ∧ w = w' := by
  go_enter Try.func51, Try.ntmps51
  go_wp2_with (go_at_call 52; refine (rotl_any x n h1 h2 _).mono ?_; rintro e w' ⟨rfl, rfl⟩)
  go_ret
  exact ⟨rfl, rfl⟩
theorem turn_i (x : W32) (n : Int) (h1 : 1 ≤ n) (h2 : n ≤ 31) (w : World) : Calls Try.prog 51 #[.int .u32 (x.toNat : Int), .int .i64 n] w fun e w' => e = .returned (.int .u32 ((rr x n.toNat).toNat : Int)) ∧ w = w' := by
  obtain ⟨m, rfl⟩ : ∃ m : Nat, n = m := ⟨n.toNat, by omega⟩
  exact turn_any x m (by omega) (by omega) w
theorem right_any (x : W32) (n : Nat) (h1 : 1 ≤ n) (h2 : n ≤ 31) (w : World) : Calls Try.prog 37 #[.int .u32 (x.toNat : Int), .int .i64 (n : Int)] w fun e w' => e = .returned (u32v (rr x n)) ∧ ∃ m, w.drewN m = w' := by
  have c1 : (0 : Int) ≤ n := by omega
  have c2 : (0 : Int) ≤ 32 - n := by omega
  have c3 : ((32 : Int) - n).toNat = 32 - n := by omega
  go_enter Try.func37, Try.ntmps37
  go_wp2
  go_quiet (fail)
  go_wp2
  go_ret
  refine ⟨?_, nq, rfl⟩
  rw [v_shl', v_shr', v_or]
  exact ret_u32 rfl
theorem right_i (x : W32) (n : Int) (h1 : 1 ≤ n) (h2 : n ≤ 31) (w : World) : Calls Try.prog 37 #[.int .u32 (x.toNat : Int), .int .i64 n] w fun e w' => e = .returned (.int .u32 ((rr x n.toNat).toNat : Int)) ∧ ∃ m, w.drewN m = w' := by
  obtain ⟨m, rfl⟩ : ∃ m : Nat, n = m := ⟨n.toNat, by omega⟩
  exact right_any x m (by omega) (by omega) w
end Go.Proofs.Ytjbhcmkloamcmaa
