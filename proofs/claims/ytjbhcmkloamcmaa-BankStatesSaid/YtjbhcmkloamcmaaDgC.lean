/- The numbers of the digest: primes, and the bits behind the point of their roots. -/
import Derived.Test.YtjbhcmkloamcmaaDgA
import Derived.Test.YtjbhcmkloamcmaaAppR
import Derived.Test.YtjbhcmkloamcmaaPack
import Derived.Shelf.Bits.Mul64
import Derived.Laws.Externs
namespace Go.Proofs.Ytjbhcmkloamcmaa
open Go.RowKit

set_option maxRecDepth 100000
set_option maxHeartbeats 4000000
theorem mul_any (x y hi lo : Nat) (hx : x < 18446744073709551616) (hy : y < 18446744073709551616) (h1 : hi = x * y / 18446744073709551616) (h2 : lo = x * y % 18446744073709551616) (w : World) :
    Calls Try.prog 53 #[.int .u64 (x : Int), .int .u64 (y : Int)] w fun e w' => e = .returned (.tuple #[.int .u64 (hi : Int), .int .u64 (lo : Int)]) ∧ w = w' := by
  subst h1 h2
  obtain ⟨bd, bt, bw, hhi⟩ := Lib.mul64_hi x y hx hy
  have ba := Lib.half_mul_le (a := x / 4294967296) (b := y / 4294967296) (by omega) (by omega)
  have bb := Lib.half_mul_le (a := x / 4294967296) (b := y % 4294967296) (by omega) (by omega)
  have bc := Lib.half_mul_le (a := x % 4294967296) (b := y / 4294967296) (by omega) (by omega)
  have ba' : x / 4294967296 * (y / 4294967296) < 18446744073709551616 := by omega
  have bb' : x / 4294967296 * (y % 4294967296) < 18446744073709551616 := by omega
  have bc' : x % 4294967296 * (y / 4294967296) < 18446744073709551616 := by omega
  have bh1 : x / 4294967296 * (y / 4294967296) + (x / 4294967296 * (y % 4294967296) + x % 4294967296 * (y % 4294967296) / 4294967296) / 4294967296 < 18446744073709551616 := by omega
  have bh : x / 4294967296 * (y / 4294967296) + (x / 4294967296 * (y % 4294967296) + x % 4294967296 * (y % 4294967296) / 4294967296) / 4294967296 + ((x / 4294967296 * (y % 4294967296) + x % 4294967296 * (y % 4294967296) / 4294967296) % 4294967296 + x % 4294967296 * (y / 4294967296)) / 4294967296 < 18446744073709551616 := by omega
  go_enter Try.func53, Try.ntmps53
  go_wp2
  simp only [Mul64.maskN x hx, Mul64.maskN y hy, Mul64.divN, Mul64.mulN, Mul64.addN, Mul64.wrapN _ bd, Mul64.wrapN _ bb', Mul64.wrapN _ bt, Mul64.maskN _ bt, Mul64.wrapN _ bc', Mul64.wrapN _ bw, Mul64.wrapN _ ba', Mul64.wrapN _ bh1, Mul64.wrapN _ bh, Mul64.wrapM (x * y)]
  rw [hhi]
  go_ret2
  exact ⟨rfl, rfl⟩
theorem add_run (x y s c : Nat) (h1 : s = (x + y) % 18446744073709551616) (h2 : c = (x + y) / 18446744073709551616) (w : World) :
    (callFunc 54 #[.int .u64 (x : Int), .int .u64 (y : Int), .int .u64 0]).run Try.prog w = .ok (.value (.tuple #[.int .u64 (s : Int), .int .u64 (c : Int)])) w := by
  rw [run_callFunc_extern Try.func54 (by kernel_rfl) (by kernel_rfl) (by kernel_rfl) (e := add64Entry) (by kernel_rfl), run_add64 x y 0 (by omega) (by omega) (by omega) (by omega)]
  have e1 : ((x : Int) + (y : Int) + 0) % 18446744073709551616 = (s : Int) := by omega
  have e2 : ((x : Int) + (y : Int) + 0) / 18446744073709551616 = (c : Int) := by omega
  simp only [Result.andThen, e1, e2]
/-- Is m over the root? -/
def ovB (p : Nat) (cube : Bool) (m : Nat) : Bool := if cube then decide (p * 79228162514264337593543950336 < m * m * m) else decide (p * 18446744073709551616 < m * m)
theorem over_sq (m p : Nat) (hm : m ≤ 274877906944) (hp : p < 4096) (b : Bool) (hb : ovB p false m = b) (w : World) :
    Calls Try.prog 50 #[.int .u64 (m : Int), .int .u64 (p : Int), .bool false] w fun e w' => e = .returned (.bool b) ∧ w = w' := by
  obtain ⟨hi, hhi⟩ : ∃ h, h = m * m / 18446744073709551616 := ⟨_, rfl⟩
  obtain ⟨lo, hlo⟩ : ∃ h, h = m * m % 18446744073709551616 := ⟨_, rfl⟩
  have hq : m * m = hi * 18446744073709551616 + lo := by omega
  have hl : lo < 18446744073709551616 := by omega
  unfold ovB at hb
  rw [if_neg (by decide), hq] at hb
  clear hq
  replace hhi := Hidd.mk hhi
  replace hlo := Hidd.mk hlo
  have hcase : (p < hi ∧ b = true) ∨ (hi = p ∧ 0 < lo ∧ b = true) ∨ (hi = p ∧ lo = 0 ∧ b = false) ∨ (hi < p ∧ b = false) := by
    subst hb
    by_cases h1 : p < hi
    · exact .inl ⟨h1, by rw [decide_eq_true_eq]; omega⟩
    · by_cases h2 : hi = p
      · by_cases h3 : 0 < lo
        · exact .inr (.inl ⟨h2, h3, by rw [decide_eq_true_eq]; omega⟩)
        · exact .inr (.inr (.inl ⟨h2, by omega, by rw [decide_eq_false_iff_not]; omega⟩))
      · exact .inr (.inr (.inr ⟨by omega, by rw [decide_eq_false_iff_not]; omega⟩))
  clear hb
  rcases hcase with ⟨h1, rfl⟩ | ⟨rfl, h2, rfl⟩ | ⟨rfl, rfl, rfl⟩ | ⟨h1, rfl⟩
  all_goals first
    | (have d1 : decide ((p : Int) < (hi : Int)) = true := by (rw [decide_eq_true_eq]; omega))
    | (have d1 : decide ((p : Int) < (hi : Int)) = false := by (rw [decide_eq_false_iff_not]; omega); have d2 : ((hi : Int) == (p : Int)) = false := by (rw [beq_eq_false_iff_ne]; omega))
    | (have d3 : decide ((0 : Int) < (lo : Int)) = true := by (rw [decide_eq_true_eq]; omega))
    | skip
  all_goals go_enter Try.func50, Try.ntmps50
  all_goals go_wp2_with (go_at_call 53; refine (mul_any m m _ _ (by omega) (by omega) hhi.out hlo.out _).mono ?_; rintro e w' ⟨rfl, rfl⟩)
  all_goals go_ret
  all_goals refine ⟨ret_bool ?_, rfl⟩
  all_goals first
    | rfl
    | (rw [decide_eq_false_iff_not]; omega)
theorem over_cb (m p : Nat) (hm : m ≤ 274877906944) (hp : p < 4096) (b : Bool) (hb : ovB p true m = b) (w : World) :
    Calls Try.prog 50 #[.int .u64 (m : Int), .int .u64 (p : Int), .bool true] w fun e w' => e = .returned (.bool b) ∧ w = w' := by
  obtain ⟨hi, hhi⟩ : ∃ h, h = m * m / 18446744073709551616 := ⟨_, rfl⟩
  obtain ⟨lo, hlo⟩ : ∃ h, h = m * m % 18446744073709551616 := ⟨_, rfl⟩
  have hq : m * m = hi * 18446744073709551616 + lo := by omega
  have hl : lo < 18446744073709551616 := by omega
  have hmm : m * m ≤ 274877906944 * 274877906944 := Nat.mul_le_mul hm hm
  have hh4 : hi ≤ 4096 := by omega
  obtain ⟨la, hla⟩ : ∃ h, h = lo * m / 18446744073709551616 := ⟨_, rfl⟩
  obtain ⟨lb, hlb⟩ : ∃ h, h = lo * m % 18446744073709551616 := ⟨_, rfl⟩
  have hlm : lo * m = la * 18446744073709551616 + lb := by omega
  have hlmb : lo * m ≤ 18446744073709551615 * 274877906944 := Nat.mul_le_mul (by omega) hm
  obtain ⟨hd, hhd⟩ : ∃ h, h = hi * m := ⟨_, rfl⟩
  have hhmb : hi * m ≤ 4096 * 274877906944 := Nat.mul_le_mul hh4 hm
  have e0 : 0 = hi * m / 18446744073709551616 := by omega
  have e1 : hd = hi * m % 18446744073709551616 := by omega
  obtain ⟨mid, hmid⟩ : ∃ h, h = la + hd := ⟨_, rfl⟩
  have e2 : mid = (la + hd) % 18446744073709551616 := by omega
  have e3 : 0 = (la + hd) / 18446744073709551616 := by omega
  have hm3 : m * m * m = mid * 18446744073709551616 + lb := by
    rw [hq, Nat.add_mul, Nat.mul_right_comm, hlm, ← hhd, hmid]
    omega
  have hlb' : lb < 18446744073709551616 := by omega
  have hlo' : lo < 18446744073709551616 := hl
  unfold ovB at hb
  rw [if_pos rfl, hm3] at hb
  have hpp : p * 79228162514264337593543950336 = (p * 4294967296) * 18446744073709551616 := by omega
  rw [hpp] at hb
  obtain ⟨pp, epp⟩ : ∃ pp, pp = p * 4294967296 := ⟨_, rfl⟩
  have hsr : ((p : Int) / 4294967296) = 0 := by omega
  have hsl : (p : Int) * 4294967296 % 18446744073709551616 = (pp : Int) := by omega
  have hsl' : IntKind.u64.wrap ((p : Int) * 4294967296) = (pp : Int) := by rw [IntKind.wrap_u64]; omega
  rw [← epp] at hb
  clear hm3 hq hmm hlm hlmb hhmb hpp epp
  replace hhi := Hidd.mk hhi
  replace hlo := Hidd.mk hlo
  replace hla := Hidd.mk hla
  replace hlb := Hidd.mk hlb
  replace e0 := Hidd.mk e0
  replace e1 := Hidd.mk e1
  replace e2 := Hidd.mk e2
  replace e3 := Hidd.mk e3
  replace hhd := Hidd.mk hhd
  replace hmid := Hidd.mk hmid
  have hr := add_run la hd mid 0 e2.out e3.out
  have hcase : (pp < mid ∧ b = true) ∨ (mid = pp ∧ 0 < lb ∧ b = true) ∨ (mid = pp ∧ lb = 0 ∧ b = false) ∨ (mid < pp ∧ b = false) := by
    subst hb
    by_cases h1 : pp < mid
    · exact .inl ⟨h1, by rw [decide_eq_true_eq]; omega⟩
    · by_cases h2 : mid = pp
      · by_cases h3 : 0 < lb
        · exact .inr (.inl ⟨h2, h3, by rw [decide_eq_true_eq]; omega⟩)
        · exact .inr (.inr (.inl ⟨h2, by omega, by rw [decide_eq_false_iff_not]; omega⟩))
      · exact .inr (.inr (.inr ⟨by omega, by rw [decide_eq_false_iff_not]; omega⟩))
  clear hb
  rcases hcase with ⟨h1, rfl⟩ | ⟨rfl, h2, rfl⟩ | ⟨rfl, rfl, rfl⟩ | ⟨h1, rfl⟩
  all_goals first
    | (have d1 : decide ((pp : Int) < (mid : Int)) = true := by (rw [decide_eq_true_eq]; omega))
    | (have d1 : decide ((pp : Int) < (mid : Int)) = false := by (rw [decide_eq_false_iff_not]; omega); have d2 : ((mid : Int) == (pp : Int)) = false := by (rw [beq_eq_false_iff_ne]; omega))
    | (have d3 : decide ((0 : Int) < (lb : Int)) = true := by (rw [decide_eq_true_eq]; omega))
    | skip
  all_goals go_enter Try.func50, Try.ntmps50
  all_goals go_wp2_with (first
    | (go_at_call 53; with_reducible refine (mul_any m m _ _ (by omega) (by omega) hhi.out hlo.out _).mono ?_; rintro e w' ⟨rfl, rfl⟩)
    | (go_at_call 53; with_reducible refine (mul_any lo m _ _ hlo' (by omega) hla.out hlb.out _).mono ?_; rintro e w' ⟨rfl, rfl⟩)
    | (go_at_call 53; with_reducible refine (mul_any hi m _ _ (by omega) (by omega) e0.out e1.out _).mono ?_; rintro e w' ⟨rfl, rfl⟩))
  all_goals go_ret
  all_goals refine ⟨ret_bool ?_, rfl⟩
  all_goals first
    | rfl
    | (rw [decide_eq_false_iff_not]; omega)
theorem over_any (m p : Nat) (cube : Bool) (hm : m ≤ 274877906944) (hp : p < 4096) (b : Bool) (hb : ovB p cube m = b) (w : World) :
    Calls Try.prog 50 #[.int .u64 (m : Int), .int .u64 (p : Int), .bool cube] w fun e w' => e = .returned (.bool b) ∧ w = w' := by
  cases cube
  · exact over_sq m p hm hp b hb w
  · exact over_cb m p hm hp b hb w
theorem root_any (p c : Nat) (cube : Bool) (hp : p < 4096) (hc : c < 274877906944) (hov : ∀ m, m ≤ 274877906944 → ovB p cube m = decide (c < m)) (w : World) :
    Calls Try.prog 47 #[.int .u64 (p : Int), .bool cube] w fun e w' => e = .returned (u32v (BitVec.ofNat 32 c)) ∧ w = w' := by
  replace hov := Hidd.mk hov
  go_enter Try.func47, Try.ntmps47
  go_wp2
  go_loopw [5, 6] (fun v5 v6 wr => ∃ (lo hi : Nat), v5 = .int .u64 lo ∧ v6 = .int .u64 hi ∧ lo ≤ c ∧ c < hi ∧ hi ≤ 274877906944 ∧ Hidd (w = wr)) (fun v5 v6 _ => (intOf v6).toNat - (intOf v5).toNat)
  case atStart => exact ⟨0, 274877906944, rfl, rfl, by omega, hc, by omega, ⟨rfl⟩⟩
  case round =>
    obtain ⟨lo, hi, rfl, rfl, h1, h2, h3, hw⟩ := hrel
    by_cases hlt : lo + 1 < hi
    · have d1 : decide (lo + 1 < hi) = true := by simpa using hlt
      obtain ⟨m, hm⟩ : ∃ m, m = (lo + hi) / 2 := ⟨_, rfl⟩
      have hm1 : lo < m := by omega
      have hm2 : m < hi := by omega
      have e1 : ((lo : Int) + (hi : Int)) / 2 = (m : Int) := by omega
      have hh := hov.out m (by omega)
      replace hm := Hidd.mk hm
      by_cases hcm : c < m
      · have hb : Hidd (ovB p cube m = true) := ⟨by rw [hh]; exact decide_eq_true hcm⟩
        clear hh
        go_wp2_with (go_at_call 50; refine (over_any m p cube (by omega) hp true hb.out _).mono ?_; rintro e w' ⟨rfl, rfl⟩)
        go_roundw
        case rel => exact ⟨lo, m, rfl, rfl, h1, hcm, by omega, hw⟩
        case measure => simp [intOf]; omega
      · have hb : Hidd (ovB p cube m = false) := ⟨by rw [hh]; exact decide_eq_false hcm⟩
        clear hh
        go_wp2_with (go_at_call 50; refine (over_any m p cube (by omega) hp false hb.out _).mono ?_; rintro e w' ⟨rfl, rfl⟩)
        go_roundw
        case rel => exact ⟨m, hi, rfl, rfl, by omega, h2, by omega, hw⟩
        case measure => simp [intOf]; omega
    · have d1 : decide (lo + 1 < hi) = false := by simpa using hlt
      obtain rfl : lo = c := by omega
      go_wp2
      go_ret
      refine ⟨?_, hw.out⟩
      rw [u32v, ← v_wrap, IntKind.wrap_u32']
      rfl
end Go.Proofs.Ytjbhcmkloamcmaa
