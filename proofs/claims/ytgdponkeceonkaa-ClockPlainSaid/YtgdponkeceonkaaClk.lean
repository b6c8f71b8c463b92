/- Contracts of the clock's functions: what New, Local, Real, Since answer, within the times of which the statements speak. -/
import Derived.Test.YtgdponkeceonkaaProg
import Derived.WalkKit
import Derived.KernelRfl
import Derived.RowKit3
import Derived.Deep.QuietTactic
import Derived.BigQuiet
import Derived.WalkLawsBesides
import Derived.WalkSpells
namespace Go.Proofs.Ytgdponkeceonkaa
open Go.RowKit

theorem quiet_eq {P : Program} {f : FuncId} {args : Array Value} {w : World} {n : Nat} {v : Value}
    (h : Calls P f args (w.drewN n) fun e w' => e = .returned v ∧ w.drewN n = w') : Calls P f args (w.drewN n) fun e w'' => e = .returned v ∧ ∃ m, w'' = w.drewN m :=
  h.mono fun _ _ ⟨he, hm⟩ => ⟨he, n, hm.symm⟩

theorem quiet_drew {P : Program} {f : FuncId} {args : Array Value} {w : World} {n : Nat} {v : Value}
    (h : Calls P f args (w.drewN n) fun e w' => e = .returned v ∧ ∃ m, (w.drewN n).drewN m = w') : Calls P f args (w.drewN n) fun e w'' => e = .returned v ∧ ∃ m, w'' = w.drewN m :=
  h.mono fun _ _ ⟨he, m, hm⟩ => ⟨he, n + m, by rw [← hm, World.drewN_drewN]⟩

theorem below_drewN' {B : Nat} {w W : World} (n : Nat) (h : Below B w W) : Below B w (W.drewN n) := ⟨h.os, h.tape, h.output, h.size, h.block⟩

theorem tdiv_floor (a b : Int) (hb : 1 ≤ b) : a / b = if Int.tmod a b = 0 then Int.tdiv a b else if a < 0 then Int.tdiv a b - 1 else Int.tdiv a b := by
  have hs : b.sign = 1 := Int.sign_eq_one_of_pos (by omega)
  have hd : b ∣ a ↔ Int.tmod a b = 0 := Int.dvd_iff_tmod_eq_zero
  rw [Int.tdiv_eq_ediv, hs]
  by_cases h1 : Int.tmod a b = 0
  · rw [if_pos h1, if_pos (.inr (hd.2 h1))]; omega
  · rw [if_neg h1]
    by_cases h2 : a < 0
    · rw [if_pos h2, if_neg (by rintro (h | h); omega; exact h1 (hd.1 h))]; omega
    · rw [if_neg h2, if_pos (.inl (by omega))]; omega

theorem tdiv_le (a b : Int) : - (if a < 0 then -a else a) ≤ Int.tdiv a b ∧ Int.tdiv a b ≤ (if a < 0 then -a else a) := by
  have h := Int.natAbs_tdiv_le_natAbs a b
  split <;> omega

theorem floor_any (a b : Int) (w : World) (ha : -4611686018427387904 < a) (ha' : a < 4611686018427387904) (hb : 1 ≤ b) (hb' : b ≤ 2000000) :
    Calls Try.prog 31 #[.int .i64 a, .int .i64 b] w fun e w' => e = .returned (.int .i64 (a / b)) ∧ w = w' := by
  have hb0 : (b == 0) = false := by simp; omega
  have hd := tdiv_floor a b hb
  have hq := tdiv_le a b
  have hq1 : -4611686018427387904 < Int.tdiv a b := by have := hq.1; split at this <;> omega
  have hq2 : Int.tdiv a b < 4611686018427387904 := by have := hq.2; split at this <;> omega
  clear hq
  by_cases h1 : Int.tmod a b = 0
  · have h1a : (Int.tmod a b != 0) = false := by simp [h1]
    rw [if_pos h1] at hd
    rw [hd]; clear hd h1
    go_enter Try.func31, Try.ntmps31
    go_wp2
    go_ret
    exact ⟨rfl, rfl⟩
  · have h1a : (Int.tmod a b != 0) = true := by simp [h1]
    rw [if_neg h1] at hd
    by_cases h2 : a < 0
    · have h2a : decide (a < 0) = true := by simp [h2]
      rw [if_pos h2] at hd
      rw [hd]; clear hd h1
      go_enter Try.func31, Try.ntmps31
      go_wp2
      go_ret
      exact ⟨rfl, rfl⟩
    · have h2a : decide (a < 0) = false := by simp [h2]
      have h1b : (a % b != 0) = true := by rw [← Int.tmod_eq_emod_of_nonneg (by omega)]; exact h1a
      rw [if_neg h2] at hd
      rw [hd]; clear hd h1
      go_enter Try.func31, Try.ntmps31
      go_wp2
      go_ret
      exact ⟨rfl, rfl⟩

theorem new_ok (s r : Int) (w : World) (h1 : 0 ≤ s) (h2 : s ≤ 1125899906842624) (h3 : -200 ≤ r) (h4 : r ≤ 200) :
    Calls Try.prog 16 #[.int .i64 s, .int .i64 r] w fun e w' => e = .returned (.tuple #[.pointer (some ⟨w.heap.size, 0, none⟩), .nilIface]) ∧ w.alloc (.cells #[.int .i64 s, .int .i64 r] 49) = w' := by
  go_enter Try.func16, Try.ntmps16
  go_wp2
  go_ret2
  exact ⟨rfl, rfl⟩

theorem new_bad (s r : Int) (w : World) (h : ¬ (0 ≤ s ∧ s ≤ 1125899906842624 ∧ -200 ≤ r ∧ r ≤ 200)) :
    Calls Try.prog 16 #[.int .i64 s, .int .i64 r] w fun e w' => e = .returned (.tuple #[.pointer none, .iface 47 (.int .i64 2)]) ∧ w = w' := by
  by_cases h1 : s < 0
  · go_enter Try.func16, Try.ntmps16
    go_wp2
    go_ret2
    exact ⟨rfl, rfl⟩
  · by_cases h2 : 1125899906842624 < s
    · go_enter Try.func16, Try.ntmps16
      go_wp2
      go_ret2
      exact ⟨rfl, rfl⟩
    · by_cases h3 : r < -200
      · go_enter Try.func16, Try.ntmps16
        go_wp2
        go_ret2
        exact ⟨rfl, rfl⟩
      · have h4 : 200 < r := by omega
        go_enter Try.func16, Try.ntmps16
        go_wp2
        go_ret2
        exact ⟨rfl, rfl⟩

theorem mul_bounds (d r : Int) (h1 : -1099511627776 ≤ d) (h2 : d ≤ 1099511627776) (h3 : -200 ≤ r) (h4 : r ≤ 200) : -4611686018427387904 < d * (1000000 + r) ∧ d * (1000000 + r) < 4611686018427387904 := by
  have e : d * (1000000 + r) = d * 1000000 + d * r := by rw [Int.mul_add]
  have b1 : -(1099511627776 * 200) ≤ d * r := by
    have := Int.natAbs_mul d r
    have h := Nat.mul_le_mul (show d.natAbs ≤ 1099511627776 by omega) (show r.natAbs ≤ 200 by omega)
    omega
  have b2 : d * r ≤ 1099511627776 * 200 := by
    have := Int.natAbs_mul d r
    have h := Nat.mul_le_mul (show d.natAbs ≤ 1099511627776 by omega) (show r.natAbs ≤ 200 by omega)
    omega
  omega

theorem local_any (g : Nat) (s r t : Int) (w : World) (hc0 : w.cell? ⟨g, 0, none⟩ = some (.int .i64 s)) (hc1 : w.cell? ⟨g, 1, none⟩ = some (.int .i64 r))
    (h1 : -1099511627776 ≤ t - s) (h2 : t - s ≤ 1099511627776) (h3 : -200 ≤ r) (h4 : r ≤ 200) :
    Calls Try.prog 17 #[.pointer (some ⟨g, 0, none⟩), .int .i64 t] w fun e w' => e = .returned (.int .i64 ((t - s) * (1000000 + r) / 1000000)) ∧ ∃ n, w.drewN n = w' := by
  obtain ⟨b1, b2⟩ := mul_bounds (t - s) r h1 h2 h3 h4
  have e1 := IntWalk.i64_in (t - s) (by omega)
  have e2 := IntWalk.i64_in (1000000 + r) (by omega)
  have e3 := IntWalk.i64_in ((t - s) * (1000000 + r)) (by omega)
  have hf := fun W => floor_any ((t - s) * (1000000 + r)) 1000000 W (by omega) (by omega) (by omega) (by omega)
  go_enter Try.func17, Try.ntmps17
  go_wp2
  go_quiet ((go_at_call 31; exact quiet_eq (hf _)))
  go_wp2
  go_ret
  exact ⟨rfl, _, rfl⟩

theorem real_any (g : Nat) (s r l : Int) (w : World) (hc0 : w.cell? ⟨g, 0, none⟩ = some (.int .i64 s)) (hc1 : w.cell? ⟨g, 1, none⟩ = some (.int .i64 r))
    (h1 : -1099511627776 ≤ l) (h2 : l ≤ 1099511627776) (h3 : -200 ≤ r) (h4 : r ≤ 200) (h5 : 0 ≤ s) (h6 : s ≤ 2251799813685248) :
    Calls Try.prog 18 #[.pointer (some ⟨g, 0, none⟩), .int .i64 l] w fun e w' => e = .returned (.int .i64 (s - -l * 1000000 / (1000000 + r))) ∧ ∃ n, w.drewN n = w' := by
  have e1 := IntWalk.i64_in (-l) (by omega)
  have e2 := IntWalk.i64_in (1000000 + r) (by omega)
  have e3 := IntWalk.i64_in (-l * 1000000) (by omega)
  have hq : -1099511627777000000 ≤ -l * 1000000 / (1000000 + r) ∧ -l * 1000000 / (1000000 + r) ≤ 1099511627777000000 := by
    have hm := Int.mul_ediv_add_emod (-l * 1000000) (1000000 + r)
    have l1 := Int.emod_nonneg (-l * 1000000) (show 1000000 + r ≠ 0 by omega)
    have l2 := Int.emod_lt_of_pos (-l * 1000000) (show 0 < 1000000 + r by omega)
    constructor
    · refine (Int.le_ediv_iff_mul_le (by omega)).2 ?_
      have : -1099511627777000000 * (1000000 + r) = -1099511627777000000 * 1000000 + -1099511627777000000 * r := by rw [Int.mul_add]
      omega
    · refine Int.le_of_lt_add_one ((Int.ediv_lt_iff_lt_mul (by omega)).2 ?_)
      have : (1099511627777000000 + 1) * (1000000 + r) = (1099511627777000000 + 1) * 1000000 + (1099511627777000000 + 1) * r := by rw [Int.mul_add]
      omega
  have e4 := IntWalk.i64_in (s - -l * 1000000 / (1000000 + r)) (by omega)
  have hf := fun W => floor_any (-l * 1000000) (1000000 + r) W (by omega) (by omega) (by omega) (by omega)
  clear hq h5 h6
  go_enter Try.func18, Try.ntmps18
  go_wp2
  go_quiet ((go_at_call 31; exact quiet_eq (hf _)))
  go_wp2
  go_ret
  exact ⟨rfl, _, rfl⟩

theorem since_any (g : Nat) (s : Int) (w : World) (hc0 : w.cell? ⟨g, 0, none⟩ = some (.int .i64 s)) :
    Calls Try.prog 23 #[.pointer (some ⟨g, 0, none⟩)] w fun e w' => e = .returned (.int .i64 s) ∧ w = w' := by
  go_enter Try.func23, Try.ntmps23
  go_wp2
  go_ret
  exact ⟨rfl, rfl⟩

theorem local_nil (t : Int) (w : World) : Calls Try.prog 17 #[.pointer none, .int .i64 t] w fun e w' => e = .returned (.int .i64 0) ∧ w = w' := by
  go_enter Try.func17, Try.ntmps17
  go_wp2
  go_ret
  exact ⟨rfl, rfl⟩

theorem real_nil (t : Int) (w : World) : Calls Try.prog 18 #[.pointer none, .int .i64 t] w fun e w' => e = .returned (.int .i64 0) ∧ w = w' := by
  go_enter Try.func18, Try.ntmps18
  go_wp2
  go_ret
  exact ⟨rfl, rfl⟩

theorem since_nil (w : World) : Calls Try.prog 23 #[.pointer none] w fun e w' => e = .returned (.int .i64 0) ∧ w = w' := by
  go_enter Try.func23, Try.ntmps23
  go_wp2
  go_ret
  exact ⟨rfl, rfl⟩

theorem lawful_any (s r : Int) (w : World) :
    Calls Try.prog 14 #[.int .i64 s, .int .i64 r] w fun e w' => e = .returned (.bool (decide (0 ≤ s ∧ s ≤ 1125899906842624 ∧ -200 ≤ r ∧ r ≤ 200))) ∧ w = w' := by
  by_cases h1 : 0 ≤ s
  · by_cases h2 : s ≤ 1125899906842624
    · by_cases h3 : -200 ≤ r
      · have e : decide (0 ≤ s ∧ s ≤ 1125899906842624 ∧ -200 ≤ r ∧ r ≤ 200) = decide (r ≤ 200) := by simp [h1, h2, h3]
        rw [e]; clear e
        go_enter Try.func14, Try.ntmps14
        go_wp2
        go_ret
        exact ⟨rfl, rfl⟩
      · rw [decide_eq_false (by omega)]
        go_enter Try.func14, Try.ntmps14
        go_wp2
        go_ret
        exact ⟨rfl, rfl⟩
    · rw [decide_eq_false (by omega)]
      go_enter Try.func14, Try.ntmps14
      go_wp2
      go_ret
      exact ⟨rfl, rfl⟩
  · rw [decide_eq_false (by omega)]
    go_enter Try.func14, Try.ntmps14
    go_wp2
    go_ret
    exact ⟨rfl, rfl⟩

theorem near_any (t : Int) (w : World) :
    Calls Try.prog 15 #[.int .i64 t] w fun e w' => e = .returned (.int .i64 (Int.tmod t 549755813888)) ∧ w = w' := by
  go_enter Try.func15, Try.ntmps15
  go_wp2
  go_ret
  exact ⟨rfl, rfl⟩

theorem near_bounds (t : Int) : -549755813888 < Int.tmod t 549755813888 ∧ Int.tmod t 549755813888 < 549755813888 := by
  have h1 := Int.tmod_lt_of_pos t (show (0 : Int) < 549755813888 by decide)
  have h2 := Int.lt_tmod_of_pos t (show (0 : Int) < 549755813888 by decide)
  omega

theorem awake_any (w : World) :
    Calls Try.prog 13 #[] w fun e w' => e = .returned (.bool true) ∧ Below w.heap.size w w' := by
  go_enter Try.func13, Try.ntmps13
  go_wp2_with (first | (go_at_call 16; refine (new_ok _ _ _ (by decide) (by decide) (by decide) (by decide)).mono ?_; rintro e w' ⟨rfl, rfl⟩) | (go_at_call 17; refine (local_any w.heap.size 100 200 _ _ (by simp [go_sem]) (by simp [go_sem]) (by decide) (by decide) (by decide) (by decide)).mono ?_; rintro e w' ⟨rfl, n, rfl⟩) | (go_at_call 18; refine (real_any w.heap.size 100 200 _ _ (by simp [go_sem]) (by simp [go_sem]) (by decide) (by decide) (by decide) (by decide) (by decide) (by decide)).mono ?_; rintro e w' ⟨rfl, n, rfl⟩))
  go_ret
  exact ⟨rfl, by repeat (first | exact Below.refl _ _ | apply below_drewN' | refine Below.alloc ?_ (Nat.le_refl _) _)⟩

/-- 'local_any', 'real_any', 'near_any' with names for what they answer. -/
theorem local_at (g : Nat) (s r t q : Int) (w : World) (hc0 : w.cell? ⟨g, 0, none⟩ = some (.int .i64 s)) (hc1 : w.cell? ⟨g, 1, none⟩ = some (.int .i64 r))
    (h1 : -1099511627776 ≤ t - s) (h2 : t - s ≤ 1099511627776) (h3 : -200 ≤ r) (h4 : r ≤ 200) (hq : (t - s) * (1000000 + r) / 1000000 = q) :
    Calls Try.prog 17 #[.pointer (some ⟨g, 0, none⟩), .int .i64 t] w fun e w' => e = .returned (.int .i64 q) ∧ ∃ n, w.drewN n = w' := by
  subst hq; exact local_any g s r t w hc0 hc1 h1 h2 h3 h4

theorem real_at (g : Nat) (s r l q : Int) (w : World) (hc0 : w.cell? ⟨g, 0, none⟩ = some (.int .i64 s)) (hc1 : w.cell? ⟨g, 1, none⟩ = some (.int .i64 r))
    (h1 : -1099511627776 ≤ l) (h2 : l ≤ 1099511627776) (h3 : -200 ≤ r) (h4 : r ≤ 200) (h5 : 0 ≤ s) (h6 : s ≤ 2251799813685248) (hq : s - -l * 1000000 / (1000000 + r) = q) :
    Calls Try.prog 18 #[.pointer (some ⟨g, 0, none⟩), .int .i64 l] w fun e w' => e = .returned (.int .i64 q) ∧ ∃ n, w.drewN n = w' := by
  subst hq; exact real_any g s r l w hc0 hc1 h1 h2 h3 h4 h5 h6

theorem near_at (t q : Int) (w : World) (hq : Int.tmod t 549755813888 = q) :
    Calls Try.prog 15 #[.int .i64 t] w fun e w' => e = .returned (.int .i64 q) ∧ w = w' := by
  subst hq; exact near_any t w

end Go.Proofs.Ytgdponkeceonkaa
