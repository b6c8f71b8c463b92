/- Contracts of the clock's functions: what New, Local, Real, Since answer, within the times of which the statements speak. -/
import Derived.Test.YtgdponkeceonkaaRead
namespace Go.Proofs.Ytgdponkeceonkaa
open Go.RowKit

theorem tdiv_floor (a b : Int) (hb : 1 ≤ b) : a / b = if Int.tmod a b = 0 then Int.tdiv a b else if a < 0 then Int.tdiv a b - 1 else Int.tdiv a b := by
  have hs : b.sign = 1 := Int.sign_eq_one_of_pos (by omega)
  have hd : b ∣ a ↔ Int.tmod a b = 0 := Int.dvd_iff_tmod_eq_zero
  rw [Int.tdiv_eq_ediv, hs]
  by_cases h1 : Int.tmod a b = 0
  · rw [if_pos h1, if_pos (.inr (hd.2 h1))]; omega
  · rw [if_neg h1]
    by_cases h2 : a < 0
    · rw [if_pos h2, if_neg (by rintro (h | h); omega; exact h1 (hd.1 h))]; omega
    · rw [if_neg h2, if_pos (.inl (by omega))]; omega

theorem tdiv_le (a b : Int) : - (if a < 0 then -a else a) ≤ Int.tdiv a b ∧ Int.tdiv a b ≤ (if a < 0 then -a else a) := by
  have h := Int.natAbs_tdiv_le_natAbs a b
  split <;> omega

theorem floor_any (a b : Int) (w : World) (ha : -4611686018427387904 < a) (ha' : a < 4611686018427387904) (hb : 1 ≤ b) (hb' : b ≤ 2000000) :
    Calls Try.prog 31 #[.int .i64 a, .int .i64 b] w fun e w' => e = .returned (.int .i64 (a / b)) ∧ w = w' := by
  have hb0 : (b == 0) = false := by simp; omega
  have hd := tdiv_floor a b hb
  have hq := tdiv_le a b
  have hq1 : -4611686018427387904 < Int.tdiv a b := by have := hq.1; split at this <;> omega
  have hq2 : Int.tdiv a b < 4611686018427387904 := by have := hq.2; split at this <;> omega
  clear hq
  by_cases h1 : Int.tmod a b = 0
  · have h1a : (Int.tmod a b != 0) = false := by simp [h1]
    rw [if_pos h1] at hd
    rw [hd]; clear hd h1
    go_enter Try.func31, Try.ntmps31
    go_wp2
    go_ret
    exact ⟨rfl, rfl⟩
  · have h1a : (Int.tmod a b != 0) = true := by simp [h1]
    rw [if_neg h1] at hd
    by_cases h2 : a < 0
    · have h2a : decide (a < 0) = true := by simp [h2]
      rw [if_pos h2] at hd
      rw [hd]; clear hd h1
      go_enter Try.func31, Try.ntmps31
      go_wp2
      go_ret
      exact ⟨rfl, rfl⟩
    · have h2a : decide (a < 0) = false := by simp [h2]
      have h1b : (a % b != 0) = true := by rw [← Int.tmod_eq_emod_of_nonneg (by omega)]; exact h1a
      rw [if_neg h2] at hd
      rw [hd]; clear hd h1
      go_enter Try.func31, Try.ntmps31
      go_wp2
      go_ret
      exact ⟨rfl, rfl⟩

theorem new_ok (s r : Int) (w : World) (h1 : 0 ≤ s) (h2 : s ≤ 1125899906842624) (h3 : -200 ≤ r) (h4 : r ≤ 200) :
    Calls Try.prog 16 #[.int .i64 s, .int .i64 r] w fun e w' => e = .returned (.tuple #[.pointer (some ⟨w.heap.size, 0, none⟩), .nilIface]) ∧ w.alloc (.cells #[.int .i64 s, .int .i64 r] 49) = w' := by
  go_enter Try.func16, Try.ntmps16
  go_wp2
  go_ret2
  exact ⟨rfl, rfl⟩

theorem new_bad (s r : Int) (w : World) (h : ¬ (0 ≤ s ∧ s ≤ 1125899906842624 ∧ -200 ≤ r ∧ r ≤ 200)) :
    Calls Try.prog 16 #[.int .i64 s, .int .i64 r] w fun e w' => e = .returned (.tuple #[.pointer none, .iface 47 (.int .i64 2)]) ∧ w = w' := by
  by_cases h1 : s < 0
  · go_enter Try.func16, Try.ntmps16
    go_wp2
    go_ret2
    exact ⟨rfl, rfl⟩
  · by_cases h2 : 1125899906842624 < s
    · go_enter Try.func16, Try.ntmps16
      go_wp2
      go_ret2
      exact ⟨rfl, rfl⟩
    · by_cases h3 : r < -200
      · go_enter Try.func16, Try.ntmps16
        go_wp2
        go_ret2
        exact ⟨rfl, rfl⟩
      · have h4 : 200 < r := by omega
        go_enter Try.func16, Try.ntmps16
        go_wp2
        go_ret2
        exact ⟨rfl, rfl⟩

theorem mul_bounds (d r : Int) (h1 : -1099511627776 ≤ d) (h2 : d ≤ 1099511627776) (h3 : -200 ≤ r) (h4 : r ≤ 200) : -4611686018427387904 < d * (1000000 + r) ∧ d * (1000000 + r) < 4611686018427387904 := by
  have e : d * (1000000 + r) = d * 1000000 + d * r := by rw [Int.mul_add]
  have b1 : -(1099511627776 * 200) ≤ d * r := by
    have := Int.natAbs_mul d r
    have h := Nat.mul_le_mul (show d.natAbs ≤ 1099511627776 by omega) (show r.natAbs ≤ 200 by omega)
    omega
  have b2 : d * r ≤ 1099511627776 * 200 := by
    have := Int.natAbs_mul d r
    have h := Nat.mul_le_mul (show d.natAbs ≤ 1099511627776 by omega) (show r.natAbs ≤ 200 by omega)
    omega
  omega

theorem local_any (g : Nat) (s r t : Int) (w : World) (hc0 : w.cell? ⟨g, 0, none⟩ = some (.int .i64 s)) (hc1 : w.cell? ⟨g, 1, none⟩ = some (.int .i64 r))
    (h1 : -1099511627776 ≤ t - s) (h2 : t - s ≤ 1099511627776) (h3 : -200 ≤ r) (h4 : r ≤ 200) :
    Calls Try.prog 17 #[.pointer (some ⟨g, 0, none⟩), .int .i64 t] w fun e w' => e = .returned (.int .i64 ((t - s) * (1000000 + r) / 1000000)) ∧ ∃ n, w.drewN n = w' := by
  obtain ⟨b1, b2⟩ := mul_bounds (t - s) r h1 h2 h3 h4
  have e1 := IntWalk.i64_in (t - s) (by omega)
  have e2 := IntWalk.i64_in (1000000 + r) (by omega)
  have e3 := IntWalk.i64_in ((t - s) * (1000000 + r)) (by omega)
  have hf := fun W => floor_any ((t - s) * (1000000 + r)) 1000000 W (by omega) (by omega) (by omega) (by omega)
  go_enter Try.func17, Try.ntmps17
  go_wp2
  go_quiet ((go_at_call 31; exact quiet_eq (hf _)))
  go_wp2
  go_ret
  exact ⟨rfl, _, rfl⟩

theorem real_any (g : Nat) (s r l : Int) (w : World) (hc0 : w.cell? ⟨g, 0, none⟩ = some (.int .i64 s)) (hc1 : w.cell? ⟨g, 1, none⟩ = some (.int .i64 r))
    (h1 : -1099511627776 ≤ l) (h2 : l ≤ 1099511627776) (h3 : -200 ≤ r) (h4 : r ≤ 200) (h5 : 0 ≤ s) (h6 : s ≤ 2251799813685248) :
    Calls Try.prog 18 #[.pointer (some ⟨g, 0, none⟩), .int .i64 l] w fun e w' => e = .returned (.int .i64 (s - -l * 1000000 / (1000000 + r))) ∧ ∃ n, w.drewN n = w' := by
  have e1 := IntWalk.i64_in (-l) (by omega)
  have e2 := IntWalk.i64_in (1000000 + r) (by omega)
  have e3 := IntWalk.i64_in (-l * 1000000) (by omega)
  have hq : -1099511627777000000 ≤ -l * 1000000 / (1000000 + r) ∧ -l * 1000000 / (1000000 + r) ≤ 1099511627777000000 := by
    have hm := Int.mul_ediv_add_emod (-l * 1000000) (1000000 + r)
    have l1 := Int.emod_nonneg (-l * 1000000) (show 1000000 + r ≠ 0 by omega)
    have l2 := Int.emod_lt_of_pos (-l * 1000000) (show 0 < 1000000 + r by omega)
    constructor
    · refine (Int.le_ediv_iff_mul_le (by omega)).2 ?_
      have : -1099511627777000000 * (1000000 + r) = -1099511627777000000 * 1000000 + -1099511627777000000 * r := by rw [Int.mul_add]
      omega
    · refine Int.le_of_lt_add_one ((Int.ediv_lt_iff_lt_mul (by omega)).2 ?_)
      have : (1099511627777000000 + 1) * (1000000 + r) = (1099511627777000000 + 1) * 1000000 + (1099511627777000000 + 1) * r := by rw [Int.mul_add]
      omega
  have e4 := IntWalk.i64_in (s - -l * 1000000 / (1000000 + r)) (by omega)
  have hf := fun W => floor_any (-l * 1000000) (1000000 + r) W (by omega) (by omega) (by omega) (by omega)
  clear hq h5 h6
  go_enter Try.func18, Try.ntmps18
  go_wp2
  go_quiet ((go_at_call 31; exact quiet_eq (hf _)))
  go_wp2
  go_ret
  exact ⟨rfl, _, rfl⟩

theorem since_any (g : Nat) (s : Int) (w : World) (hc0 : w.cell? ⟨g, 0, none⟩ = some (.int .i64 s)) :
    Calls Try.prog 23 #[.pointer (some ⟨g, 0, none⟩)] w fun e w' => e = .returned (.int .i64 s) ∧ w = w' := by
  go_enter Try.func23, Try.ntmps23
  go_wp2
  go_ret
  exact ⟨rfl, rfl⟩

theorem local_nil (t : Int) (w : World) : Calls Try.prog 17 #[.pointer none, .int .i64 t] w fun e w' => e = .returned (.int .i64 0) ∧ w = w' := by
  go_enter Try.func17, Try.ntmps17
  go_wp2
  go_ret
  exact ⟨rfl, rfl⟩

theorem real_nil (t : Int) (w : World) : Calls Try.prog 18 #[.pointer none, .int .i64 t] w fun e w' => e = .returned (.int .i64 0) ∧ w = w' := by
  go_enter Try.func18, Try.ntmps18
  go_wp2
  go_ret
  exact ⟨rfl, rfl⟩

theorem since_nil (w : World) : Calls Try.prog 23 #[.pointer none] w fun e w' => e = .returned (.int .i64 0) ∧ w = w' := by
  go_enter Try.func23, Try.ntmps23
  go_wp2
  go_ret
  exact ⟨rfl, rfl⟩

theorem lawful_any (s r : Int) (w : World) :
    Calls Try.prog 14 #[.int .i64 s, .int .i64 r] w fun e w' => e = .returned (.bool (decide (0 ≤ s ∧ s ≤ 1125899906842624 ∧ -200 ≤ r ∧ r ≤ 200))) ∧ w = w' := by
  by_cases h1 : 0 ≤ s
  · by_cases h2 : s ≤ 1125899906842624
    · by_cases h3 : -200 ≤ r
      · have e : decide (0 ≤ s ∧ s ≤ 1125899906842624 ∧ -200 ≤ r ∧ r ≤ 200) = decide (r ≤ 200) := by simp [h1, h2, h3]
        rw [e]; clear e
        go_enter Try.func14, Try.ntmps14
        go_wp2
        go_ret
        exact ⟨rfl, rfl⟩
      · rw [decide_eq_false (by omega)]
        go_enter Try.func14, Try.ntmps14
        go_wp2
        go_ret
        exact ⟨rfl, rfl⟩
    · rw [decide_eq_false (by omega)]
      go_enter Try.func14, Try.ntmps14
      go_wp2
      go_ret
      exact ⟨rfl, rfl⟩
  · rw [decide_eq_false (by omega)]
    go_enter Try.func14, Try.ntmps14
    go_wp2
    go_ret
    exact ⟨rfl, rfl⟩

theorem near_any (t : Int) (w : World) :
    Calls Try.prog 15 #[.int .i64 t] w fun e w' => e = .returned (.int .i64 (Int.tmod t 549755813888)) ∧ w = w' := by
  go_enter Try.func15, Try.ntmps15
  go_wp2
  go_ret
  exact ⟨rfl, rfl⟩

theorem near_bounds (t : Int) : -549755813888 < Int.tmod t 549755813888 ∧ Int.tmod t 549755813888 < 549755813888 := by
  have h1 := Int.tmod_lt_of_pos t (show (0 : Int) < 549755813888 by decide)
  have h2 := Int.lt_tmod_of_pos t (show (0 : Int) < 549755813888 by decide)
  omega

theorem awake_any (w : World) :
    Calls Try.prog 13 #[] w fun e w' => e = .returned (.bool true) ∧ Below w.heap.size w w' := by
  go_enter Try.func13, Try.ntmps13
  go_wp2_with (first | (go_at_call 16; refine (new_ok _ _ _ (by decide) (by decide) (by decide) (by decide)).mono ?_; rintro e w' ⟨rfl, rfl⟩) | (go_at_call 17; refine (local_any w.heap.size 100 200 _ _ (by simp [go_sem]) (by simp [go_sem]) (by decide) (by decide) (by decide) (by decide)).mono ?_; rintro e w' ⟨rfl, n, rfl⟩) | (go_at_call 18; refine (real_any w.heap.size 100 200 _ _ (by simp [go_sem]) (by simp [go_sem]) (by decide) (by decide) (by decide) (by decide) (by decide) (by decide)).mono ?_; rintro e w' ⟨rfl, n, rfl⟩))
  go_ret
  exact ⟨rfl, by repeat (first | exact Below.refl _ _ | apply below_drewN' | refine Below.alloc ?_ (Nat.le_refl _) _)⟩

/-- 'local_any', 'real_any', 'near_any' with names for what they answer. -/
theorem local_at (g : Nat) (s r t q : Int) (w : World) (hc0 : w.cell? ⟨g, 0, none⟩ = some (.int .i64 s)) (hc1 : w.cell? ⟨g, 1, none⟩ = some (.int .i64 r))
    (h1 : -1099511627776 ≤ t - s) (h2 : t - s ≤ 1099511627776) (h3 : -200 ≤ r) (h4 : r ≤ 200) (hq : (t - s) * (1000000 + r) / 1000000 = q) :
    Calls Try.prog 17 #[.pointer (some ⟨g, 0, none⟩), .int .i64 t] w fun e w' => e = .returned (.int .i64 q) ∧ ∃ n, w.drewN n = w' := by
  subst hq; exact local_any g s r t w hc0 hc1 h1 h2 h3 h4

theorem real_at (g : Nat) (s r l q : Int) (w : World) (hc0 : w.cell? ⟨g, 0, none⟩ = some (.int .i64 s)) (hc1 : w.cell? ⟨g, 1, none⟩ = some (.int .i64 r))
    (h1 : -1099511627776 ≤ l) (h2 : l ≤ 1099511627776) (h3 : -200 ≤ r) (h4 : r ≤ 200) (h5 : 0 ≤ s) (h6 : s ≤ 2251799813685248) (hq : s - -l * 1000000 / (1000000 + r) = q) :
    Calls Try.prog 18 #[.pointer (some ⟨g, 0, none⟩), .int .i64 l] w fun e w' => e = .returned (.int .i64 q) ∧ ∃ n, w.drewN n = w' := by
  subst hq; exact real_any g s r l w hc0 hc1 h1 h2 h3 h4 h5 h6

theorem near_at (t q : Int) (w : World) (hq : Int.tmod t 549755813888 = q) :
    Calls Try.prog 15 #[.int .i64 t] w fun e w' => e = .returned (.int .i64 q) ∧ w = w' := by
  subst hq; exact near_any t w

/-- May there be such a clock? -/
def Lawful (s r : Int) : Prop := 0 ≤ s ∧ s ≤ 1125899906842624 ∧ -200 ≤ r ∧ r ≤ 200

theorem lawful_yes {s r : Int} (w : World) (h : Lawful s r) : Calls Try.prog 14 #[.int .i64 s, .int .i64 r] w fun e w' => e = .returned (.bool true) ∧ w = w' :=
  (lawful_any s r w).mono fun e w' h2 => by rw [decide_eq_true (show 0 ≤ s ∧ s ≤ 1125899906842624 ∧ -200 ≤ r ∧ r ≤ 200 from h)] at h2; exact h2

theorem lawful_no {s r : Int} (w : World) (h : ¬ Lawful s r) : Calls Try.prog 14 #[.int .i64 s, .int .i64 r] w fun e w' => e = .returned (.bool false) ∧ w = w' :=
  (lawful_any s r w).mono fun e w' h2 => by rw [decide_eq_false (show ¬ (0 ≤ s ∧ s ≤ 1125899906842624 ∧ -200 ≤ r ∧ r ≤ 200) from h)] at h2; exact h2

theorem q_bounds (u r : Int) (h0 : -549755813888 < u) (h1 : u < 549755813888) (h3 : -200 ≤ r) (h4 : r ≤ 200) : -1099511627776 < u * (1000000 + r) / 1000000 ∧ u * (1000000 + r) / 1000000 < 1099511627776 := by
  have e : u * (1000000 + r) = u * 1000000 + u * r := by rw [Int.mul_add]
  have hm := Int.natAbs_mul u r
  have h := Nat.mul_le_mul (show u.natAbs ≤ 549755813888 by omega) (show r.natAbs ≤ 200 by omega)
  rw [e]
  omega

theorem new_some (s r : Int) (w : World) :
    Calls Try.prog 16 #[.int .i64 s, .int .i64 r] w fun e w' => ∃ p q, e = .returned (.tuple #[p, q]) ∧ Below w.heap.size w w' := by
  by_cases h : 0 ≤ s ∧ s ≤ 1125899906842624 ∧ -200 ≤ r ∧ r ≤ 200
  · exact (new_ok s r w h.1 h.2.1 h.2.2.1 h.2.2.2).mono fun e w' ⟨h1, h2⟩ => ⟨_, _, h1, by subst h2; exact (Below.refl _ _).alloc (Nat.le_refl _) _⟩
  · exact (new_bad s r w h).mono fun e w' ⟨h1, h2⟩ => ⟨_, _, h1, by subst h2; exact Below.refl _ _⟩

theorem new_yes {s r : Int} (w : World) (h : Lawful s r) :
    Calls Try.prog 16 #[.int .i64 s, .int .i64 r] w fun e w' => e = .returned (.tuple #[.pointer (some ⟨w.heap.size, 0, none⟩), .nilIface]) ∧ w.alloc (.cells #[.int .i64 s, .int .i64 r] 49) = w' :=
  new_ok s r w h.1 h.2.1 h.2.2.1 h.2.2.2

theorem new_no {s r : Int} (w : World) (h : ¬ Lawful s r) :
    Calls Try.prog 16 #[.int .i64 s, .int .i64 r] w fun e w' => e = .returned (.tuple #[.pointer none, .iface 47 (.int .i64 2)]) ∧ w = w' := new_bad s r w h

theorem r_bounds (v r : Int) (h0 : -549755813888 < v) (h1 : v < 549755813888) (h3 : -200 ≤ r) (h4 : r ≤ 200) : -1099511627776 ≤ -v * 1000000 / (1000000 + r) ∧ -v * 1000000 / (1000000 + r) ≤ 1099511627776 := by
  constructor
  · refine (Int.le_ediv_iff_mul_le (by omega)).2 ?_
    have : -1099511627776 * (1000000 + r) = -1099511627776 * 1000000 + -1099511627776 * r := by rw [Int.mul_add]
    omega
  · refine Int.le_of_lt_add_one ((Int.ediv_lt_iff_lt_mul (by omega)).2 ?_)
    have : (1099511627776 + 1) * (1000000 + r) = (1099511627776 + 1) * 1000000 + (1099511627776 + 1) * r := by rw [Int.mul_add]
    omega


theorem tdiv_exact (a b : Int) (hb : 1 ≤ b) : Int.tdiv (a - a % b) b = a / b := by
  have h : a - a % b = b * (a / b) := by have := Int.mul_ediv_add_emod a b; omega
  rw [h, Int.mul_tdiv_cancel_left _ (by omega)]

theorem down_any (a b : Int) (w : World) (ha : -4611686018427387904 < a) (ha' : a < 4611686018427387904) (hb : 1 ≤ b) (hb' : b ≤ 2000000) :
    Calls Try.prog 35 #[.int .i64 a, .int .i64 b] w fun e w' => e = .returned (.int .i64 (a / b)) ∧ w = w' := by
  have hb0 : (b == 0) = false := by simp; omega
  have l1 := Int.emod_nonneg a (show b ≠ 0 by omega)
  have l2 := Int.emod_lt_of_pos a (show 0 < b by omega)
  have e0 := tdiv_exact a b hb
  have hq := tdiv_le (a - a % b) b
  rw [e0] at hq
  have hq1 : -9223372036854775808 ≤ a / b ∧ a / b ≤ 9223372036854775807 := by split at hq <;> omega
  clear hq
  have hm : Int.tmod a b = a % b - ((if 0 ≤ a ∨ b ∣ a then 0 else b.natAbs : Nat) : Int) := Int.tmod_eq_emod
  by_cases h : Int.tmod a b < 0
  · have hr : Int.tmod a b + b = a % b := by split at hm <;> omega
    have hr2 : -2000000 ≤ Int.tmod a b := by omega
    have HR := Hidd.mk hr
    have h1 : Int.tdiv (a - (Int.tmod a b + b)) b = a / b := by rw [hr, e0]
    clear hm e0 hr l1 l2
    go_enter Try.func35, Try.ntmps35
    go_wp2
    go_ret
    exact ⟨rfl, rfl⟩
  · have hr : Int.tmod a b = a % b := by split at hm <;> omega
    have hr2 : Int.tmod a b ≤ 2000000 := by omega
    have h1 : Int.tdiv (a - Int.tmod a b) b = a / b := by rw [hr, e0]
    clear hm e0 hr l1 l2
    go_enter Try.func35, Try.ntmps35
    go_wp2
    go_ret
    exact ⟨rfl, rfl⟩

theorem refLocal_at (s r t q : Int) (w : World) (h1 : -1099511627776 ≤ t - s) (h2 : t - s ≤ 1099511627776) (h3 : -200 ≤ r) (h4 : r ≤ 200) (hq : (t - s) * (1000000 + r) / 1000000 = q) :
    Calls Try.prog 24 #[.int .i64 s, .int .i64 r, .int .i64 t] w fun e w' => e = .returned (.int .i64 q) ∧ w = w' := by
  obtain ⟨b1, b2⟩ := mul_bounds (t - s) r h1 h2 h3 h4
  have HQ := Hidd.mk hq
  clear hq
  go_enter Try.func24, Try.ntmps24
  go_wp2_with (go_at_call 35; refine (down_any _ _ _ (by omega) (by omega) (by omega) (by omega)).mono ?_; rintro e w' ⟨rfl, rfl⟩)
  go_ret
  exact ⟨ret_int HQ.out, rfl⟩

theorem refReal_at (s r l z : Int) (w : World) (h1 : -549755813888 < l) (h2 : l < 549755813888) (h3 : -200 ≤ r) (h4 : r ≤ 200) (h5 : 0 ≤ s) (h6 : s ≤ 2251799813685248) (hz : -l * 1000000 / (1000000 + r) = z) :
    Calls Try.prog 25 #[.int .i64 s, .int .i64 r, .int .i64 l] w fun e w' => e = .returned (.int .i64 (s - z)) ∧ w = w' := by
  have qr := r_bounds l r h1 h2 h3 h4
  rw [hz] at qr
  have HZ := Hidd.mk (show -(l * 1000000) / (1000000 + r) = z by rw [← Int.neg_mul]; exact hz)
  clear hz
  go_enter Try.func25, Try.ntmps25
  go_wp2_with (go_at_call 35; refine (down_any _ _ _ (by omega) (by omega) (by omega) (by omega)).mono ?_; rw [HZ.out]; rintro e w' ⟨rfl, rfl⟩)
  go_ret
  exact ⟨rfl, rfl⟩

theorem clockShows_walk (s r t : Int) (w : World) (hs : (Lit.int .i64 s).wf = true) (_ : (Lit.int .i64 r).wf = true) (_ : (Lit.int .i64 t).wf = true) :
    Calls Try.prog 6 #[.int .i64 s, .int .i64 r, .int .i64 t] w fun e w' => e = .returned (.bool true) ∧ Below w.heap.size w w' := by
  by_cases l1 : Lawful s r
  · obtain ⟨s1, s2, a1, a2⟩ := l1
    have L1 := Hidd.mk (show Lawful s r from ⟨s1, s2, a1, a2⟩)
    have nb := near_bounds t
    obtain ⟨v, hv⟩ : ∃ v, Int.tmod t 549755813888 = v := ⟨_, rfl⟩
    rw [hv] at nb
    obtain ⟨v1, v2⟩ := nb
    have HV := Hidd.mk hv; clear hv
    obtain ⟨x, hx⟩ : ∃ x, v * (1000000 + r) / 1000000 = x := ⟨_, rfl⟩
    have HX := Hidd.mk hx; clear hx
    obtain ⟨z, hz⟩ : ∃ z, -v * 1000000 / (1000000 + r) = z := ⟨_, rfl⟩
    have HZ := Hidd.mk hz; clear hz
    go_enter Try.func6, Try.ntmps6
    go_wp2_with (first | (go_at_call 13; refine (awake_any _).mono ?_; rintro e w1 ⟨rfl, hb⟩) | (go_at_call 16; (with_reducible refine (new_yes _ L1.out).mono ?_); rintro e w' ⟨rfl, rfl⟩) | (go_at_call 14; (with_reducible refine (lawful_yes _ L1.out).mono ?_); rintro e w' ⟨rfl, rfl⟩) | (go_at_call 15; refine (near_at _ _ _ HV.out).mono ?_; rintro e w' ⟨rfl, rfl⟩) | (go_at_call 23; refine (since_any w1.heap.size s _ (by simp [go_sem])).mono ?_; rintro e w' ⟨rfl, rfl⟩) | (go_at_call 17; refine (local_at (w1.heap.size) s r _ x _ (by simp [go_sem]) (by simp [go_sem]) (by omega) (by omega) (by omega) (by omega) (by rw [← HX.out]; congr 2; omega)).mono ?_; rintro e w' ⟨rfl, n, rfl⟩) | (go_at_call 18; refine (real_at (w1.heap.size) s r _ (s - z) _ (by simp [go_sem]) (by simp [go_sem]) (by omega) (by omega) (by omega) (by omega) (by omega) (by omega) (by rw [← HZ.out])).mono ?_; rintro e w' ⟨rfl, n2, rfl⟩) | (go_at_call 24; refine (refLocal_at s r _ x _ (by omega) (by omega) (by omega) (by omega) (by rw [← HX.out]; congr 2; omega)).mono ?_; rintro e w' ⟨rfl, rfl⟩) | (go_at_call 25; refine (refReal_at s r _ z _ (by omega) (by omega) (by omega) (by omega) (by omega) (by omega) HZ.out).mono ?_; rintro e w' ⟨rfl, rfl⟩))
    go_ret
    exact ⟨ret_true (by simp), below_drewN' _ (below_alloc hb _)⟩
  · have he : ∀ W : World, IsErr W [] (some 2) (.iface 47 (.int .i64 2)) := fun W => rfl
    go_enter Try.func6, Try.ntmps6
    go_wp2_with (first | (go_at_call 13; refine (awake_any _).mono ?_; rintro e w1 ⟨rfl, hb⟩) | (go_at_call 16; (with_reducible refine (new_no _ l1).mono ?_); rintro e w' ⟨rfl, rfl⟩) | (go_at_call 14; (with_reducible refine (lawful_no _ l1).mono ?_); rintro e w' ⟨rfl, rfl⟩) | (go_at_call 21; refine (read_any [] (some 2) _ _ (he _) ⟨by decide, by simp, by simp⟩).mono ?_; rintro e w2 ⟨rfl, hb2⟩) | (go_at_call 22; refine (e_any 2 _ (by decide) (by decide)).mono ?_; rintro e w3 ⟨rfl, hb3⟩))
    go_ret
    exact ⟨ret_true (by simp [errB]), below_then (below_then hb hb2) hb3⟩

end Go.Proofs.Ytgdponkeceonkaa
