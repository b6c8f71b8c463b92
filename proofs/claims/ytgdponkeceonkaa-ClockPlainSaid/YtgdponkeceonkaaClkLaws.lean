/- The walks of the laws ClockParts, ClockPlain, ClockNil: each answers true, whatever it is given. -/
import Derived.Test.YtgdponkeceonkaaClk
namespace Go.Proofs.Ytgdponkeceonkaa
open Go.RowKit

theorem awake_call {w : World} : Calls Try.prog 13 #[] w fun e w' => e = .returned (.bool true) ∧ Below w.heap.size w w' := awake_any w

theorem clockNil_calls (t : Int) (w : World) :
    Calls Try.prog 7 #[.int .i64 t] w fun e w' => e = .returned (.bool true) ∧ Below w.heap.size w w' := by
  go_enter Try.func7, Try.ntmps7
  go_wp2_with (first | (go_at_call 13; refine (awake_any _).mono ?_; rintro e w' ⟨rfl, hb⟩) | (go_at_call 17; refine (local_nil _ _).mono ?_; rintro e w' ⟨rfl, rfl⟩) | (go_at_call 18; refine (real_nil _ _).mono ?_; rintro e w' ⟨rfl, rfl⟩) | (go_at_call 23; refine (since_nil _).mono ?_; rintro e w' ⟨rfl, rfl⟩))
  go_ret
  exact ⟨rfl, hb⟩

theorem parts_law (t a b : Int) (h0 : 0 ≤ t) (h1 : t < 549755813888) (ha : -200 ≤ a) (ha' : a ≤ 200) (hb : -200 ≤ b) (hb' : b ≤ 200) :
    t * (1000000 + a) / 1000000 - t * (1000000 + b) / 1000000 - Int.tdiv ((a - b) * t) 1000000 ≤ 2 ∧
    Int.tdiv ((a - b) * t) 1000000 - (t * (1000000 + a) / 1000000 - t * (1000000 + b) / 1000000) ≤ 2 := by
  have e1 : t * (1000000 + a) = t * 1000000 + t * a := by rw [Int.mul_add]
  have e2 : t * (1000000 + b) = t * 1000000 + t * b := by rw [Int.mul_add]
  have e3 : (a - b) * t = t * a - t * b := by rw [Int.sub_mul, Int.mul_comm a, Int.mul_comm b]
  rw [e1, e2, e3]
  generalize t * a = x
  generalize t * b = y
  have := tdiv_floor (x - y) 1000000 (by decide)
  split at this
  · omega
  · split at this <;> omega

/-- A time near to a clock's beginning, without its sign. -/
theorem abs_near (t : Int) : ∃ u, u = (if Int.tmod t 549755813888 < 0 then -Int.tmod t 549755813888 else Int.tmod t 549755813888) ∧ 0 ≤ u ∧ u < 549755813888 := by
  have h := near_bounds t
  exact ⟨_, rfl, by split <;> omega, by split <;> omega⟩

/-- A fact that is kept from the walk. -/
structure Hidd (p : Prop) : Prop where mk :: (out : p)

/-- May there be such a clock? -/
def Lawful (s r : Int) : Prop := 0 ≤ s ∧ s ≤ 1125899906842624 ∧ -200 ≤ r ∧ r ≤ 200

theorem lawful_yes {s r : Int} (w : World) (h : Lawful s r) : Calls Try.prog 14 #[.int .i64 s, .int .i64 r] w fun e w' => e = .returned (.bool true) ∧ w = w' :=
  (lawful_any s r w).mono fun e w' h2 => by rw [decide_eq_true (show 0 ≤ s ∧ s ≤ 1125899906842624 ∧ -200 ≤ r ∧ r ≤ 200 from h)] at h2; exact h2

theorem lawful_no {s r : Int} (w : World) (h : ¬ Lawful s r) : Calls Try.prog 14 #[.int .i64 s, .int .i64 r] w fun e w' => e = .returned (.bool false) ∧ w = w' :=
  (lawful_any s r w).mono fun e w' h2 => by rw [decide_eq_false (show ¬ (0 ≤ s ∧ s ≤ 1125899906842624 ∧ -200 ≤ r ∧ r ≤ 200) from h)] at h2; exact h2

theorem ret_true {b : Bool} (h : b = true) : Ending.returned (.bool b) = .returned (.bool true) := by rw [h]

theorem q_bounds (u r : Int) (h0 : -549755813888 < u) (h1 : u < 549755813888) (h3 : -200 ≤ r) (h4 : r ≤ 200) : -1099511627776 < u * (1000000 + r) / 1000000 ∧ u * (1000000 + r) / 1000000 < 1099511627776 := by
  have e : u * (1000000 + r) = u * 1000000 + u * r := by rw [Int.mul_add]
  have hm := Int.natAbs_mul u r
  have h := Nat.mul_le_mul (show u.natAbs ≤ 549755813888 by omega) (show r.natAbs ≤ 200 by omega)
  rw [e]
  omega

theorem m_bounds (u d : Int) (h0 : -549755813888 < u) (h1 : u < 549755813888) (h3 : -400 ≤ d) (h4 : d ≤ 400) : -219902325555200 ≤ d * u ∧ d * u ≤ 219902325555200 ∧ -219902325555200 ≤ Int.tdiv (d * u) 1000000 ∧ Int.tdiv (d * u) 1000000 ≤ 219902325555200 := by
  have hm := Int.natAbs_mul d u
  have h := Nat.mul_le_mul (show d.natAbs ≤ 400 by omega) (show u.natAbs ≤ 549755813888 by omega)
  have hq := tdiv_le (d * u) 1000000
  split at hq <;> omega

theorem clockParts_calls (s a b t : Int) (w : World) :
    Calls Try.prog 3 #[.int .i64 s, .int .i64 a, .int .i64 b, .int .i64 t] w fun e w' => e = .returned (.bool true) ∧ Below w.heap.size w w' := by
  by_cases l1 : Lawful s a
  · by_cases l2 : Lawful s b
    · obtain ⟨s1, s2, a1, a2⟩ := l1
      obtain ⟨_, _, b1, b2⟩ := l2
      have nb := near_bounds t
      have L1 := Hidd.mk (show Lawful s a from ⟨s1, s2, a1, a2⟩)
      have L2 := Hidd.mk (show Lawful s b from ⟨s1, s2, b1, b2⟩)
      obtain ⟨v, hv⟩ : ∃ v, Int.tmod t 549755813888 = v := ⟨_, rfl⟩
      rw [hv] at nb
      have HV := Hidd.mk hv; clear hv
      obtain ⟨u, hu⟩ : ∃ u, u = if v < 0 then -v else v := ⟨_, rfl⟩
      have ub : 0 ≤ u ∧ u < 549755813888 := by rw [hu]; split <;> omega
      obtain ⟨u1, u2⟩ := ub
      have law := parts_law u a b u1 u2 a1 a2 b1 b2
      have qa := q_bounds u a (by omega) u2 a1 a2
      have qb := q_bounds u b (by omega) u2 b1 b2
      have qm := m_bounds u (a - b) (by omega) u2 (by omega) (by omega)
      have ga : ∃ x, u * (1000000 + a) / 1000000 = x := ⟨_, rfl⟩
      have gb : ∃ x, u * (1000000 + b) / 1000000 = x := ⟨_, rfl⟩
      obtain ⟨x, hx⟩ := ga
      obtain ⟨y, hy⟩ := gb
      rw [hx, hy] at law
      rw [hx] at qa
      rw [hy] at qb
      have HX := Hidd.mk hx; clear hx
      have HY := Hidd.mk hy; clear hy
      by_cases h : v < 0
      · rw [if_pos h] at hu
        have HU := Hidd.mk hu
        obtain rfl : v = -u := by omega
        clear hu
        go_enter Try.func3, Try.ntmps3
        go_wp2_with (first | (go_at_call 13; refine (awake_any _).mono ?_; rintro e w1 ⟨rfl, hb⟩) | (go_at_call 14; first | ((with_reducible refine (lawful_yes _ L1.out).mono ?_); rintro e w' ⟨rfl, rfl⟩) | ((with_reducible refine (lawful_yes _ L2.out).mono ?_); rintro e w' ⟨rfl, rfl⟩)) | (go_at_call 15; refine (near_at _ _ _ HV.out).mono ?_; rintro e w' ⟨rfl, rfl⟩) | (go_at_call 16; refine (new_ok _ _ _ (by omega) (by omega) (by omega) (by omega)).mono ?_; rintro e w' ⟨rfl, rfl⟩) | (go_at_call 17; (with_reducible refine (local_at w1.heap.size s a _ x _ (by simp [go_sem]) (by simp [go_sem]) (by omega) (by omega) (by omega) (by omega) (by rw [← HX.out]; congr 2; omega)).mono ?_); rintro e w' ⟨rfl, n, rfl⟩) | (go_at_call 17; (with_reducible refine (local_at (w1.heap.size + 1) s b _ y _ (by simp [go_sem]) (by simp [go_sem]) (by omega) (by omega) (by omega) (by omega) (by rw [← HY.out]; congr 2; omega)).mono ?_); rintro e w' ⟨rfl, n, rfl⟩))
        go_ret
        exact ⟨ret_true (by simp), below_drewN' _ ((hb.alloc hb.size _).alloc (Nat.le_trans hb.size (by simp)) _)⟩
      · rw [if_neg h] at hu
        subst hu
        go_enter Try.func3, Try.ntmps3
        go_wp2_with (first | (go_at_call 13; refine (awake_any _).mono ?_; rintro e w1 ⟨rfl, hb⟩) | (go_at_call 14; first | ((with_reducible refine (lawful_yes _ L1.out).mono ?_); rintro e w' ⟨rfl, rfl⟩) | ((with_reducible refine (lawful_yes _ L2.out).mono ?_); rintro e w' ⟨rfl, rfl⟩)) | (go_at_call 15; refine (near_at _ _ _ HV.out).mono ?_; rintro e w' ⟨rfl, rfl⟩) | (go_at_call 16; refine (new_ok _ _ _ (by omega) (by omega) (by omega) (by omega)).mono ?_; rintro e w' ⟨rfl, rfl⟩) | (go_at_call 17; (with_reducible refine (local_at w1.heap.size s a _ x _ (by simp [go_sem]) (by simp [go_sem]) (by omega) (by omega) (by omega) (by omega) (by rw [← HX.out]; congr 2; omega)).mono ?_); rintro e w' ⟨rfl, n, rfl⟩) | (go_at_call 17; (with_reducible refine (local_at (w1.heap.size + 1) s b _ y _ (by simp [go_sem]) (by simp [go_sem]) (by omega) (by omega) (by omega) (by omega) (by rw [← HY.out]; congr 2; omega)).mono ?_); rintro e w' ⟨rfl, n, rfl⟩))
        go_ret
        exact ⟨ret_true (by simp), below_drewN' _ ((hb.alloc hb.size _).alloc (Nat.le_trans hb.size (by simp)) _)⟩
    · go_enter Try.func3, Try.ntmps3
      go_wp2_with (first | (go_at_call 13; refine (awake_any _).mono ?_; rintro e w' ⟨rfl, hb⟩) | (go_at_call 14; first | ((with_reducible refine (lawful_yes _ l1).mono ?_); rintro e w' ⟨rfl, rfl⟩) | ((with_reducible refine (lawful_no _ l2).mono ?_); rintro e w' ⟨rfl, rfl⟩)))
      go_ret
      exact ⟨rfl, hb⟩
  · go_enter Try.func3, Try.ntmps3
    go_wp2_with (first | (go_at_call 13; refine (awake_any _).mono ?_; rintro e w' ⟨rfl, hb⟩) | (go_at_call 14; refine (lawful_no _ l1).mono ?_; rintro e w' ⟨rfl, rfl⟩))
    go_ret
    exact ⟨rfl, hb⟩

theorem clockNil_walk (t : Int) (w : World) (_ : (Lit.int .i64 t).wf = true) :
    Calls Try.prog 7 #[.int .i64 t] w fun e w' => e = .returned (.bool true) ∧ Below w.heap.size w w' := clockNil_calls t w

theorem clockParts_walk (s a b t : Int) (w : World) (_ : (Lit.int .i64 s).wf = true) (_ : (Lit.int .i64 a).wf = true) (_ : (Lit.int .i64 b).wf = true) (_ : (Lit.int .i64 t).wf = true) :
    Calls Try.prog 3 #[.int .i64 s, .int .i64 a, .int .i64 b, .int .i64 t] w fun e w' => e = .returned (.bool true) ∧ Below w.heap.size w w' := clockParts_calls s a b t w

end Go.Proofs.Ytgdponkeceonkaa
