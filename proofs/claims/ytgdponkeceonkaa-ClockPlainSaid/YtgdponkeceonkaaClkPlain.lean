/- The walk of the law ClockPlain: it answers true, whatever it is given. -/
import Derived.Test.YtgdponkeceonkaaClkLaws
namespace Go.Proofs.Ytgdponkeceonkaa
open Go.RowKit

theorem new_some (s r : Int) (w : World) :
    Calls Try.prog 16 #[.int .i64 s, .int .i64 r] w fun e w' => ∃ p q, e = .returned (.tuple #[p, q]) ∧ Below w.heap.size w w' := by
  by_cases h : 0 ≤ s ∧ s ≤ 1125899906842624 ∧ -200 ≤ r ∧ r ≤ 200
  · exact (new_ok s r w h.1 h.2.1 h.2.2.1 h.2.2.2).mono fun e w' ⟨h1, h2⟩ => ⟨_, _, h1, by subst h2; exact (Below.refl _ _).alloc (Nat.le_refl _) _⟩
  · exact (new_bad s r w h).mono fun e w' ⟨h1, h2⟩ => ⟨_, _, h1, by subst h2; exact Below.refl _ _⟩

theorem new_yes {s r : Int} (w : World) (h : Lawful s r) :
    Calls Try.prog 16 #[.int .i64 s, .int .i64 r] w fun e w' => e = .returned (.tuple #[.pointer (some ⟨w.heap.size, 0, none⟩), .nilIface]) ∧ w.alloc (.cells #[.int .i64 s, .int .i64 r] 49) = w' :=
  new_ok s r w h.1 h.2.1 h.2.2.1 h.2.2.2

theorem new_no {s r : Int} (w : World) (h : ¬ Lawful s r) :
    Calls Try.prog 16 #[.int .i64 s, .int .i64 r] w fun e w' => e = .returned (.tuple #[.pointer none, .iface 47 (.int .i64 2)]) ∧ w = w' := new_bad s r w h

theorem plain_real (s l : Int) : s - -l * 1000000 / (1000000 + 0) = s + l := by omega

theorem below2 {B : Nat} {w w1 w2 : World} (h : Below B w w1) (hB : B ≤ w1.heap.size) (k : Below w1.heap.size w1 w2) : Below B w w2 := h.trans (k.mono hB)

theorem r_bounds (v r : Int) (h0 : -549755813888 < v) (h1 : v < 549755813888) (h3 : -200 ≤ r) (h4 : r ≤ 200) : -1099511627776 ≤ -v * 1000000 / (1000000 + r) ∧ -v * 1000000 / (1000000 + r) ≤ 1099511627776 := by
  constructor
  · refine (Int.le_ediv_iff_mul_le (by omega)).2 ?_
    have : -1099511627776 * (1000000 + r) = -1099511627776 * 1000000 + -1099511627776 * r := by rw [Int.mul_add]
    omega
  · refine Int.le_of_lt_add_one ((Int.ediv_lt_iff_lt_mul (by omega)).2 ?_)
    have : (1099511627776 + 1) * (1000000 + r) = (1099511627776 + 1) * 1000000 + (1099511627776 + 1) * r := by rw [Int.mul_add]
    omega

theorem clockPlain_calls (s r t b : Int) (w : World) (hs : -9223372036854775808 ≤ s) (hs' : s ≤ 9223372036854775807) :
    Calls Try.prog 4 #[.int .i64 s, .int .i64 r, .int .i64 t, .int .i64 b] w fun e w' => e = .returned (.bool true) ∧ Below w.heap.size w w' := by
  obtain ⟨y, hy⟩ : ∃ y, (IntKind.u64.wrap b) % 1000000 = y := ⟨_, rfl⟩
  have y1 : 0 ≤ y := by omega
  have y2 : y < 1000000 := by omega
  have hw0 : 0 ≤ IntKind.u64.wrap b := by rw [IntKind.wrap]; simp only [IntKind.signed, IntKind.bits]; exact Int.emod_nonneg _ (by decide)
  by_cases l1 : Lawful s r
  · have l0 : Lawful s 0 := ⟨l1.1, l1.2.1, by decide, by decide⟩
    by_cases l2 : Lawful (s + y) r
    · obtain ⟨s1, s2, a1, a2⟩ := l1
      obtain ⟨_, s4, _, _⟩ := l2
      have L0 := Hidd.mk l0
      clear l0
      have L1 := Hidd.mk (show Lawful s r from ⟨s1, s2, a1, a2⟩)
      have L2 := Hidd.mk (show Lawful (s + y) r from ⟨by omega, s4, a1, a2⟩)
      have nb := near_bounds t
      obtain ⟨v, hv⟩ : ∃ v, Int.tmod t 549755813888 = v := ⟨_, rfl⟩
      rw [hv] at nb
      obtain ⟨v1, v2⟩ := nb
      have HV := Hidd.mk hv; clear hv
      have qa := q_bounds v r v1 v2 a1 a2
      obtain ⟨x, hx⟩ : ∃ x, v * (1000000 + r) / 1000000 = x := ⟨_, rfl⟩
      rw [hx] at qa
      have HX := Hidd.mk hx; clear hx
      have qr := r_bounds v r v1 v2 a1 a2
      obtain ⟨z, hz⟩ : ∃ z, -v * 1000000 / (1000000 + r) = z := ⟨_, rfl⟩
      rw [hz] at qr
      have HZ := Hidd.mk hz; clear hz
      go_enter Try.func4, Try.ntmps4
      go_wp2_with (first | (go_at_call 13; refine (awake_any _).mono ?_; rintro e w1 ⟨rfl, hb⟩) | (go_at_call 15; refine (near_at _ _ _ HV.out).mono ?_; rintro e w' ⟨rfl, rfl⟩) | (go_at_call 16; first | ((with_reducible refine (new_yes _ L1.out).mono ?_); rintro e w' ⟨rfl, rfl⟩) | ((with_reducible refine (new_yes _ L2.out).mono ?_); rintro e w2 ⟨rfl, rfl⟩) | ((with_reducible refine (new_yes _ L0.out).mono ?_); rintro e w' ⟨rfl, rfl⟩)) | (go_at_call 17; first | ((with_reducible refine (local_at (w1.heap.size + 1 + 1) s 0 _ v _ (by simp [go_sem]) (by simp [go_sem]) (by omega) (by omega) (by omega) (by omega) (by omega)).mono ?_); rintro e w' ⟨rfl, n, rfl⟩) | ((with_reducible refine (local_at (w1.heap.size) s r _ x _ (by simp [go_sem]) (by simp [go_sem]) (by omega) (by omega) (by omega) (by omega) (by rw [← HX.out]; congr 2; omega)).mono ?_); rintro e w' ⟨rfl, n, rfl⟩) | ((with_reducible refine (local_at (w1.heap.size + 1) (s + y) r _ x _ (by simp [go_sem]) (by simp [go_sem]) (by omega) (by omega) (by omega) (by omega) (by rw [← HX.out]; congr 2; omega)).mono ?_); rintro e w' ⟨rfl, n, rfl⟩)) | (go_at_call 18; first | ((with_reducible refine (real_at (w1.heap.size + 1 + 1) s 0 _ (s + v) _ (by simp [go_sem]) (by simp [go_sem]) (by omega) (by omega) (by omega) (by omega) (by omega) (by omega) (by omega)).mono ?_); rintro e w' ⟨rfl, n, rfl⟩) | ((with_reducible refine (real_at (w1.heap.size) s r _ (s - z) _ (by simp [go_sem]) (by simp [go_sem]) (by omega) (by omega) (by omega) (by omega) (by omega) (by omega) (by rw [← HZ.out])).mono ?_); rintro e w' ⟨rfl, n, rfl⟩) | ((with_reducible refine (real_at (w1.heap.size + 1) (s + y) r _ (s + y - z) _ (by simp [go_sem]) (by simp [go_sem]) (by omega) (by omega) (by omega) (by omega) (by omega) (by omega) (by rw [← HZ.out])).mono ?_); rintro e w' ⟨rfl, n, rfl⟩)))
      go_ret
      exact ⟨ret_true (by simp; omega), below_drewN' _ (((hb.alloc hb.size _).alloc (Nat.le_trans hb.size (by simp)) _).alloc (Nat.le_trans hb.size (by simp; omega)) _)⟩
    · obtain ⟨s1, s2, a1, a2⟩ := l1
      have L1 := Hidd.mk (show Lawful s r from ⟨s1, s2, a1, a2⟩)
      go_enter Try.func4, Try.ntmps4
      go_wp2_with (first | (go_at_call 13; refine (awake_any _).mono ?_; rintro e w1 ⟨rfl, hb⟩) | (go_at_call 15; refine (near_any _ _).mono ?_; rintro e w' ⟨rfl, rfl⟩) | (go_at_call 16; first | ((with_reducible refine (new_yes _ L1.out).mono ?_); rintro e w' ⟨rfl, rfl⟩) | ((with_reducible refine (new_no _ l2).mono ?_); rintro e w2 ⟨rfl, rfl⟩) | ((with_reducible refine (new_yes _ l0).mono ?_); rintro e w' ⟨rfl, rfl⟩)))
      go_ret
      exact ⟨rfl, (hb.alloc hb.size _).alloc (Nat.le_trans hb.size (by simp)) _⟩
  · go_enter Try.func4, Try.ntmps4
    go_wp2_with (first | (go_at_call 13; refine (awake_any _).mono ?_; rintro e w1 ⟨rfl, hb⟩) | (go_at_call 15; refine (near_any _ _).mono ?_; rintro e w' ⟨rfl, rfl⟩) | (go_at_call 16; first | ((with_reducible refine (new_no _ l1).mono ?_); rintro e w' ⟨rfl, rfl⟩) | ((with_reducible refine (new_some _ _ _).mono ?_); rintro e w2 ⟨p, q, rfl, hb2⟩; replace hb := below2 hb hb.size hb2; clear hb2)))
    go_ret
    exact ⟨rfl, hb⟩

theorem wf_i64 {n : Int} (h : (Lit.int .i64 n).wf = true) : -9223372036854775808 ≤ n ∧ n ≤ 9223372036854775807 := by
  simp only [Lit.wf, IntKind.min, IntKind.max, IntKind.signed, IntKind.bits, Bool.and_eq_true, decide_eq_true_eq, if_true] at h
  omega

theorem clockPlain_walk (s r t b : Int) (w : World) (hs : (Lit.int .i64 s).wf = true) (_ : (Lit.int .i64 r).wf = true) (_ : (Lit.int .i64 t).wf = true) (_ : (Lit.int .i64 b).wf = true) :
    Calls Try.prog 4 #[.int .i64 s, .int .i64 r, .int .i64 t, .int .i64 b] w fun e w' => e = .returned (.bool true) ∧ Below w.heap.size w w' :=
  clockPlain_calls s r t b w (wf_i64 hs).1 (wf_i64 hs).2

end Go.Proofs.Ytgdponkeceonkaa
