/- HealthRow walked. -/
import Derived.Test.YtpiahnecpbalhaaHeF
namespace Go.Proofs.Ytpiahnecpbalhaa
open Go.RowKit

theorem int_eq {k : IntKind} {a b : Int} (h : a = b) : Value.int k a = Value.int k b := by rw [h]
theorem u64_mod (z : Int) (m : Nat) (hm : 0 < m) : ∃ f : Nat, f < m ∧ (IntKind.u64.wrap z).tmod (m : Int) = f ∧ IntKind.u64.wrap z % (m : Int) = f := by
  have h0 : 0 ≤ IntKind.u64.wrap z := by unfold IntKind.wrap; simp [IntKind.signed, IntKind.bits]; omega
  have h1 : 0 ≤ IntKind.u64.wrap z % (m : Int) := Int.emod_nonneg _ (by omega)
  have h2 : IntKind.u64.wrap z % (m : Int) < m := Int.emod_lt_of_pos _ (by omega)
  exact ⟨(IntKind.u64.wrap z % (m : Int)).toNat, by omega, by rw [Int.tmod_eq_emod_of_nonneg h0]; omega, by omega⟩
def p1 : Pt := ⟨0, 0, 0, 0, 0, 0, 0, 1, 0⟩
/-- Ahead of round i of the row's law: the last round and the row's length. -/
def RowAt (i rd rw : Nat) (l g : Int) : Prop := (i = 0 ∧ l = 0 ∧ g = 0) ∨ (0 < i ∧ l = (rd : Int) + 1 ∧ g = rw ∧ 1 ≤ rw ∧ rw ≤ i)
set_option maxRecDepth 100000
set_option maxHeartbeats 8000000
theorem healthRow_walk (a0 : Int) (a1 : Option Addr) (len1 cap1 : Nat) (z1 : List Int) (w : World) (h0 : (Lit.int .u32 a0).wf = true) (h1 : IsRow .i64 w a1 len1 cap1 z1) (_ : len1 * 8 ≤ 140737488351232) :
    Calls Try.prog 4 #[.int .u32 a0, .slice a1 len1 cap1] w fun e w' => e = .returned (.bool true) ∧ Below w.heap.size w w' := by
  obtain ⟨r0, rfl, hr0⟩ := wf32 h0
  obtain ⟨xs, hxl, hlc, hcm, hxc, hxw⟩ := h1.open_
  clear h0 h1
  replace hxc := Hidd.mk hxc
  replace hxl := Hidd.mk hxl
  unfold maxLen at hcm
  clear hxw
  go_enter Try.func4, Try.ntmps4
  go_wp2_with (first
    | (go_at_call 14; refine (awake_any _).mono ?_; rintro e w1 ⟨rfl, hb1⟩; have hb1 := Hidd.mk hb1)
    | (go_at_call 15; have hq := hb1.out; clear hq; refine (new_own 0 _ 1 1 [p1] _ (Cells.new _ _ _ _ rfl) rfl (by decide)).mono ?_; rintro e w3 ⟨b, M, rfl, hn3⟩; have hb3 := below_alloc hb1.out (.cells (Pt.cells p1).toArray 31 (0, 0)); have ho3 : Hidd (Own w (fun _ => False) w3 [Res.pack (monL b 0 1 M none 0 0 [p1] [0] [0] [])]) := Hidd.mk (((Own.nil w (fun _ => False)).ext hb3).made hn3); clear hn3 hb1 hb3))
  go_loopw [6, 7, 8, 9, 10, 11] (fun v6 v7 v8 v9 v10 v11 wr => ∃ (i rd rw : Nat) (l g : Int) (OA : Option Addr) (on oc : Nat) (out : List Rec5), v6 = .int .u32 rd ∧ v7 = .int .i64 rw ∧ v8 = .int .i64 i ∧ i ≤ 60 ∧ rd ≤ 999 + 2 * i ∧ on ≤ 4 ∧ Hidd (RowAt i rd rw l g) ∧ Hidd (Own w (fun _ => False) wr [Res.pack (monL b (0 : Nat) 1 M OA on oc [p1] [l] [g] out)])) (fun _ _ v8 _ _ _ _ => 60 - (intOf v8).toNat)
  case atStart => exact ⟨0, r0 % 1000, 0, 0, 0, none, 0, 0, [], int_eq (by omega), rfl, rfl, by omega, by omega, by omega, ⟨.inl ⟨rfl, rfl, rfl⟩⟩, ho3⟩
  case round =>
    clear ho3
    obtain ⟨i, rd, rw, l, g, OA, on, oc, out, rfl, rfl, rfl, hi, hrd, hon, hrow, ho⟩ := hrel
    by_cases hlt : i < len1 ∧ i < 60
    · obtain ⟨hlt, h60⟩ := hlt
      have d1 : decide (i < len1) = true := by simpa using hlt
      have d2 : decide ((i : Int) < 60) = true := by rw [decide_eq_true_eq]; omega
      obtain ⟨ad, rfl, hc⟩ := (hxc.out.below (ho.out.below fun _ => id)).at i (by rw [hxl.out]; exact hlt)
      have bi0 : (0 : Int) ≤ (i : Int) := by omega
      have bi1 : (i : Int) < (len1 : Int) := by omega
      generalize xs.getD i 0 = z at hc
      obtain ⟨f, hf, hf1, hf2⟩ := u64_mod z 3 (by decide)
      rw [show ((3 : Nat) : Int) = 3 from rfl] at hf1 hf2
      rcases hrow.out with ⟨hi0, rfl, rfl⟩ | ⟨hi0, rfl, rfl, hw1, hw2⟩
      · clear hrow
        have di : ((i : Int) == 0) = true := by rw [beq_iff_eq]; omega
        have di2 : decide (0 < i) = false := by rw [decide_eq_false_iff_not]; omega
        replace hi0 := Hidd.mk hi0
        go_wp2_with (go_at_call 20; refine (report_at _ _ _ 0 0 ho.out rfl rd 2 0 (by omega) (by decide) (by decide) (by decide) (by decide) (by omega) (by decide) (by decide) p1 rfl 1 rfl 0 0 rfl rfl (by decide) (by decide) (by decide) (by decide) (by omega) 1 ((rd : Int) + 1) 1 (repS_rest (by omega)) 1 rfl).mono ?_; rintro e w4 ⟨OA4, oc4, rfl, ho4⟩; have ho4 := Hidd.mk ho4; clear ho)
        go_roundw
        case rel => exact ⟨i + 1, rd, 1, (rd : Int) + 1, 1, OA4, _, oc4, _, rfl, rfl, by go_num, by omega, by omega, by split <;> omega, ⟨.inr ⟨by omega, rfl, rfl, by omega, by omega⟩⟩, ho4⟩
        case measure => simp [intOf]; omega
      · have di : ((i : Int) == 0) = false := by rw [beq_eq_false_iff_ne]; omega
        have di2 : decide (0 < i) = true := by simpa using hi0
        clear hrow
        by_cases h2 : f = 2
        · subst h2
          rw [show ((2 : Nat) : Int) = 2 from rfl] at hf1 hf2
          go_wp2_with (go_at_call 20; refine (report_at _ _ _ 0 0 ho.out rfl (rd + 2) 2 0 (by omega) (by decide) (by decide) (by decide) (by decide) (by omega) (by decide) (by decide) p1 rfl 1 rfl _ _ rfl rfl (by omega) (by omega) (by omega) (by omega) (by omega) 1 (((rd + 2 : Nat) : Int) + 1) 1 (repS_rest (by omega)) 1 rfl).mono ?_; rintro e w4 ⟨OA4, oc4, rfl, ho4⟩; have ho4 := Hidd.mk ho4; clear ho)
          go_roundw
          case rel => exact ⟨i + 1, rd + 2, 1, _, 1, OA4, _, oc4, _, by go_num, rfl, by go_num, by omega, by omega, by split <;> omega, ⟨.inr ⟨by omega, rfl, rfl, by omega, by omega⟩⟩, ho4⟩
          case measure => simp [intOf]; omega
        · have df : ((f : Int) == 2) = false := by rw [beq_eq_false_iff_ne]; omega
          by_cases h3 : 3 ≤ rw + 1
          · go_wp2_with (go_at_call 20; refine (report_at _ _ _ 0 0 ho.out rfl (rd + f) 2 0 (by omega) (by decide) (by decide) (by decide) (by decide) (by omega) (by decide) (by decide) p1 rfl 1 rfl _ _ rfl rfl (by omega) (by omega) (by omega) (by omega) (by omega) 2 (((rd + f : Nat) : Int) + 1) ((rw : Int) + 1) (repS_row3 (by omega) (by omega)) 2 rfl).mono ?_; rintro e w4 ⟨OA4, oc4, rfl, ho4⟩; have ho4 := Hidd.mk ho4; clear ho)
            go_roundw
            case rel => exact ⟨i + 1, rd + f, rw + 1, _, _, OA4, _, oc4, _, by go_num, by go_num, by go_num, by omega, by omega, by split <;> omega, ⟨.inr ⟨by omega, rfl, rfl, by omega, by omega⟩⟩, ho4⟩
            case measure => simp [intOf]; omega
          · go_wp2_with (go_at_call 20; refine (report_at _ _ _ 0 0 ho.out rfl (rd + f) 2 0 (by omega) (by decide) (by decide) (by decide) (by decide) (by omega) (by decide) (by decide) p1 rfl 1 rfl _ _ rfl rfl (by omega) (by omega) (by omega) (by omega) (by omega) 1 (((rd + f : Nat) : Int) + 1) ((rw : Int) + 1) (repS_row2 (by omega) (by omega)) 1 rfl).mono ?_; rintro e w4 ⟨OA4, oc4, rfl, ho4⟩; have ho4 := Hidd.mk ho4; clear ho)
            go_roundw
            case rel => exact ⟨i + 1, rd + f, rw + 1, _, _, OA4, _, oc4, _, by go_num, by go_num, by go_num, by omega, by omega, by split <;> omega, ⟨.inr ⟨by omega, rfl, rfl, by omega, by omega⟩⟩, ho4⟩
            case measure => simp [intOf]; omega
    · by_cases h2 : i < len1
      · have d1 : decide (i < len1) = true := by simpa using h2
        have d2 : decide ((i : Int) < 60) = false := by rw [decide_eq_false_iff_not]; omega
        go_wp2
        go_ret
        exact ⟨rfl, ho.out.below fun _ => id⟩
      · have d1 : decide (i < len1) = false := by simpa using h2
        go_wp2
        go_ret
        exact ⟨rfl, ho.out.below fun _ => id⟩
end Go.Proofs.Ytpiahnecpbalhaa
