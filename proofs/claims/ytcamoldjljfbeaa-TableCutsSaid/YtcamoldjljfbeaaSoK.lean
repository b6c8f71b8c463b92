/- The fixed facts of layer 6; Long. -/
import Derived.Test.YtcamoldjljfbeaaSoG
import Derived.Test.YtcamoldjljfbeaaSoI
namespace Go.Proofs.Ytcamoldjljfbeaa
open Go.RowKit

set_option maxRecDepth 100000
set_option maxHeartbeats 8000000
theorem one_any (w : World) : Calls Try.prog 48 #[] w fun e w' => e = .returned (.agg #[.int .i64 1, .int .i64 0, .int .i64 1000, .int .i64 500, .int .i64 0, .int .i64 0, .int .i64 0, .int .i64 98, .slice none 0 0, .slice none 0 0, .slice none 0 0]) ∧ Below w.heap.size w w' := by
  go_enter Try.func48, Try.ntmps48
  go_wp2
  exact bodyPost_ret (v := .agg #[.int .i64 1, .int .i64 0, .int .i64 1000, .int .i64 500, .int .i64 0, .int .i64 0, .int .i64 0, .int .i64 98, .slice none 0 0, .slice none 0 0, .slice none 0 0]) (by simp [results, Try.results48, go_sem]) rfl ⟨rfl, by repeat (first | exact Below.refl _ _ | refine Below.setCell ?_ (by simp) _ | refine Below.alloc ?_ (by simp) _)⟩
theorem sc_one : Sc 1 0 1000 500 0 0 0 98 := ⟨by decide, by decide, by decide, by decide, by decide, by decide, by decide, by decide, by decide, by decide, by decide, by decide, by decide, by decide, by decide, by decide⟩
theorem at_nil {α : Type} (f : α → List Value) (w : World) : At f w none 0 [] := ⟨rfl, Cells.nil _ _⟩
theorem aw_ok : soundE 1 0 1000 500 0 0 0 98 [] [] [] = none := by decide +kernel
theorem aw_bad : soundE 1 0 1000 500 0 0 0 97 [] [] [] = some (74, -1) := by decide +kernel
theorem aw_rnd : rnd 1 1000 500 = 1500 := by decide +kernel
theorem aw_prc : prc 0 0 (drf 0 (rnd 1 1000 500)) = 96 := by decide +kernel
theorem aw_txt : errB [(74, -1)] none = ⟨#[55, 52, 64, 45, 49]⟩ := by decide +kernel
theorem awake6_any (w : World) : Calls Try.prog 18 #[] w fun e w' => e = .returned (.bool true) ∧ Below w.heap.size w w' := by
  have h1 := Hidd.mk aw_ok
  have h2 := Hidd.mk aw_bad
  have h3 := Hidd.mk aw_rnd
  have h4 := Hidd.mk aw_prc
  have h5 := Hidd.mk aw_txt
  go_enter Try.func18, Try.ntmps18
  go_wp2_with (first
    | (go_at_call 48; refine (one_any _).mono ?_; rintro e w1 ⟨rfl, hb⟩; have hoa := ((((Own.nil w (fun _ => False)).ext hb).alloc (.cells #[.int .i64 1, .int .i64 0, .int .i64 1000, .int .i64 500, .int .i64 0, .int .i64 0, .int .i64 0, .int .i64 98, .slice none 0 0, .slice none 0 0, .slice none 0 0] 26)).alloc (.cells #[.int .i64 1, .int .i64 0, .int .i64 1000, .int .i64 500, .int .i64 0, .int .i64 0, .int .i64 0, .int .i64 97, .slice none 0 0, .slice none 0 0, .slice none 0 0] 26)); rw [World.size_alloc] at hoa; have ho1 := Hidd.mk hoa; clear hoa hb)
    | (go_at_call 21; have hq := ho1.out; clear hq; refine (soundCheck_any 1 0 1000 500 0 0 0 98 none 0 0 none 0 0 none 0 0 [] [] [] _ (at_nil _ _) (at_nil _ _) (at_nil _ _) (by intro p hp; cases hp) (by intro p hp; cases hp) (by decide) (by decide) (by decide) (by decide) _ h1.out).mono ?_; rintro e w2 ⟨v, rfl, he, hb⟩; (obtain rfl : v = .nilIface := he); have ho2 := Hidd.mk (ho1.out.ext hb); clear hb ho1; obtain ⟨x0, x1, x2, x3, x4, x5, x6, x7, x8, x9, xA⟩ := cells11 ho2.out 1 rfl; obtain ⟨y0, y1, y2, y3, y4, y5, y6, y7, y8, y9, yA⟩ := cells11 ho2.out 0 rfl)
    | (go_at_call 49; have hq := ho2.out; clear hq; refine (round_any 1 0 1000 500 0 0 0 98 none 0 0 none 0 0 none 0 0 _ sc_one).mono ?_; rintro e w3 ⟨rfl, hb⟩; rw [h3.out]; have ho3 := Hidd.mk (ho2.out.ext hb); clear hb ho2; clear x0 x1 x2 x3 x4 x5 x6 x7 x8 x9 xA y0 y1 y2 y3 y4 y5 y6 y7 y8 y9 yA; obtain ⟨x0, x1, x2, x3, x4, x5, x6, x7, x8, x9, xA⟩ := cells11 ho3.out 1 rfl; obtain ⟨y0, y1, y2, y3, y4, y5, y6, y7, y8, y9, yA⟩ := cells11 ho3.out 0 rfl)
    | (go_at_call 24; have hq := ho3.out; clear hq; refine (prec_any 1 0 1000 500 0 0 0 98 none 0 0 none 0 0 none 0 0 _ sc_one).mono ?_; rintro e w4 ⟨rfl, hb⟩; rw [h4.out]; have ho4 := Hidd.mk (ho3.out.ext hb); clear hb ho3; clear x0 x1 x2 x3 x4 x5 x6 x7 x8 x9 xA y0 y1 y2 y3 y4 y5 y6 y7 y8 y9 yA; obtain ⟨x0, x1, x2, x3, x4, x5, x6, x7, x8, x9, xA⟩ := cells11 ho4.out 1 rfl; obtain ⟨y0, y1, y2, y3, y4, y5, y6, y7, y8, y9, yA⟩ := cells11 ho4.out 0 rfl)
    | (go_at_call 21; have hq := ho4.out; clear hq; refine (soundCheck_any 1 0 1000 500 0 0 0 97 none 0 0 none 0 0 none 0 0 [] [] [] _ (at_nil _ _) (at_nil _ _) (at_nil _ _) (by intro p hp; cases hp) (by intro p hp; cases hp) (by decide) (by decide) (by decide) (by decide) _ h2.out).mono ?_; rintro e w5 ⟨v, rfl, he, hb⟩; have he5 := Hidd.mk he.isErr; have ho5 := Hidd.mk (ho4.out.ext hb); clear hb he ho4)
    | (go_at_call 20; have hq := ho5.out; clear hq; refine (read_any [(74, -1)] none v _ he5.out ⟨by decide, by simp, by simp⟩).mono ?_; rintro e w6 ⟨rfl, hb⟩; rw [h5.out]; have ho6 := Hidd.mk (ho5.out.ext hb); clear hb))
  go_ret
  exact ⟨rfl, ho6.out.below fun _ => id⟩
def longB (pn on rn : Nat) : Bool := decide (40 < pn) || decide (60 < on) || decide (60 < rn)
theorem long_any (n f sl gp rh d0 d1 mg : Int) (PA : Option Addr) (pn pc : Nat) (OA : Option Addr) (on oc : Nat) (RA : Option Addr) (rn rc : Nat) (w : World) : Calls Try.prog 19 #[.agg #[.int .i64 n, .int .i64 f, .int .i64 sl, .int .i64 gp, .int .i64 rh, .int .i64 d0, .int .i64 d1, .int .i64 mg, .slice PA pn pc, .slice OA on oc, .slice RA rn rc]] w fun e w' => e = .returned (.bool (longB pn on rn)) ∧ Below w.heap.size w w' := by
  have hbw : Hidd (Below w.heap.size w (w.alloc (.cells #[.int .i64 n, .int .i64 f, .int .i64 sl, .int .i64 gp, .int .i64 rh, .int .i64 d0, .int .i64 d1, .int .i64 mg, .slice PA pn pc, .slice OA on oc, .slice RA rn rc] 26))) := ⟨below_alloc (Below.refl _ _) _⟩
  have key : (longB pn on rn = true ∧ decide ((40 : Int) < pn) = true) ∨ (longB pn on rn = true ∧ decide ((40 : Int) < pn) = false ∧ decide ((60 : Int) < on) = true) ∨ (longB pn on rn = true ∧ decide ((40 : Int) < pn) = false ∧ decide ((60 : Int) < on) = false ∧ decide ((60 : Int) < rn) = true) ∨ (longB pn on rn = false ∧ decide ((40 : Int) < pn) = false ∧ decide ((60 : Int) < on) = false ∧ decide ((60 : Int) < rn) = false) := by
    unfold longB
    simp only [Bool.or_eq_true, Bool.or_eq_false_iff, decide_eq_true_eq, decide_eq_false_iff_not]
    omega
  rcases key with ⟨e, h1⟩ | ⟨e, h1, h2⟩ | ⟨e, h1, h2, h3⟩ | ⟨e, h1, h2, h3⟩
  all_goals rw [e]
  all_goals clear e
  all_goals go_enter Try.func19, Try.ntmps19
  all_goals go_wp2
  all_goals go_ret
  all_goals exact ⟨rfl, hbw.out⟩
end Go.Proofs.Ytcamoldjljfbeaa
