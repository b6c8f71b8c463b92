/- The reference's reader: Take, Text, End. -/
import Derived.Test.YtcamoldjljfbeaaTaE
import Derived.Test.YtcamoldjljfbeaaSoJ
import Derived.Test.YtcamoldjljfbeaaTaN
import Derived.Test.YtcamoldjljfbeaaFlow
namespace Go.Proofs.Ytcamoldjljfbeaa
open Go.RowKit

def erS : Option (Int × Int) → ByteArray
  | none => ⟨#[]⟩
  | some (c, a) => atB c a
/-- The reference's reader. -/
def rref (b : Nat) (A : Option Addr) (n cap p : Nat) (er : Option (Int × Int)) : Res := blk b (.cells #[.slice A n cap, .int .i64 p, .string (erS er)] 104)

section
variable {w w0 : World} {S : Nat → Prop} {L : List Res} {b : Nat} {A : Option Addr} {n cap p : Nat} {er : Option (Int × Int)}
theorem rref_at (k : Nat) (hO : Own w0 S w L) (hk : L[k]? = some (rref b A n cap p er)) : w.cell? ⟨b, 0, none⟩ = some (.slice A n cap) ∧ w.cell? ⟨b, 1, none⟩ = some (.int .i64 p) ∧ w.cell? ⟨b, 2, none⟩ = some (.string (erS er)) :=
  ⟨hO.cell k hk 0, hO.cell k hk 1, hO.cell k hk 2⟩
theorem rref_fr (k : Nat) (hO : Own w0 S w L) (hk : L[k]? = some (rref b A n cap p er)) (j : Nat) : w.frozen? ⟨b, j, none⟩ = false := hO.frozen k hk j
theorem rref_pos (k : Nat) (hO : Own w0 S w L) (hk : L[k]? = some (rref b A n cap p er)) (p' : Nat) : Own w0 S (w.setCell ⟨b, 1, none⟩ (.int .i64 p')) (L.set k (rref b A n cap p' er)) := hO.set k hk 1 _
theorem rref_err (k : Nat) (hO : Own w0 S w L) (hk : L[k]? = some (rref b A n cap p none)) (q : Int × Int) : Own w0 S (w.setCell ⟨b, 2, none⟩ (.string (atB q.1 q.2))) (L.set k (rref b A n cap p (some q))) := hO.set k hk 2 _
end

set_option maxRecDepth 100000 in
set_option maxHeartbeats 4000000 in
theorem rtake_own {w w0 : World} {S : Nat → Prop} {L : List Res} {b : Nat} {A : Option Addr} {n cap p : Nat} {xs : List Int} {er : Option (Int × Int)} (k : Nat) (hO : Own w0 S w L) (hk : L[k]? = some (rref b A n cap p er)) (hA : Cells w A (nums .u8 xs)) (hl : xs.length = n) (hpn : p ≤ n) (hn : n ≤ 1000000000)
    (hx : ∀ x ∈ xs, 0 ≤ x ∧ x < 256) (size : Int) (_ : -9223372036854775808 ≤ size) (_ : size ≤ 9223372036854775807) (v p' : Nat) (er' : Option (Int × Int)) (hr : takeR xs n p er size = (v, p', er')) :
    Calls Try.prog 88 #[.pointer (some ⟨b, 0, none⟩), .int .i64 size] w fun e w' => e = .returned (.int .u32 v) ∧ Own w0 S w' (L.set k (rref b A n cap p' er')) := by
  obtain ⟨c0, c1, c2⟩ := rref_at k hO hk
  have hbl := hO.lt k hk
  have hk1 := Hidd.mk hk
  replace hO := Hidd.mk hO
  replace hx := Hidd.mk hx
  replace hA := Hidd.mk hA
  replace hl := Hidd.mk hl
  clear hk
  unfold takeR at hr
  by_cases hbad : size < 1 ∨ 4 < size
  · rw [if_pos hbad] at hr
    injection hr with h1 hr
    injection hr with h2 h3
    subst h1 h2 h3
    have hst := Hidd.mk (show Own w0 S w (L.set k (rref b A n cap p er)) by rw [set_self hk1.out]; exact hO.out)
    rcases hbad with h | h
    · have d1 : decide (size < 1) = true := by rw [decide_eq_true_eq]; exact h
      go_enter Try.func88, Try.ntmps88
      go_wp2
      go_ret
      exact ⟨rfl, hst.out⟩
    · have d1 : decide (size < 1) = false := by rw [decide_eq_false_iff_not]; omega
      have d2 : decide (4 < size) = true := by rw [decide_eq_true_eq]; exact h
      go_enter Try.func88, Try.ntmps88
      go_wp2
      go_ret
      exact ⟨rfl, hst.out⟩
  · rw [if_neg hbad] at hr
    have d1 : decide (size < 1) = false := by rw [decide_eq_false_iff_not]; omega
    have d2 : decide (4 < size) = false := by rw [decide_eq_false_iff_not]; omega
    obtain ⟨m, rfl⟩ : ∃ m : Nat, size = m := ⟨size.toNat, by omega⟩
    have hm4 : m ≤ 4 := by omega
    have hm1 : 1 ≤ m := by omega
    rw [Int.toNat_natCast] at hr
    clear hbad
    rcases er with _ | ⟨q0, q1⟩
    · replace c2 : w.cell? ⟨b, 2, none⟩ = some (.string ⟨#[]⟩) := c2
      have hw1 : IntKind.i64.wrap ((p : Int) + (m : Int)) = (p : Int) + (m : Int) := IntWalk.i64_in _ (by omega)
      by_cases hlt : p + m ≤ n
      · have e1 : moreB n p none m = true := by unfold moreB; simp; omega
        rw [e1, if_pos rfl] at hr
        injection hr with h1 hr
        injection hr with h2 h3
        subst h1 h2 h3
        clear e1
        have hd : decide ((n : Int) < (p : Int) + (m : Int)) = false := by rw [decide_eq_false_iff_not]; omega
        go_enter Try.func88, Try.ntmps88
        go_wp2
        obtain ⟨W0, hW0⟩ : ∃ zz, zz = World.drew w := ⟨_, rfl⟩
        refine wp_region_flow [([0, 4, 6, 1, 7, 2, 8, 3, 9, 5, 10, 11], none)] (by kernel_rfl) (by kernel_rfl) ?_
        rw [show ({ w with drawn := w.drawn + 1 } : World) = W0 from hW0.symm]
        replace hW0 := Hidd.mk hW0
        simp only [opsF, List.map_cons, List.map_nil, List.getD_cons_succ, List.getD_cons_zero, Option.map]
        have hO2 := Hidd.mk (show Own w0 S W0 L by rw [hW0.out]; exact hO.out.drew)
        have hA2 := Hidd.mk (show Cells W0 A (nums .u8 xs) by rw [hW0.out]; exact hA.out.drew)
        obtain ⟨c0, c1, c2⟩ := rref_at k hO2.out hk1.out
        clear hW0 hO hA
        refine FlW.heads (fun zz => zz = _) rfl ?_
        repeat (first | (refine StQ.skip (by rfl) ?_; simp only [Act.put, List.setIfInBounds_toArray, List.set_cons_zero, List.set_cons_succ]) | (refine StQ.go' (by rfl) (Exists.intro ?_ (And.intro (fun w' hS => ?_) ?_)); rotate_left; (focus (rw [hS]; go_simp; try with_reducible rfl)); simp only [Act.put, List.setIfInBounds_toArray, List.set_cons_zero, List.set_cons_succ]))
        refine StQ.nil ?_
        refine FlW.nil (Calm.normal ?_)
        clear hd
        go_wp2
        go_loopw [5, 6] (fun v5 v6 wr => ∃ (i u : Nat), v6 = .int .i64 i ∧ i ≤ m ∧ v5 = .int .u32 u ∧ Hidd (valN ((xs.drop p).take i) = u) ∧ Hidd (Own w0 S wr L) ∧ Hidd (Cells wr A (nums .u8 xs))) (fun _ v6 _ => m - (intOf v6).toNat)
        case atStart => exact ⟨0, 0, rfl, Nat.zero_le _, rfl, ⟨rfl⟩, hO2, hA2⟩
        case round =>
          clear hO2 hA2 c0 c1 c2
          obtain ⟨i, u, rfl, hi, rfl, hu, ho, hA⟩ := hrel
          by_cases hlt : i < m
          · obtain ⟨y, hy⟩ : ∃ y, (xs.drop p)[i]? = some y := ⟨_, List.getElem?_eq_getElem (by rw [List.length_drop, hl.out]; omega)⟩
            have hyx : xs[p + i]? = some y := by rw [List.getElem?_drop] at hy; exact hy
            have hyb := hx.out y (List.mem_of_getElem? hyx)
            obtain ⟨z, rfl⟩ := Int.eq_ofNat_of_zero_le hyb.1
            have hz : z < 256 := by omega
            have hu2 := Hidd.mk (valN_take hy)
            rw [hu.out] at hu2
            have hub := valN_lt (xs.drop p) (fun x h => hx.out x (List.mem_of_mem_drop h)) i
            rw [hu.out] at hub
            have hub4 : u < 16777216 := Nat.lt_of_lt_of_le hub (Nat.le_trans (Nat.pow_le_pow_right (by decide) (show i ≤ 3 by omega)) (by decide))
            have e2 : IntKind.u32.wrap ((u : Int) * 256) = (u : Int) * 256 := by rw [IntKind.wrap_u32']; omega
            have e3 : IntKind.u32.wrap (z : Int) = z := by rw [IntKind.wrap_u32']; omega
            have e4 : IntKind.u32.wrap ((u : Int) * 256 + z) = (u : Int) * 256 + z := by rw [IntKind.wrap_u32']; omega
            obtain ⟨q, hq⟩ : ∃ q, p + i = q := ⟨_, rfl⟩
            rw [hq] at hyx
            have hw2 : IntKind.i64.wrap ((p : Int) + (i : Int)) = (q : Int) := by rw [IntWalk.i64_in _ (by omega)]; omega
            have b0 : (0 : Int) ≤ (q : Int) := by omega
            have b1 : (q : Int) < (n : Int) := by omega
            clear hub hyb hy hq
            go_wp2
            obtain ⟨W0, hW0⟩ : ∃ zz, zz = World.drew wr := ⟨_, rfl⟩
            refine wp_region_flow [([0, 2, 6, 10, 1, 3, 7, 4, 8, 5, 9, 11, 12, 13, 14, 15, 16], none)] (by kernel_rfl) (by kernel_rfl) ?_
            rw [show ({ wr with drawn := wr.drawn + 1 } : World) = W0 from hW0.symm]
            replace hW0 := Hidd.mk hW0
            simp only [opsF, List.map_cons, List.map_nil, List.getD_cons_succ, List.getD_cons_zero, Option.map]
            have hO2 := Hidd.mk (show Own w0 S W0 L by rw [hW0.out]; exact ho.out.drew)
            have hA2 := Hidd.mk (show Cells W0 A (nums .u8 xs) by rw [hW0.out]; exact hA.out.drew)
            obtain ⟨c0, c1, c2⟩ := rref_at k hO2.out hk1.out
            obtain ⟨ad, rfl, y0⟩ := hA2.out q _ (show (nums .u8 xs)[q]? = some (.int .u8 (z : Int)) by unfold nums; rw [List.getElem?_map, hyx]; rfl)
            clear hW0 ho hA hyx
            refine FlW.heads (fun zz => zz = _) rfl ?_
            repeat (first | (refine StQ.skip (by rfl) ?_; simp only [Act.put, List.setIfInBounds_toArray, List.set_cons_zero, List.set_cons_succ]) | (refine StQ.go' (by rfl) (Exists.intro ?_ (And.intro (fun w' hS => ?_) ?_)); rotate_left; (focus (rw [hS]; go_simp; try with_reducible rfl)); simp only [Act.put, List.setIfInBounds_toArray, List.set_cons_zero, List.set_cons_succ]))
            refine StQ.nil ?_
            refine FlW.nil (Calm.normal ?_)
            go_wp2
            go_roundw
            case rel => exact ⟨i + 1, u * 256 + z, by go_num, by omega, by go_num, ⟨by rw [hu2.out, Int.toNat_natCast]⟩, hO2, hA2⟩
            case measure => (simp [intOf]; try omega)
          · obtain rfl : i = m := by omega
            obtain ⟨c0, c1, c2⟩ := rref_at k ho.out hk1.out
            have f1 := rref_fr k ho.out hk1.out 1
            go_wp2
            go_ret
            exact ⟨ret_int (by rw [hu.out]), rref_pos k ho.out hk1.out (p + i)⟩
      · have e1 : moreB n p none m = false := by unfold moreB; simp; omega
        have e2 : moreE n p none m = some (4, (p : Int)) := by unfold moreE; rw [if_neg (by decide), if_pos (by omega)]
        rw [e1, e2, if_neg (by decide)] at hr
        injection hr with h1 hr
        injection hr with h2 h3
        subst h1 h2 h3
        clear e1 e2
        have hd : decide ((n : Int) < (p : Int) + (m : Int)) = true := by rw [decide_eq_true_eq]; omega
        go_enter Try.func88, Try.ntmps88
        go_wp2
        obtain ⟨W0, hW0⟩ : ∃ zz, zz = World.drew w := ⟨_, rfl⟩
        refine wp_region_flow [([0, 4, 6, 1, 7, 2, 8, 3, 9, 5, 10, 11], none)] (by kernel_rfl) (by kernel_rfl) ?_
        rw [show ({ w with drawn := w.drawn + 1 } : World) = W0 from hW0.symm]
        replace hW0 := Hidd.mk hW0
        simp only [opsF, List.map_cons, List.map_nil, List.getD_cons_succ, List.getD_cons_zero, Option.map]
        have hO2 := Hidd.mk (show Own w0 S W0 L by rw [hW0.out]; exact hO.out.drew)
        obtain ⟨c0, c1, c2⟩ := rref_at k hO2.out hk1.out
        clear hW0 hO hA
        refine FlW.heads (fun zz => zz = _) rfl ?_
        repeat (first | (refine StQ.skip (by rfl) ?_; simp only [Act.put, List.setIfInBounds_toArray, List.set_cons_zero, List.set_cons_succ]) | (refine StQ.go' (by rfl) (Exists.intro ?_ (And.intro (fun w' hS => ?_) ?_)); rotate_left; (focus (rw [hS]; go_simp; try with_reducible rfl)); simp only [Act.put, List.setIfInBounds_toArray, List.set_cons_zero, List.set_cons_succ]))
        refine StQ.nil ?_
        refine FlW.nil (Calm.normal ?_)
        clear hd
        go_wp2_with (go_at_call 51; refine (at_any 4 p _ (by omega) (by omega) (by omega) (by omega)).mono ?_; rintro e w6 ⟨rfl, hb6⟩; have ho6 := Hidd.mk (hO2.out.ext hb6); (obtain ⟨d0, d1, d2⟩ := rref_at k ho6.out hk1.out); have f2 := rref_fr k ho6.out hk1.out 2; clear hb6 hO2)
        go_ret
        exact ⟨rfl, rref_err k ho6.out hk1.out (4, (p : Int))⟩
    · have e1 : moreB n p (some (q0, q1)) m = false := rfl
      have e2 : moreE n p (some (q0, q1)) m = some (q0, q1) := rfl
      rw [e1, e2, if_neg (by decide)] at hr
      injection hr with h1 hr
      injection hr with h2 h3
      subst h1 h2 h3
      clear e1 e2
      replace c2 : w.cell? ⟨b, 2, none⟩ = some (.string (atB q0 q1)) := c2
      have hne := ne_empty (atB_pos q0 q1)
      have hst := Hidd.mk (show Own w0 S w (L.set k (rref b A n cap p (some (q0, q1)))) by rw [set_self hk1.out]; exact hO.out)
      go_enter Try.func88, Try.ntmps88
      go_wp2
      go_ret
      exact ⟨rfl, hst.out⟩

set_option maxRecDepth 100000 in
set_option maxHeartbeats 4000000 in
theorem rxend_own {w w0 : World} {S : Nat → Prop} {L : List Res} {b : Nat} {A : Option Addr} {n cap p : Nat} {er : Option (Int × Int)} (k : Nat) (hO : Own w0 S w L) (hk : L[k]? = some (rref b A n cap p er)) (hn : n ≤ 1000000000) (er' : Option (Int × Int)) (hr : endE n p er = er') :
    Calls Try.prog 76 #[.pointer (some ⟨b, 0, none⟩)] w fun e w' => e = .returned (.string (erS er')) ∧ Own w (fun _ => False) w' [] := by
  obtain ⟨c0, c1, c2⟩ := rref_at k hO hk
  have hbl := hO.lt k hk
  have hk1 := Hidd.mk hk
  replace hO := Hidd.mk hO
  clear hk
  have hn0 := Hidd.mk (Own.nil w (fun _ => False))
  rcases er with _ | ⟨q0, q1⟩
  · replace c2 : w.cell? ⟨b, 2, none⟩ = some (.string ⟨#[]⟩) := c2
    by_cases hp : p < n
    · have e1 : endE n p none = some (5, (p : Int)) := by unfold endE; rw [if_neg (by decide), if_pos hp]
      rw [e1] at hr
      subst hr
      have hd1 : decide (p < n) = true := by rw [decide_eq_true_eq]; omega
      go_enter Try.func76, Try.ntmps76
      go_wp2
      obtain ⟨W0, hW0⟩ : ∃ zz, zz = World.drew w := ⟨_, rfl⟩
      refine wp_region_flow [([0, 1, 2, 3, 4, 5, 6, 10, 7, 11, 8, 12, 9, 13, 14, 15, 16], none)] (by kernel_rfl) (by kernel_rfl) ?_
      rw [show ({ w with drawn := w.drawn + 1 } : World) = W0 from hW0.symm]
      replace hW0 := Hidd.mk hW0
      simp only [opsF, List.map_cons, List.map_nil, List.getD_cons_succ, List.getD_cons_zero, Option.map]
      have hO2 := Hidd.mk (show Own w0 S W0 L by rw [hW0.out]; exact hO.out.drew)
      have hn2 := Hidd.mk (show Own w (fun _ => False) W0 [] by rw [hW0.out]; exact hn0.out.drew)
      obtain ⟨c0, c1, c2⟩ := rref_at k hO2.out hk1.out
      replace c2 : W0.cell? ⟨b, 2, none⟩ = some (.string ⟨#[]⟩) := c2
      clear hW0 hO hn0
      refine FlW.heads (fun zz => zz = _) rfl ?_
      repeat (first | (refine StQ.skip (by rfl) ?_; simp only [Act.put, List.setIfInBounds_toArray, List.set_cons_zero, List.set_cons_succ]) | (refine StQ.go' (by rfl) (Exists.intro ?_ (And.intro (fun w' hS => ?_) ?_)); rotate_left; (focus (rw [hS]; go_simp; try with_reducible rfl)); simp only [Act.put, List.setIfInBounds_toArray, List.set_cons_zero, List.set_cons_succ]))
      refine StQ.nil ?_
      refine FlW.nil (Calm.normal ?_)
      go_wp2_with (go_at_call 51; refine (at_any 5 p _ (by omega) (by omega) (by omega) (by omega)).mono ?_; rintro e w6 ⟨rfl, hb6⟩; replace hn2 := Hidd.mk (hn2.out.ext hb6); clear hb6 hO2)
      go_ret
      exact ⟨rfl, hn2.out⟩
    · have e1 : endE n p none = none := by unfold endE; rw [if_neg (by decide), if_neg hp]
      rw [e1] at hr
      subst hr
      have hd1 : decide (p < n) = false := by rw [decide_eq_false_iff_not]; omega
      go_enter Try.func76, Try.ntmps76
      go_wp2
      obtain ⟨W0, hW0⟩ : ∃ zz, zz = World.drew w := ⟨_, rfl⟩
      refine wp_region_flow [([0, 1, 2, 3, 4, 5, 6, 10, 7, 11, 8, 12, 9, 13, 14, 15, 16], none)] (by kernel_rfl) (by kernel_rfl) ?_
      rw [show ({ w with drawn := w.drawn + 1 } : World) = W0 from hW0.symm]
      replace hW0 := Hidd.mk hW0
      simp only [opsF, List.map_cons, List.map_nil, List.getD_cons_succ, List.getD_cons_zero, Option.map]
      have hO2 := Hidd.mk (show Own w0 S W0 L by rw [hW0.out]; exact hO.out.drew)
      have hn2 := Hidd.mk (show Own w (fun _ => False) W0 [] by rw [hW0.out]; exact hn0.out.drew)
      obtain ⟨c0, c1, c2⟩ := rref_at k hO2.out hk1.out
      replace c2 : W0.cell? ⟨b, 2, none⟩ = some (.string ⟨#[]⟩) := c2
      clear hW0 hO hn0
      refine FlW.heads (fun zz => zz = _) rfl ?_
      repeat (first | (refine StQ.skip (by rfl) ?_; simp only [Act.put, List.setIfInBounds_toArray, List.set_cons_zero, List.set_cons_succ]) | (refine StQ.go' (by rfl) (Exists.intro ?_ (And.intro (fun w' hS => ?_) ?_)); rotate_left; (focus (rw [hS]; go_simp; try with_reducible rfl)); simp only [Act.put, List.setIfInBounds_toArray, List.set_cons_zero, List.set_cons_succ]))
      refine StQ.nil ?_
      refine FlW.nil (Calm.normal ?_)
      go_wp2
      go_ret
      exact ⟨rfl, hn2.out⟩
  · have e1 : endE n p (some (q0, q1)) = some (q0, q1) := rfl
    rw [e1] at hr
    subst hr
    replace c2 : w.cell? ⟨b, 2, none⟩ = some (.string (atB q0 q1)) := c2
    have hne := ne_empty (atB_pos q0 q1)
    go_enter Try.func76, Try.ntmps76
    go_wp2
    obtain ⟨W0, hW0⟩ : ∃ zz, zz = World.drew w := ⟨_, rfl⟩
    refine wp_region_flow [([0, 1, 2, 3, 4, 5, 6, 10, 7, 11, 8, 12, 9, 13, 14, 15, 16], none)] (by kernel_rfl) (by kernel_rfl) ?_
    rw [show ({ w with drawn := w.drawn + 1 } : World) = W0 from hW0.symm]
    replace hW0 := Hidd.mk hW0
    simp only [opsF, List.map_cons, List.map_nil, List.getD_cons_succ, List.getD_cons_zero, Option.map]
    have hO2 := Hidd.mk (show Own w0 S W0 L by rw [hW0.out]; exact hO.out.drew)
    have hn2 := Hidd.mk (show Own w (fun _ => False) W0 [] by rw [hW0.out]; exact hn0.out.drew)
    obtain ⟨c0, c1, c2⟩ := rref_at k hO2.out hk1.out
    replace c2 : W0.cell? ⟨b, 2, none⟩ = some (.string (atB q0 q1)) := c2
    clear hW0 hO hn0
    refine FlW.heads (fun zz => zz = _) rfl ?_
    repeat (first | (refine StQ.skip (by rfl) ?_; simp only [Act.put, List.setIfInBounds_toArray, List.set_cons_zero, List.set_cons_succ]) | (refine StQ.go' (by rfl) (Exists.intro ?_ (And.intro (fun w' hS => ?_) ?_)); rotate_left; (focus (rw [hS]; go_simp; try with_reducible rfl)); simp only [Act.put, List.setIfInBounds_toArray, List.set_cons_zero, List.set_cons_succ]))
    refine StQ.nil ?_
    refine FlW.nil (Calm.normal ?_)
    go_wp2
    go_ret
    exact ⟨rfl, hn2.out⟩
end Go.Proofs.Ytcamoldjljfbeaa
