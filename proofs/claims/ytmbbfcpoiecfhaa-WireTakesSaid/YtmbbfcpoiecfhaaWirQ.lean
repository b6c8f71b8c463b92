/- The reference's reader: Take, Text, End. -/
import Derived.Test.YtmbbfcpoiecfhaaWirF
import Derived.Test.YtmbbfcpoiecfhaaWirN
import Derived.Test.YtmbbfcpoiecfhaaFlow
namespace Go.Proofs.Ytmbbfcpoiecfhaa
open Go.RowKit

def erS : Option (Int × Int) → ByteArray
  | none => ⟨#[]⟩
  | some (c, a) => atB c a
theorem decF_pos (k m : Nat) : 0 < (decF (k + 1) m).size := by
  unfold decF
  split
  · show 0 < 1
    decide
  · rw [ByteArray.size_append]
    have h1 : (dig (m % 10)).size = 1 := rfl
    omega
theorem numB_pos (n : Int) : 0 < (numB n).size := by
  unfold numB
  split
  · rw [ByteArray.size_append]
    have : 0 < (decF 20 (-n).toNat).size := decF_pos 19 (-n).toNat
    omega
  · exact decF_pos 19 n.toNat
theorem atB_pos (c a : Int) : 0 < (atB c a).size := by
  unfold atB
  rw [ByteArray.size_append]
  have := numB_pos (if a < 0 then -1 else a)
  omega
theorem ne_empty {s : ByteArray} (h : 0 < s.size) : s.toList.isEmpty = false := by
  rw [ByteArray.toList_eq]
  cases hl : s.data.toList with
  | nil =>
    have h2 : s.size = s.data.toList.length := by rw [Array.length_toList]; rfl
    rw [hl, List.length_nil] at h2
    omega
  | cons _ _ => rfl
/-- The reference's reader. -/
def rref (b : Nat) (A : Option Addr) (n cap p : Nat) (er : Option (Int × Int)) : Res := blk b (.cells #[.slice A n cap, .int .i64 p, .string (erS er)] 45)

section
variable {w w0 : World} {S : Nat → Prop} {L : List Res} {b : Nat} {A : Option Addr} {n cap p : Nat} {er : Option (Int × Int)}
theorem rref_at (k : Nat) (hO : Own w0 S w L) (hk : L[k]? = some (rref b A n cap p er)) : w.cell? ⟨b, 0, none⟩ = some (.slice A n cap) ∧ w.cell? ⟨b, 1, none⟩ = some (.int .i64 p) ∧ w.cell? ⟨b, 2, none⟩ = some (.string (erS er)) :=
  ⟨hO.cell k hk 0, hO.cell k hk 1, hO.cell k hk 2⟩
theorem rref_fr (k : Nat) (hO : Own w0 S w L) (hk : L[k]? = some (rref b A n cap p er)) (j : Nat) : w.frozen? ⟨b, j, none⟩ = false := hO.frozen k hk j
theorem rref_pos (k : Nat) (hO : Own w0 S w L) (hk : L[k]? = some (rref b A n cap p er)) (p' : Nat) : Own w0 S (w.setCell ⟨b, 1, none⟩ (.int .i64 p')) (L.set k (rref b A n cap p' er)) := hO.set k hk 1 _
theorem rref_err (k : Nat) (hO : Own w0 S w L) (hk : L[k]? = some (rref b A n cap p none)) (q : Int × Int) : Own w0 S (w.setCell ⟨b, 2, none⟩ (.string (atB q.1 q.2))) (L.set k (rref b A n cap p (some q))) := hO.set k hk 2 _
end

set_option maxRecDepth 100000 in
set_option maxHeartbeats 4000000 in
theorem rtake_own {w w0 : World} {S : Nat → Prop} {L : List Res} {b : Nat} {A : Option Addr} {n cap p : Nat} {xs : List Int} {er : Option (Int × Int)} (k : Nat) (hO : Own w0 S w L) (hk : L[k]? = some (rref b A n cap p er)) (hA : Cells w A (nums .u8 xs)) (hl : xs.length = n) (hpn : p ≤ n) (hn : n ≤ 1000000000)
    (hx : ∀ x ∈ xs, 0 ≤ x ∧ x < 256) (size : Int) (_ : -9223372036854775808 ≤ size) (_ : size ≤ 9223372036854775807) (v p' : Nat) (er' : Option (Int × Int)) (hr : takeR xs n p er size = (v, p', er')) :
    Calls Try.prog 25 #[.pointer (some ⟨b, 0, none⟩), .int .i64 size] w fun e w' => e = .returned (.int .u32 v) ∧ Own w0 S w' (L.set k (rref b A n cap p' er')) := by
  obtain ⟨c0, c1, c2⟩ := rref_at k hO hk
  have hbl := hO.lt k hk
  have hk1 := Hidd.mk hk
  replace hO := Hidd.mk hO
  replace hx := Hidd.mk hx
  replace hA := Hidd.mk hA
  replace hl := Hidd.mk hl
  clear hk
  unfold takeR at hr
  by_cases hbad : size < 1 ∨ 4 < size
  · rw [if_pos hbad] at hr
    injection hr with h1 hr
    injection hr with h2 h3
    subst h1 h2 h3
    have hst := Hidd.mk (show Own w0 S w (L.set k (rref b A n cap p er)) by rw [set_self hk1.out]; exact hO.out)
    rcases hbad with h | h
    · have d1 : decide (size < 1) = true := by rw [decide_eq_true_eq]; exact h
      go_enter Try.func25, Try.ntmps25
      go_wp2
      go_ret
      exact ⟨rfl, hst.out⟩
    · have d1 : decide (size < 1) = false := by rw [decide_eq_false_iff_not]; omega
      have d2 : decide (4 < size) = true := by rw [decide_eq_true_eq]; exact h
      go_enter Try.func25, Try.ntmps25
      go_wp2
      go_ret
      exact ⟨rfl, hst.out⟩
  · rw [if_neg hbad] at hr
    have d1 : decide (size < 1) = false := by rw [decide_eq_false_iff_not]; omega
    have d2 : decide (4 < size) = false := by rw [decide_eq_false_iff_not]; omega
    obtain ⟨m, rfl⟩ : ∃ m : Nat, size = m := ⟨size.toNat, by omega⟩
    have hm4 : m ≤ 4 := by omega
    have hm1 : 1 ≤ m := by omega
    rw [Int.toNat_natCast] at hr
    clear hbad
    rcases er with _ | ⟨q0, q1⟩
    · replace c2 : w.cell? ⟨b, 2, none⟩ = some (.string ⟨#[]⟩) := c2
      have hw1 : IntKind.i64.wrap ((p : Int) + (m : Int)) = (p : Int) + (m : Int) := IntWalk.i64_in _ (by omega)
      by_cases hlt : p + m ≤ n
      · have e1 : moreB n p none m = true := by unfold moreB; simp; omega
        rw [e1, if_pos rfl] at hr
        injection hr with h1 hr
        injection hr with h2 h3
        subst h1 h2 h3
        clear e1
        have hd : decide ((n : Int) < (p : Int) + (m : Int)) = false := by rw [decide_eq_false_iff_not]; omega
        go_enter Try.func25, Try.ntmps25
        go_wp2
        obtain ⟨W0, hW0⟩ : ∃ zz, zz = World.drew w := ⟨_, rfl⟩
        refine wp_region_flow [([0, 4, 6, 1, 7, 2, 8, 3, 9, 5, 10, 11], none)] (by kernel_rfl) (by kernel_rfl) ?_
        rw [show ({ w with drawn := w.drawn + 1 } : World) = W0 from hW0.symm]
        replace hW0 := Hidd.mk hW0
        simp only [opsF, List.map_cons, List.map_nil, List.getD_cons_succ, List.getD_cons_zero, Option.map_some, Option.map_none]
        have hO2 := Hidd.mk (show Own w0 S W0 L by rw [hW0.out]; exact hO.out.drew)
        have hA2 := Hidd.mk (show Cells W0 A (nums .u8 xs) by rw [hW0.out]; exact hA.out.drew)
        obtain ⟨c0, c1, c2⟩ := rref_at k hO2.out hk1.out
        clear hW0 hO hA
        refine FlW.heads (fun zz => zz = _) rfl ?_
        repeat (first | (refine StQ.skip (by rfl) ?_; simp only [Act.put, List.setIfInBounds_toArray, List.set_cons_zero, List.set_cons_succ]) | (refine StQ.go' (by rfl) (Exists.intro ?_ (And.intro (fun w' hS => ?_) ?_)); rotate_left; (focus (rw [hS]; go_simp; try with_reducible rfl)); simp only [Act.put, List.setIfInBounds_toArray, List.set_cons_zero, List.set_cons_succ]))
        refine StQ.nil ?_
        refine FlW.nil (Calm.normal ?_)
        clear hd
        go_wp2
        go_loopw [5, 6] (fun v5 v6 wr => ∃ (i u : Nat), v6 = .int .i64 i ∧ i ≤ m ∧ v5 = .int .u32 u ∧ Hidd (valN ((xs.drop p).take i) = u) ∧ Hidd (Own w0 S wr L) ∧ Hidd (Cells wr A (nums .u8 xs))) (fun _ v6 _ => m - (intOf v6).toNat)
        case atStart => exact ⟨0, 0, rfl, Nat.zero_le _, rfl, ⟨rfl⟩, hO2, hA2⟩
        case round =>
          clear hO2 hA2 c0 c1 c2
          obtain ⟨i, u, rfl, hi, rfl, hu, ho, hA⟩ := hrel
          by_cases hlt : i < m
          · obtain ⟨y, hy⟩ : ∃ y, (xs.drop p)[i]? = some y := ⟨_, List.getElem?_eq_getElem (by rw [List.length_drop, hl.out]; omega)⟩
            have hyx : xs[p + i]? = some y := by rw [List.getElem?_drop] at hy; exact hy
            have hyb := hx.out y (List.mem_of_getElem? hyx)
            obtain ⟨z, rfl⟩ := Int.eq_ofNat_of_zero_le hyb.1
            have hz : z < 256 := by omega
            have hu2 := Hidd.mk (valN_take hy)
            rw [hu.out] at hu2
            have hub := valN_lt (xs.drop p) (fun x h => hx.out x (List.mem_of_mem_drop h)) i
            rw [hu.out] at hub
            have hub4 : u < 16777216 := Nat.lt_of_lt_of_le hub (Nat.le_trans (Nat.pow_le_pow_right (by decide) (show i ≤ 3 by omega)) (by decide))
            have e2 : IntKind.u32.wrap ((u : Int) * 256) = (u : Int) * 256 := by rw [IntKind.wrap_u32']; omega
            have e3 : IntKind.u32.wrap (z : Int) = z := by rw [IntKind.wrap_u32']; omega
            have e4 : IntKind.u32.wrap ((u : Int) * 256 + z) = (u : Int) * 256 + z := by rw [IntKind.wrap_u32']; omega
            obtain ⟨q, hq⟩ : ∃ q, p + i = q := ⟨_, rfl⟩
            rw [hq] at hyx
            have hw2 : IntKind.i64.wrap ((p : Int) + (i : Int)) = (q : Int) := by rw [IntWalk.i64_in _ (by omega)]; omega
            have b0 : (0 : Int) ≤ (q : Int) := by omega
            have b1 : (q : Int) < (n : Int) := by omega
            clear hub hyb hy hq
            go_wp2
            obtain ⟨W0, hW0⟩ : ∃ zz, zz = World.drew wr := ⟨_, rfl⟩
            refine wp_region_flow [([0, 2, 6, 10, 1, 3, 7, 4, 8, 5, 9, 11, 12, 13, 14, 15, 16], none)] (by kernel_rfl) (by kernel_rfl) ?_
            rw [show ({ wr with drawn := wr.drawn + 1 } : World) = W0 from hW0.symm]
            replace hW0 := Hidd.mk hW0
            simp only [opsF, List.map_cons, List.map_nil, List.getD_cons_succ, List.getD_cons_zero, Option.map_some, Option.map_none]
            have hO2 := Hidd.mk (show Own w0 S W0 L by rw [hW0.out]; exact ho.out.drew)
            have hA2 := Hidd.mk (show Cells W0 A (nums .u8 xs) by rw [hW0.out]; exact hA.out.drew)
            obtain ⟨c0, c1, c2⟩ := rref_at k hO2.out hk1.out
            obtain ⟨ad, rfl, y0⟩ := hA2.out q _ (show (nums .u8 xs)[q]? = some (.int .u8 (z : Int)) by unfold nums; rw [List.getElem?_map, hyx]; rfl)
            clear hW0 ho hA hyx
            refine FlW.heads (fun zz => zz = _) rfl ?_
            repeat (first | (refine StQ.skip (by rfl) ?_; simp only [Act.put, List.setIfInBounds_toArray, List.set_cons_zero, List.set_cons_succ]) | (refine StQ.go' (by rfl) (Exists.intro ?_ (And.intro (fun w' hS => ?_) ?_)); rotate_left; (focus (rw [hS]; go_simp; try with_reducible rfl)); simp only [Act.put, List.setIfInBounds_toArray, List.set_cons_zero, List.set_cons_succ]))
            refine StQ.nil ?_
            refine FlW.nil (Calm.normal ?_)
            go_wp2
            go_roundw
            case rel => exact ⟨i + 1, u * 256 + z, by go_num, by omega, by go_num, ⟨by rw [hu2.out, Int.toNat_natCast]⟩, hO2, hA2⟩
            case measure => (simp [intOf]; try omega)
          · obtain rfl : i = m := by omega
            obtain ⟨c0, c1, c2⟩ := rref_at k ho.out hk1.out
            have f1 := rref_fr k ho.out hk1.out 1
            go_wp2
            go_ret
            exact ⟨ret_int (by rw [hu.out]), rref_pos k ho.out hk1.out (p + i)⟩
      · have e1 : moreB n p none m = false := by unfold moreB; simp; omega
        have e2 : moreE n p none m = some (4, (p : Int)) := by unfold moreE; rw [if_neg (by decide), if_pos (by omega)]
        rw [e1, e2, if_neg (by decide)] at hr
        injection hr with h1 hr
        injection hr with h2 h3
        subst h1 h2 h3
        clear e1 e2
        have hd : decide ((n : Int) < (p : Int) + (m : Int)) = true := by rw [decide_eq_true_eq]; omega
        go_enter Try.func25, Try.ntmps25
        go_wp2
        obtain ⟨W0, hW0⟩ : ∃ zz, zz = World.drew w := ⟨_, rfl⟩
        refine wp_region_flow [([0, 4, 6, 1, 7, 2, 8, 3, 9, 5, 10, 11], none)] (by kernel_rfl) (by kernel_rfl) ?_
        rw [show ({ w with drawn := w.drawn + 1 } : World) = W0 from hW0.symm]
        replace hW0 := Hidd.mk hW0
        simp only [opsF, List.map_cons, List.map_nil, List.getD_cons_succ, List.getD_cons_zero, Option.map_some, Option.map_none]
        have hO2 := Hidd.mk (show Own w0 S W0 L by rw [hW0.out]; exact hO.out.drew)
        obtain ⟨c0, c1, c2⟩ := rref_at k hO2.out hk1.out
        clear hW0 hO hA
        refine FlW.heads (fun zz => zz = _) rfl ?_
        repeat (first | (refine StQ.skip (by rfl) ?_; simp only [Act.put, List.setIfInBounds_toArray, List.set_cons_zero, List.set_cons_succ]) | (refine StQ.go' (by rfl) (Exists.intro ?_ (And.intro (fun w' hS => ?_) ?_)); rotate_left; (focus (rw [hS]; go_simp; try with_reducible rfl)); simp only [Act.put, List.setIfInBounds_toArray, List.set_cons_zero, List.set_cons_succ]))
        refine StQ.nil ?_
        refine FlW.nil (Calm.normal ?_)
        clear hd
        go_wp2_with (go_at_call 30; refine (at_any 4 p _ (by omega) (by omega) (by omega) (by omega)).mono ?_; rintro e w6 ⟨rfl, hb6⟩; have ho6 := Hidd.mk (hO2.out.ext hb6); (obtain ⟨d0, d1, d2⟩ := rref_at k ho6.out hk1.out); have f2 := rref_fr k ho6.out hk1.out 2; clear hb6 hO2)
        go_ret
        exact ⟨rfl, rref_err k ho6.out hk1.out (4, (p : Int))⟩
    · have e1 : moreB n p (some (q0, q1)) m = false := rfl
      have e2 : moreE n p (some (q0, q1)) m = some (q0, q1) := rfl
      rw [e1, e2, if_neg (by decide)] at hr
      injection hr with h1 hr
      injection hr with h2 h3
      subst h1 h2 h3
      clear e1 e2
      replace c2 : w.cell? ⟨b, 2, none⟩ = some (.string (atB q0 q1)) := c2
      have hne := ne_empty (atB_pos q0 q1)
      have hst := Hidd.mk (show Own w0 S w (L.set k (rref b A n cap p (some (q0, q1)))) by rw [set_self hk1.out]; exact hO.out)
      go_enter Try.func25, Try.ntmps25
      go_wp2
      go_ret
      exact ⟨rfl, hst.out⟩

set_option maxRecDepth 100000 in
set_option maxHeartbeats 4000000 in
theorem rxtext_own {w w0 : World} {S : Nat → Prop} {L : List Res} {b : Nat} {A : Option Addr} {n cap p : Nat} {xs : List Int} {er : Option (Int × Int)} (k : Nat) (hO : Own w0 S w L) (hk : L[k]? = some (rref b A n cap p er)) (hA : Cells w A (nums .u8 xs)) (hl : xs.length = n) (hcap : n ≤ cap) (hpn : p ≤ n) (hn : n ≤ 1000000000)
    (hx : ∀ x ∈ xs, 0 ≤ x ∧ x < 256) (ys : List Int) (p' : Nat) (er' : Option (Int × Int)) (hr : textR xs n p er = (ys, p', er')) :
    Calls Try.prog 24 #[.pointer (some ⟨b, 0, none⟩)] w fun e w' => ∃ A2 c2, e = .returned (.slice A2 ys.length c2) ∧ Own w0 S w' (row 5 1 (.slice A2 ys.length c2) ys.length (nums .u8 ys) :: L.set k (rref b A n cap p' er')) := by
  obtain ⟨c0, c1, c2⟩ := rref_at k hO hk
  have hbl := hO.lt k hk
  have hk1 := Hidd.mk hk
  replace hO := Hidd.mk hO
  replace hx := Hidd.mk hx
  replace hA := Hidd.mk hA
  replace hl := Hidd.mk hl
  clear hk
  unfold textR at hr
  rcases er with _ | ⟨q0, q1⟩
  · replace c2 : w.cell? ⟨b, 2, none⟩ = some (.string ⟨#[]⟩) := c2
    by_cases hp : p < n
    · have e1 : moreB n p none 1 = true := by unfold moreB; simp; omega
      rw [e1, if_pos rfl] at hr
      obtain ⟨y, hy⟩ : ∃ y, xs[p]? = some y := ⟨_, List.getElem?_eq_getElem (by rw [hl.out]; omega)⟩
      have hyd : xs.getD p 0 = y := by rw [List.getD_eq_getElem?_getD, hy]; rfl
      have hyb := hx.out y (List.mem_of_getElem? hy)
      rw [hyd] at hr
      obtain ⟨t, rfl⟩ := Int.eq_ofNat_of_zero_le hyb.1
      have ht : t < 256 := by omega
      rw [Int.toNat_natCast] at hr
      have hyn : Hidd ((nums .u8 xs)[p]? = some (.int .u8 (t : Int))) := ⟨by unfold nums; rw [List.getElem?_map, hy]; rfl⟩
      have hd1 : decide (n ≤ p) = false := by rw [decide_eq_false_iff_not]; omega
      have w1 : IntKind.i64.wrap ((p : Int) + 1) = (p : Int) + 1 := IntWalk.i64_in _ (by omega)
      have w2 : IntKind.i64.wrap ((p : Int) + 1 + (t : Int)) = (p : Int) + 1 + (t : Int) := IntWalk.i64_in _ (by omega)
      have w3 : IntKind.i64.wrap (t : Int) = t := IntWalk.i64_in _ (by omega)
      have b0 : (0 : Int) ≤ (p : Int) := by omega
      have b1 : (p : Int) < (n : Int) := by omega
      clear e1 hy hyd hyb
      by_cases hpt : p + 1 + t ≤ n
      · have e2 : moreB n p none (1 + (t : Int)) = true := by unfold moreB; simp; omega
        rw [e2, if_pos rfl] at hr
        injection hr with h1 hr
        injection hr with h2 h3
        subst h2 h3
        have hyl : Hidd (ys = (xs.drop (p + 1)).take t) := ⟨h1.symm⟩
        have hysl : ys.length = t := by rw [← h1, List.length_take, List.length_drop, hl.out]; omega
        rw [hysl]
        replace hysl := Hidd.mk hysl
        clear h1 e2
        have hd2 : decide ((n : Int) < (p : Int) + 1 + (t : Int)) = false := by rw [decide_eq_false_iff_not]; omega
        go_enter Try.func24, Try.ntmps24
        go_wp2
        obtain ⟨W0, hW0⟩ : ∃ zz, zz = World.drew w := ⟨_, rfl⟩
        refine wp_region_flow [([0, 4, 1, 5, 2, 6, 3, 7, 8, 9, 10, 11, 16, 20, 28, 12, 17, 21, 29, 13, 18, 22, 30, 14, 19, 23, 31, 15, 24, 32, 25, 26, 27, 33, 34], none)] (by kernel_rfl) (by kernel_rfl) ?_
        rw [show ({ w with drawn := w.drawn + 1 } : World) = W0 from hW0.symm]
        replace hW0 := Hidd.mk hW0
        simp only [opsF, List.map_cons, List.map_nil, List.getD_cons_succ, List.getD_cons_zero, Option.map_some, Option.map_none]
        have hO2 := Hidd.mk (show Own w0 S W0 L by rw [hW0.out]; exact hO.out.drew)
        have hA2 := Hidd.mk (show Cells W0 A (nums .u8 xs) by rw [hW0.out]; exact hA.out.drew)
        obtain ⟨c0, c1, c2⟩ := rref_at k hO2.out hk1.out
        obtain ⟨ad, rfl, y0⟩ := hA2.out p _ hyn.out
        clear hW0 hO hA
        refine FlW.heads (fun zz => zz = _) rfl ?_
        repeat (first | (refine StQ.skip (by rfl) ?_; simp only [Act.put, List.setIfInBounds_toArray, List.set_cons_zero, List.set_cons_succ]) | (refine StQ.go' (by rfl) (Exists.intro ?_ (And.intro (fun w' hS => ?_) ?_)); rotate_left; (focus (rw [hS]; go_simp; try with_reducible rfl)); simp only [Act.put, List.setIfInBounds_toArray, List.set_cons_zero, List.set_cons_succ]))
        refine StQ.nil ?_
        refine FlW.nil (Calm.normal ?_)
        clear hd1 hd2
        go_wp2
        obtain ⟨W1, hW1⟩ : ∃ zz, zz = World.drew W0 := ⟨_, rfl⟩
        refine wp_region_flow [([0, 4, 1, 5, 2, 6, 3, 7, 8, 9, 10, 11], none)] (by kernel_rfl) (by kernel_rfl) ?_
        rw [show ({ W0 with drawn := W0.drawn + 1 } : World) = W1 from hW1.symm]
        replace hW1 := Hidd.mk hW1
        simp only [opsF, List.map_cons, List.map_nil, List.getD_cons_succ, List.getD_cons_zero, Option.map_some, Option.map_none]
        have hO3 := Hidd.mk (show Own w0 S W1 L by rw [hW1.out]; exact hO2.out.drew)
        have hA3 := Hidd.mk (show Cells W1 (some ad) (nums .u8 xs) by rw [hW1.out]; exact hA2.out.drew)
        obtain ⟨c0, c1, c2⟩ := rref_at k hO3.out hk1.out
        obtain ⟨ad', e1, y0⟩ := hA3.out p _ hyn.out
        injection e1 with e1
        subst e1
        clear hW1 hO2 hA2
        refine FlW.heads (fun zz => zz = _) rfl ?_
        repeat (first | (refine StQ.skip (by rfl) ?_; simp only [Act.put, List.setIfInBounds_toArray, List.set_cons_zero, List.set_cons_succ]) | (refine StQ.go' (by rfl) (Exists.intro ?_ (And.intro (fun w' hS => ?_) ?_)); rotate_left; (focus (rw [hS]; go_simp; try with_reducible rfl)); simp only [Act.put, List.setIfInBounds_toArray, List.set_cons_zero, List.set_cons_succ]))
        refine StQ.nil ?_
        refine FlW.nil (Calm.normal ?_)
        have s5 : (0 : Int) ≤ (p : Int) + 1 := by omega
        have s6 : (p : Int) + 1 ≤ (p : Int) + 1 + (t : Int) := by omega
        have s7 : (p : Int) + 1 + (t : Int) ≤ (cap : Int) := by omega
        have s8 : (0 : Int) ≤ (p : Int) + 1 + (t : Int) := by omega
        have s9 : p + 1 + t - (p + 1) = t := by omega
        have s10 : max ((p : Int) + 1 + (t : Int)) 0 = (p : Int) + 1 + (t : Int) := by omega
        have s11 : ((p : Int) + 1 + (t : Int)).toNat = p + 1 + t := by omega
        by_cases hcc : cap = p + 1
        case' pos =>
          have s12 : (p : Int) + 1 + (t : Int) ≤ (p : Int) + 1 := by omega
          have hB : Hidd (∀ w : World, Cells w (some ad) (nums .u8 xs) → Cells w (some ad) (nums .u8 ys)) := ⟨fun w h => by
            have : ys = [] := by rw [hyl.out]; exact List.length_eq_zero_iff.1 (by rw [List.length_take]; omega)
            rw [this]; exact Cells.nil _ _⟩
        case' neg =>
          have hB : Hidd (∀ w : World, Cells w (some ad) (nums .u8 xs) → Cells w (some (ad.add (p + 1))) (nums .u8 ys)) := ⟨fun w h => by
            have h' := (h.drop (p + 1)).take t
            rw [← nums_drop, ← nums_take, ← hyl.out] at h'
            exact h'⟩
        all_goals
          go_wp2
          obtain ⟨W2, hW2⟩ : ∃ zz, zz = World.drew W1 := ⟨_, rfl⟩
          refine wp_region_flow [([1, 5, 10, 15, 2, 6, 11, 3, 7, 12, 4, 8, 13, 9, 14, 16, 17], some (0, [true])), ([], some (18, [false, false])), ([19], none)] (by kernel_rfl) (by kernel_rfl) ?_
          rw [show ({ W1 with drawn := W1.drawn + 1 } : World) = W2 from hW2.symm]
          replace hW2 := Hidd.mk hW2
          simp only [opsF, List.map_cons, List.map_nil, List.getD_cons_succ, List.getD_cons_zero, Option.map_some, Option.map_none]
          have hO4 := Hidd.mk (show Own w0 S W2 L by rw [hW2.out]; exact hO3.out.drew)
          have hA4 := Hidd.mk (show Cells W2 (some ad) (nums .u8 xs) by rw [hW2.out]; exact hA3.out.drew)
          obtain ⟨c0, c1, c2⟩ := rref_at k hO4.out hk1.out
          have hbl := hO4.out.lt k hk1.out
          clear hW2 hO3 hA3
          refine FlW.stage (fun zz => Kept (fun _ => False) W2 zz) (Kept.refl _ _) ?_
          repeat (first | (refine StQ.skip (by rfl) ?_; simp only [Act.put, List.setIfInBounds_toArray, List.set_cons_zero, List.set_cons_succ]) | (refine StQ.go' (by rfl) (Exists.intro ?_ (And.intro (fun w' hS => ?_) ?_)); rotate_left; (focus (have hc := Kept.cell0 hS; go_simp; try with_reducible rfl)); simp only [Act.put, List.setIfInBounds_toArray, List.set_cons_zero, List.set_cons_succ]))
          refine StQ.nil ?_
          refine FlO.go (by rfl) (fun K hK => ?_); go_simp; refine hK.out _ _ (.inr ⟨Kept.alloc _ _ _, trivial⟩) ?_; clear hK K
          refine FlW.stage (fun _ => True) trivial (StQ.nil ?_)
          refine FlO.go (by rfl) (fun K hK => ?_)
          (refine appb_op _ _ rfl (row_lit hO4.out 5 1 0 #[] [] rfl rfl (by decide)) 0 _ 0 0 [] rfl rfl _ t _ ys rfl hysl.out (hB.out _ (hA4.out.below (below_alloc (Below.refl _ _) _))) (by omega) ?_; intro A6 c6 w6 ho6 _)
          refine hK.out _ _ (.inr trivial) ?_
          clear hK K
          refine FlW.heads (fun zz => zz = _) rfl ?_
          repeat (first | (refine StQ.skip (by rfl) ?_; simp only [Act.put, List.setIfInBounds_toArray, List.set_cons_zero, List.set_cons_succ]) | (refine StQ.go' (by rfl) (Exists.intro ?_ (And.intro (fun w' hS => ?_) ?_)); rotate_left; (focus (rw [hS]; go_simp; try with_reducible rfl)); simp only [Act.put, List.setIfInBounds_toArray, List.set_cons_zero, List.set_cons_succ]))
          refine StQ.nil ?_
          refine FlW.nil (Calm.normal ?_)
          replace ho6 : Own w0 S w6 (row 5 1 (.slice A6 (0 + t) c6) (0 + t) (nums .u8 ([] ++ ys)) :: L) := ho6
          rw [Nat.zero_add, List.nil_append] at ho6
          have hk6 : (row 5 1 (.slice A6 t c6) t (nums .u8 ys) :: L)[k + 1]? = some (rref b (some ad) n cap p none) := hk1.out
          obtain ⟨c0, c1, c2⟩ := rref_at (k + 1) ho6 hk6
          have f1 := rref_fr (k + 1) ho6 hk6 1
          have hend := Hidd.mk (rref_pos (k + 1) ho6 hk6 (p + 1 + t))
          clear ho6 hO4 hA4 hk6
          go_wp2
          go_ret
          exact ⟨A6, c6, rfl, hend.out⟩
      · have e2 : moreB n p none (1 + (t : Int)) = false := by unfold moreB; simp; omega
        have e3 : moreE n p none (1 + (t : Int)) = some (4, (p : Int)) := by unfold moreE; rw [if_neg (by decide), if_pos (by omega)]
        rw [e2, e3, if_neg (by decide)] at hr
        injection hr with h1 hr
        injection hr with h2 h3
        subst h1 h2 h3
        clear e2 e3
        have hd2 : decide ((n : Int) < (p : Int) + 1 + (t : Int)) = true := by rw [decide_eq_true_eq]; omega
        go_enter Try.func24, Try.ntmps24
        go_wp2
        obtain ⟨W0, hW0⟩ : ∃ zz, zz = World.drew w := ⟨_, rfl⟩
        refine wp_region_flow [([0, 4, 1, 5, 2, 6, 3, 7, 8, 9, 10, 11, 16, 20, 28, 12, 17, 21, 29, 13, 18, 22, 30, 14, 19, 23, 31, 15, 24, 32, 25, 26, 27, 33, 34], none)] (by kernel_rfl) (by kernel_rfl) ?_
        rw [show ({ w with drawn := w.drawn + 1 } : World) = W0 from hW0.symm]
        replace hW0 := Hidd.mk hW0
        simp only [opsF, List.map_cons, List.map_nil, List.getD_cons_succ, List.getD_cons_zero, Option.map_some, Option.map_none]
        have hO2 := Hidd.mk (show Own w0 S W0 L by rw [hW0.out]; exact hO.out.drew)
        have hA2 := Hidd.mk (show Cells W0 A (nums .u8 xs) by rw [hW0.out]; exact hA.out.drew)
        obtain ⟨c0, c1, c2⟩ := rref_at k hO2.out hk1.out
        obtain ⟨ad, rfl, y0⟩ := hA2.out p _ hyn.out
        clear hW0 hO hA
        refine FlW.heads (fun zz => zz = _) rfl ?_
        repeat (first | (refine StQ.skip (by rfl) ?_; simp only [Act.put, List.setIfInBounds_toArray, List.set_cons_zero, List.set_cons_succ]) | (refine StQ.go' (by rfl) (Exists.intro ?_ (And.intro (fun w' hS => ?_) ?_)); rotate_left; (focus (rw [hS]; go_simp; try with_reducible rfl)); simp only [Act.put, List.setIfInBounds_toArray, List.set_cons_zero, List.set_cons_succ]))
        refine StQ.nil ?_
        refine FlW.nil (Calm.normal ?_)
        clear hd1 hd2
        go_wp2_with (go_at_call 30; refine (at_any 4 p _ (by omega) (by omega) (by omega) (by omega)).mono ?_; rintro e w6 ⟨rfl, hb6⟩; have ho6 := Hidd.mk (hO2.out.ext hb6); (obtain ⟨d0, d1, d2⟩ := rref_at k ho6.out hk1.out); have f2 := rref_fr k ho6.out hk1.out 2; clear hb6 hO2)
        go_ret
        exact ⟨none, 0, rfl, row_nil (rref_err k ho6.out hk1.out (4, (p : Int))) _ _⟩
    · have e2 : moreB n p none 1 = false := by unfold moreB; simp; omega
      have e3 : moreE n p none 1 = some (4, (p : Int)) := by unfold moreE; rw [if_neg (by decide), if_pos (by omega)]
      rw [e2, e3, if_neg (by decide)] at hr
      injection hr with h1 hr
      injection hr with h2 h3
      subst h1 h2 h3
      clear e2 e3
      have hd1 : decide (n ≤ p) = true := by rw [decide_eq_true_eq]; omega
      go_enter Try.func24, Try.ntmps24
      go_wp2
      obtain ⟨W0, hW0⟩ : ∃ zz, zz = World.drew w := ⟨_, rfl⟩
      refine wp_region_flow [([0, 4, 1, 5, 2, 6, 3, 7, 8, 9, 10, 11, 16, 20, 28, 12, 17, 21, 29, 13, 18, 22, 30, 14, 19, 23, 31, 15, 24, 32, 25, 26, 27, 33, 34], none)] (by kernel_rfl) (by kernel_rfl) ?_
      rw [show ({ w with drawn := w.drawn + 1 } : World) = W0 from hW0.symm]
      replace hW0 := Hidd.mk hW0
      simp only [opsF, List.map_cons, List.map_nil, List.getD_cons_succ, List.getD_cons_zero, Option.map_some, Option.map_none]
      have hO2 := Hidd.mk (show Own w0 S W0 L by rw [hW0.out]; exact hO.out.drew)
      obtain ⟨c0, c1, c2⟩ := rref_at k hO2.out hk1.out
      clear hW0 hO hA
      refine FlW.heads (fun zz => zz = _) rfl ?_
      repeat (first | (refine StQ.skip (by rfl) ?_; simp only [Act.put, List.setIfInBounds_toArray, List.set_cons_zero, List.set_cons_succ]) | (refine StQ.go' (by rfl) (Exists.intro ?_ (And.intro (fun w' hS => ?_) ?_)); rotate_left; (focus (rw [hS]; go_simp; try with_reducible rfl)); simp only [Act.put, List.setIfInBounds_toArray, List.set_cons_zero, List.set_cons_succ]))
      refine StQ.nil ?_
      refine FlW.nil (Calm.normal ?_)
      clear hd1
      go_wp2_with (go_at_call 30; refine (at_any 4 p _ (by omega) (by omega) (by omega) (by omega)).mono ?_; rintro e w6 ⟨rfl, hb6⟩; have ho6 := Hidd.mk (hO2.out.ext hb6); (obtain ⟨d0, d1, d2⟩ := rref_at k ho6.out hk1.out); have f2 := rref_fr k ho6.out hk1.out 2; clear hb6 hO2)
      go_ret
      exact ⟨none, 0, rfl, row_nil (rref_err k ho6.out hk1.out (4, (p : Int))) _ _⟩
  · have e1 : moreB n p (some (q0, q1)) 1 = false := rfl
    have e2 : moreE n p (some (q0, q1)) 1 = some (q0, q1) := rfl
    rw [e1, e2, if_neg (by decide)] at hr
    injection hr with h1 hr
    injection hr with h2 h3
    subst h1 h2 h3
    clear e1 e2
    replace c2 : w.cell? ⟨b, 2, none⟩ = some (.string (atB q0 q1)) := c2
    have hne := ne_empty (atB_pos q0 q1)
    have hst := Hidd.mk (show Own w0 S w (L.set k (rref b A n cap p (some (q0, q1)))) by rw [set_self hk1.out]; exact hO.out)
    go_enter Try.func24, Try.ntmps24
    go_wp2
    go_ret
    exact ⟨none, 0, rfl, row_nil hst.out _ _⟩

set_option maxRecDepth 100000 in
set_option maxHeartbeats 4000000 in
theorem rxend_own {w w0 : World} {S : Nat → Prop} {L : List Res} {b : Nat} {A : Option Addr} {n cap p : Nat} {er : Option (Int × Int)} (k : Nat) (hO : Own w0 S w L) (hk : L[k]? = some (rref b A n cap p er)) (hn : n ≤ 1000000000) (er' : Option (Int × Int)) (hr : endE n p er = er') :
    Calls Try.prog 29 #[.pointer (some ⟨b, 0, none⟩)] w fun e w' => e = .returned (.string (erS er')) ∧ Own w (fun _ => False) w' [] := by
  obtain ⟨c0, c1, c2⟩ := rref_at k hO hk
  have hbl := hO.lt k hk
  have hk1 := Hidd.mk hk
  replace hO := Hidd.mk hO
  clear hk
  have hn0 := Hidd.mk (Own.nil w (fun _ => False))
  rcases er with _ | ⟨q0, q1⟩
  · replace c2 : w.cell? ⟨b, 2, none⟩ = some (.string ⟨#[]⟩) := c2
    by_cases hp : p < n
    · have e1 : endE n p none = some (5, (p : Int)) := by unfold endE; rw [if_neg (by decide), if_pos hp]
      rw [e1] at hr
      subst hr
      have hd1 : decide (p < n) = true := by rw [decide_eq_true_eq]; omega
      go_enter Try.func29, Try.ntmps29
      go_wp2
      obtain ⟨W0, hW0⟩ : ∃ zz, zz = World.drew w := ⟨_, rfl⟩
      refine wp_region_flow [([0, 1, 2, 3, 4, 5, 6, 10, 7, 11, 8, 12, 9, 13, 14, 15, 16], none)] (by kernel_rfl) (by kernel_rfl) ?_
      rw [show ({ w with drawn := w.drawn + 1 } : World) = W0 from hW0.symm]
      replace hW0 := Hidd.mk hW0
      simp only [opsF, List.map_cons, List.map_nil, List.getD_cons_succ, List.getD_cons_zero, Option.map_some, Option.map_none]
      have hO2 := Hidd.mk (show Own w0 S W0 L by rw [hW0.out]; exact hO.out.drew)
      have hn2 := Hidd.mk (show Own w (fun _ => False) W0 [] by rw [hW0.out]; exact hn0.out.drew)
      obtain ⟨c0, c1, c2⟩ := rref_at k hO2.out hk1.out
      replace c2 : W0.cell? ⟨b, 2, none⟩ = some (.string ⟨#[]⟩) := c2
      clear hW0 hO hn0
      refine FlW.heads (fun zz => zz = _) rfl ?_
      repeat (first | (refine StQ.skip (by rfl) ?_; simp only [Act.put, List.setIfInBounds_toArray, List.set_cons_zero, List.set_cons_succ]) | (refine StQ.go' (by rfl) (Exists.intro ?_ (And.intro (fun w' hS => ?_) ?_)); rotate_left; (focus (rw [hS]; go_simp; try with_reducible rfl)); simp only [Act.put, List.setIfInBounds_toArray, List.set_cons_zero, List.set_cons_succ]))
      refine StQ.nil ?_
      refine FlW.nil (Calm.normal ?_)
      go_wp2_with (go_at_call 30; refine (at_any 5 p _ (by omega) (by omega) (by omega) (by omega)).mono ?_; rintro e w6 ⟨rfl, hb6⟩; replace hn2 := Hidd.mk (hn2.out.ext hb6); clear hb6 hO2)
      go_ret
      exact ⟨rfl, hn2.out⟩
    · have e1 : endE n p none = none := by unfold endE; rw [if_neg (by decide), if_neg hp]
      rw [e1] at hr
      subst hr
      have hd1 : decide (p < n) = false := by rw [decide_eq_false_iff_not]; omega
      go_enter Try.func29, Try.ntmps29
      go_wp2
      obtain ⟨W0, hW0⟩ : ∃ zz, zz = World.drew w := ⟨_, rfl⟩
      refine wp_region_flow [([0, 1, 2, 3, 4, 5, 6, 10, 7, 11, 8, 12, 9, 13, 14, 15, 16], none)] (by kernel_rfl) (by kernel_rfl) ?_
      rw [show ({ w with drawn := w.drawn + 1 } : World) = W0 from hW0.symm]
      replace hW0 := Hidd.mk hW0
      simp only [opsF, List.map_cons, List.map_nil, List.getD_cons_succ, List.getD_cons_zero, Option.map_some, Option.map_none]
      have hO2 := Hidd.mk (show Own w0 S W0 L by rw [hW0.out]; exact hO.out.drew)
      have hn2 := Hidd.mk (show Own w (fun _ => False) W0 [] by rw [hW0.out]; exact hn0.out.drew)
      obtain ⟨c0, c1, c2⟩ := rref_at k hO2.out hk1.out
      replace c2 : W0.cell? ⟨b, 2, none⟩ = some (.string ⟨#[]⟩) := c2
      clear hW0 hO hn0
      refine FlW.heads (fun zz => zz = _) rfl ?_
      repeat (first | (refine StQ.skip (by rfl) ?_; simp only [Act.put, List.setIfInBounds_toArray, List.set_cons_zero, List.set_cons_succ]) | (refine StQ.go' (by rfl) (Exists.intro ?_ (And.intro (fun w' hS => ?_) ?_)); rotate_left; (focus (rw [hS]; go_simp; try with_reducible rfl)); simp only [Act.put, List.setIfInBounds_toArray, List.set_cons_zero, List.set_cons_succ]))
      refine StQ.nil ?_
      refine FlW.nil (Calm.normal ?_)
      go_wp2
      go_ret
      exact ⟨rfl, hn2.out⟩
  · have e1 : endE n p (some (q0, q1)) = some (q0, q1) := rfl
    rw [e1] at hr
    subst hr
    replace c2 : w.cell? ⟨b, 2, none⟩ = some (.string (atB q0 q1)) := c2
    have hne := ne_empty (atB_pos q0 q1)
    go_enter Try.func29, Try.ntmps29
    go_wp2
    obtain ⟨W0, hW0⟩ : ∃ zz, zz = World.drew w := ⟨_, rfl⟩
    refine wp_region_flow [([0, 1, 2, 3, 4, 5, 6, 10, 7, 11, 8, 12, 9, 13, 14, 15, 16], none)] (by kernel_rfl) (by kernel_rfl) ?_
    rw [show ({ w with drawn := w.drawn + 1 } : World) = W0 from hW0.symm]
    replace hW0 := Hidd.mk hW0
    simp only [opsF, List.map_cons, List.map_nil, List.getD_cons_succ, List.getD_cons_zero, Option.map_some, Option.map_none]
    have hO2 := Hidd.mk (show Own w0 S W0 L by rw [hW0.out]; exact hO.out.drew)
    have hn2 := Hidd.mk (show Own w (fun _ => False) W0 [] by rw [hW0.out]; exact hn0.out.drew)
    obtain ⟨c0, c1, c2⟩ := rref_at k hO2.out hk1.out
    replace c2 : W0.cell? ⟨b, 2, none⟩ = some (.string (atB q0 q1)) := c2
    clear hW0 hO hn0
    refine FlW.heads (fun zz => zz = _) rfl ?_
    repeat (first | (refine StQ.skip (by rfl) ?_; simp only [Act.put, List.setIfInBounds_toArray, List.set_cons_zero, List.set_cons_succ]) | (refine StQ.go' (by rfl) (Exists.intro ?_ (And.intro (fun w' hS => ?_) ?_)); rotate_left; (focus (rw [hS]; go_simp; try with_reducible rfl)); simp only [Act.put, List.setIfInBounds_toArray, List.set_cons_zero, List.set_cons_succ]))
    refine StQ.nil ?_
    refine FlW.nil (Calm.normal ?_)
    go_wp2
    go_ret
    exact ⟨rfl, hn2.out⟩
end Go.Proofs.Ytmbbfcpoiecfhaa
