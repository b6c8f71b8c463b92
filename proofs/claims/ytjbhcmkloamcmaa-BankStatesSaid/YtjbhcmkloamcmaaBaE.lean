/- The reader: Take, Text. -/
import Derived.Test.YtjbhcmkloamcmaaBaD
namespace Go.Proofs.Ytjbhcmkloamcmaa
open Go.RowKit

theorem set_get {α : Type} {l : List α} {k : Nat} {x y : α} (h : l[k]? = some x) : (l.set k y)[k]? = some y := by
  rw [List.getElem?_set_self (List.getElem?_eq_some_iff.1 h).1]
theorem set_twice {α : Type} (l : List α) (k : Nat) (x y : α) : (l.set k x).set k y = l.set k y := List.set_set ..

set_option maxRecDepth 100000 in
set_option maxHeartbeats 4000000 in
theorem take_own {w w0 : World} {S : Nat → Prop} {L : List Res} {b : Nat} {A : Option Addr} {n cap p : Nat} {xs : List Int} {er : Option (Int × Int)} {ev : Value} (k : Nat) (hO : Own w0 S w L) (hk : L[k]? = some (rdr b A n cap xs p er ev)) (hpn : p ≤ n) (hn : n ≤ 1000000000)
    (hx : ∀ x ∈ xs, 0 ≤ x ∧ x < 256) (size : Int) (v p' : Nat) (er' : Option (Int × Int)) (hr : takeR xs n p er size = (v, p', er')) :
    Calls Try.prog 31 #[.pointer (some ⟨b, 0, none⟩), .int .i64 size] w fun e w' => e = .returned (.int .u32 v) ∧ ∃ ev', Own w0 S w' (L.set k (rdr b A n cap xs p' er' ev')) := by
  unfold takeR at hr
  by_cases hbad : size < 1 ∨ 4 < size
  · rw [if_pos hbad] at hr
    injection hr with h1 hr
    injection hr with h2 h3
    subst h1 h2 h3
    have hst := Hidd.mk (show Own w0 S w (L.set k (rdr b A n cap xs p er ev)) by rw [set_self hk]; exact hO)
    clear hO hk hx hpn hn
    rcases hbad with h | h
    · have d1 : decide (size < 1) = true := by rw [decide_eq_true_eq]; exact h
      clear h
      go_enter Try.func31, Try.ntmps31
      go_wp2
      go_ret
      exact ⟨rfl, _, hst.out⟩
    · have d1 : decide (size < 1) = false := by rw [decide_eq_false_iff_not]; omega
      have d2 : decide (4 < size) = true := by rw [decide_eq_true_eq]; exact h
      clear h
      go_enter Try.func31, Try.ntmps31
      go_wp2
      go_ret
      exact ⟨rfl, _, hst.out⟩
  · rw [if_neg hbad] at hr
    have d1 : decide (size < 1) = false := by rw [decide_eq_false_iff_not]; omega
    have d2 : decide (4 < size) = false := by rw [decide_eq_false_iff_not]; omega
    obtain ⟨m, rfl⟩ : ∃ m : Nat, size = m := ⟨size.toNat, by omega⟩
    have hm4 : m ≤ 4 := by omega
    have hm1 : 1 ≤ m := by omega
    rw [Int.toNat_natCast] at hr
    obtain ⟨c, hc⟩ : ∃ c, moreB n p er m = c := ⟨_, rfl⟩
    obtain ⟨er1, her⟩ : ∃ e, moreE n p er m = e := ⟨_, rfl⟩
    rw [hc, her] at hr
    have hll := Hidd.mk (show RdIn w b A n cap xs p er ev from hO.get k hk).ll
    replace hO := Hidd.mk hO
    replace hx := Hidd.mk hx
    have hk1 := Hidd.mk hk
    clear hk hbad
    cases c
    · rw [if_neg (by decide)] at hr
      injection hr with h1 hr
      injection hr with h2 h3
      subst h1 h2 h3
      replace hc := Hidd.mk hc
      replace her := Hidd.mk her
      go_enter Try.func31, Try.ntmps31
      go_wp2_with (go_at_call 45; refine (more_own k hO.out hk1.out hpn hn m (by omega) (by omega) false hc.out _ her.out).mono ?_; rintro e w7 ⟨rfl, ev', ho7⟩; replace ho7 := Hidd.mk ho7)
      go_ret
      exact ⟨rfl, _, ho7.out⟩
    · rw [if_pos rfl] at hr
      injection hr with h1 hr
      injection hr with h2 h3
      obtain rfl : er = none := by
        unfold moreB at hc
        simp at hc
        exact hc.1
      have hpm : p + m ≤ n := by
        unfold moreB at hc
        simp at hc
        omega
      have her2 : er1 = none := by rw [← her]; unfold moreE; rw [if_neg (by decide), if_neg (by omega)]
      subst her2
      subst h1 h2 h3
      replace hc := Hidd.mk hc
      replace her := Hidd.mk her
      go_enter Try.func31, Try.ntmps31
      go_wp2_with (go_at_call 45; refine (more_own k hO.out hk1.out hpn hn m (by omega) (by omega) true hc.out _ her.out).mono ?_; rintro e w7 ⟨rfl, ev', ho7⟩; replace ho7 := Hidd.mk ho7)
      go_loopw [5, 19] (fun v5 v19 wr => ∃ (i q u : Nat), v19 = .int .i64 i ∧ i ≤ m ∧ q = p + i ∧ v5 = .int .u32 u ∧ Hidd (valN ((xs.drop p).take i) = u) ∧ Hidd (Own w0 S wr (L.set k (rdr b A n cap xs q none ev')))) (fun _ v19 _ => m - (intOf v19).toNat)
      case atStart => exact ⟨0, p, 0, rfl, Nat.zero_le _, rfl, rfl, ⟨rfl⟩, ho7⟩
      case round =>
        clear ho7 hO
        obtain ⟨i, q, u, rfl, hi, hq, rfl, hu, ho⟩ := hrel
        by_cases hlt : i < m
        · obtain ⟨y, hy⟩ : ∃ y, (xs.drop p)[i]? = some y := ⟨_, List.getElem?_eq_getElem (by rw [List.length_drop, hll.out]; omega)⟩
          have hyx : xs[q]? = some y := by rw [List.getElem?_drop] at hy; rw [hq]; exact hy
          have hyb := hx.out y (List.mem_of_getElem? hyx)
          obtain ⟨z, rfl⟩ := Int.eq_ofNat_of_zero_le hyb.1
          have hz : z < 256 := by omega
          have hu2 := Hidd.mk (valN_take hy)
          rw [hu.out] at hu2
          have hub := valN_lt (xs.drop p) (fun x h => hx.out x (List.mem_of_mem_drop h)) i
          rw [hu.out] at hub
          have hub4 : u < 16777216 := Nat.lt_of_lt_of_le hub (Nat.le_trans (Nat.pow_le_pow_right (by decide) (show i ≤ 3 by omega)) (by decide))
          have e1 := or_u32 u z hub4 hz
          have e2 : IntKind.u32.wrap ((u : Int) * 256) = (u : Int) * 256 := by rw [IntKind.wrap_u32']; omega
          have e3 : IntKind.u32.wrap (z : Int) = z := by rw [IntKind.wrap_u32']; omega
          have e4 : (u : Int) * 256 % 4294967296 = (u : Int) * 256 := by omega
          have b0 : (0 : Int) ≤ (q : Int) := by omega
          have b1 : (q : Int) < (n : Int) := by omega
          replace hq := Hidd.mk hq
          clear hub hyb hy
          go_wp2
          obtain ⟨wy, hwy⟩ : ∃ zz, zz = World.drew wr := ⟨_, rfl⟩
          refine wp_region_still_lit (by kernel_rfl) (by kernel_rfl) (StW.out ?_)
          rw [show ({ wr with drawn := wr.drawn + 1 } : World) = wy from hwy.symm]
          replace hwy := Hidd.mk hwy
          have hby : Hidd (Own w0 S wy (L.set k (rdr b A n cap xs q none ev'))) := ⟨by rw [hwy.out]; exact ho.out.drew⟩
          clear hwy ho
          have hR : RdIn wy b A n cap xs q none ev' := hby.out.get k (set_get hk1.out)
          obtain ⟨c0, c1, c2⟩ := hR.cells
          have f1 := hR.fr 1
          obtain ⟨ad, rfl, y0⟩ := hR.hr.cells q _ (show (nums .u8 xs)[q]? = some (.int .u8 (z : Int)) by unfold nums; rw [List.getElem?_map, hyx]; rfl)
          clear hR
          replace hyx := Hidd.mk hyx
          repeat (refine StW.go (by rfl) (fun K hK => ?_); go_simp; refine hK.out _ ?_; clear hK K)
          refine StW.nil ?_
          go_wp2
          go_roundw
          case rel => exact ⟨i + 1, q + 1, u * 256 + z, by go_num, by omega, by have := hq.out; omega, by go_num, ⟨by rw [hu2.out, Int.toNat_natCast]⟩, ⟨by have h := rdr_at k hby.out (set_get hk1.out) (q + 1); rw [set_twice] at h; exact h⟩⟩
          case measure => simp [intOf]; omega
        · obtain rfl : i = m := by omega
          subst hq
          go_wp2
          go_ret
          exact ⟨ret_int (by rw [hu.out]), _, ho.out⟩
end Go.Proofs.Ytjbhcmkloamcmaa
