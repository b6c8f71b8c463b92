/- The reader: Text. -/
import Derived.Test.YtmbbfcpoiecfhaaWirE
import Derived.Test.YtmbbfcpoiecfhaaStg
namespace Go.Proofs.Ytmbbfcpoiecfhaa
open Go.RowKit

def textR (xs : List Int) (n p : Nat) (er : Option (Int × Int)) : List Int × Nat × Option (Int × Int) :=
  if moreB n p er 1 = true then
    if moreB n p er (1 + (xs.getD p 0)) = true then ((xs.drop (p + 1)).take (xs.getD p 0).toNat, p + 1 + (xs.getD p 0).toNat, er) else ([], p, moreE n p er (1 + (xs.getD p 0)))
  else ([], p, moreE n p er 1)

set_option maxRecDepth 100000 in
set_option maxHeartbeats 4000000 in
theorem rtext_own {w w0 : World} {S : Nat → Prop} {L : List Res} {b : Nat} {A : Option Addr} {n cap p : Nat} {xs : List Int} {er : Option (Int × Int)} {ev : Value} (k : Nat) (hO : Own w0 S w L) (hk : L[k]? = some (rdr b A n cap xs p er ev)) (hpn : p ≤ n) (hn : n ≤ 1000000000)
    (hx : ∀ x ∈ xs, 0 ≤ x ∧ x < 256) (ys : List Int) (p' : Nat) (er' : Option (Int × Int)) (hr : textR xs n p er = (ys, p', er')) :
    Calls Try.prog 21 #[.pointer (some ⟨b, 0, none⟩)] w fun e w' => ∃ A2 c2, e = .returned (.slice A2 ys.length c2) ∧ ∃ ev', Own w0 S w' (wres 5 1 A2 ys.length c2 (nums .u8 ys) :: L.set k (rdr b A n cap xs p' er' ev')) := by
  have hll := Hidd.mk (show RdIn w b A n cap xs p er ev from hO.get k hk).ll
  have hk1 := Hidd.mk hk
  have hO1 := Hidd.mk hO
  have hx1 := Hidd.mk hx
  clear hO hk hx
  unfold textR at hr
  obtain ⟨c1, hc1⟩ : ∃ c, moreB n p er 1 = c := ⟨_, rfl⟩
  obtain ⟨er1, her1⟩ : ∃ e, moreE n p er 1 = e := ⟨_, rfl⟩
  rw [hc1, her1] at hr
  cases c1
  · rw [if_neg (by decide)] at hr
    injection hr with h1 hr
    injection hr with h2 h3
    subst h1 h2 h3
    replace hc1 := Hidd.mk hc1
    replace her1 := Hidd.mk her1
    go_enter Try.func21, Try.ntmps21
    go_wp2
    obtain ⟨W0, hW0⟩ : ∃ zz, zz = World.drew w := ⟨_, rfl⟩
    refine wp_region_stages [([0], some 1), ([], some 2), ([], some 3), ([4, 5, 6, 7, 8, 9, 10, 11, 12, 13, 14, 15, 16], some 17), ([], some 18), ([], some 19)] (by kernel_rfl) (by kernel_rfl) ?_
    rw [show ({ w with drawn := w.drawn + 1 } : World) = W0 from hW0.symm]
    replace hW0 := Hidd.mk hW0
    simp only [opsOf, List.map_cons, List.map_nil, List.getD_cons_succ, List.getD_cons_zero, Option.map_some, Option.map_none]
    have hO2 := Hidd.mk (show Own w0 S W0 L by rw [hW0.out]; exact hO1.out.drew)
    clear hW0
    refine SgW.one ?_
    repeat (first | (refine StW.skip (by rfl) ?_; simp only [Act.put, List.setIfInBounds_toArray, List.set_cons_zero, List.set_cons_succ]) | (refine StW.go (by rfl) (fun K hK => ?_); go_simp; refine hK.out _ ?_; clear hK K))
    refine StW.nil ?_
    refine OneW.go (by rfl) (fun K hK => ?_)
    go_simp
    refine (more_own k hO2.out hk1.out hpn hn 1 (by decide) (by decide) false hc1.out _ her1.out).mono ?_
    rintro e w1 ⟨rfl, ev', ho1⟩
    refine hK.out _ _ ?_
    clear hK K
    replace ho1 := Hidd.mk ho1
    refine SgW.one ?_
    repeat (first | (refine StW.skip (by rfl) ?_; simp only [Act.put, List.setIfInBounds_toArray, List.set_cons_zero, List.set_cons_succ]) | (refine StW.go (by rfl) (fun K hK => ?_); go_simp; refine hK.out _ ?_; clear hK K))
    refine StW.nil ?_
    refine OneW.go (by rfl) (fun K hK => ?_); go_simp; refine hK.out _ _ ?_; clear hK K
    refine SgW.one ?_
    repeat (first | (refine StW.skip (by rfl) ?_; simp only [Act.put, List.setIfInBounds_toArray, List.set_cons_zero, List.set_cons_succ]) | (refine StW.go (by rfl) (fun K hK => ?_); go_simp; refine hK.out _ ?_; clear hK K))
    refine StW.nil ?_
    refine OneW.go (by rfl) (fun K hK => ?_); go_simp; refine hK.out _ _ ?_; clear hK K
    refine SgW.one ?_
    repeat (first | (refine StW.skip (by rfl) ?_; simp only [Act.put, List.setIfInBounds_toArray, List.set_cons_zero, List.set_cons_succ]) | (refine StW.go (by rfl) (fun K hK => ?_); go_simp; refine hK.out _ ?_; clear hK K))
    refine StW.nil ?_
    refine OneW.skip (by rfl) ?_; simp only [Act.put, List.setIfInBounds_toArray, List.set_cons_zero, List.set_cons_succ]
    refine SgW.one ?_
    repeat (first | (refine StW.skip (by rfl) ?_; simp only [Act.put, List.setIfInBounds_toArray, List.set_cons_zero, List.set_cons_succ]) | (refine StW.go (by rfl) (fun K hK => ?_); go_simp; refine hK.out _ ?_; clear hK K))
    refine StW.nil ?_
    refine OneW.skip (by rfl) ?_; simp only [Act.put, List.setIfInBounds_toArray, List.set_cons_zero, List.set_cons_succ]
    refine SgW.one ?_
    repeat (first | (refine StW.skip (by rfl) ?_; simp only [Act.put, List.setIfInBounds_toArray, List.set_cons_zero, List.set_cons_succ]) | (refine StW.go (by rfl) (fun K hK => ?_); go_simp; refine hK.out _ ?_; clear hK K))
    refine StW.nil ?_
    refine OneW.go (by rfl) (fun K hK => ?_); go_simp; refine hK.out _ _ ?_; clear hK K
    refine SgW.nil (Calm.normal ?_)
    go_wp2
    go_ret
    exact ⟨none, 0, rfl, ev', ho1.out.new (wres 5 1 none 0 0 []) (Below.refl _ _) (wres_nil _ _ _) (fun i hi => by cases hi)⟩
  · rw [if_pos rfl] at hr
    obtain rfl : er = none := by
      unfold moreB at hc1
      simp at hc1
      exact hc1.1
    have hp1 : p + 1 ≤ n := by
      unfold moreB at hc1
      simp at hc1
      omega
    have her2 : er1 = none := by rw [← her1]; unfold moreE; rw [if_neg (by decide), if_neg (by omega)]
    subst her2
    obtain ⟨y, hy⟩ : ∃ y, xs[p]? = some y := ⟨_, List.getElem?_eq_getElem (by rw [hll.out]; omega)⟩
    have hyd : xs.getD p 0 = y := by rw [List.getD_eq_getElem?_getD, hy]; rfl
    have hyb := hx1.out y (List.mem_of_getElem? hy)
    rw [hyd] at hr
    obtain ⟨t, rfl⟩ := Int.eq_ofNat_of_zero_le hyb.1
    have ht : t < 256 := by omega
    rw [Int.toNat_natCast] at hr
    obtain ⟨c2, hc2⟩ : ∃ c, moreB n p none (1 + (t : Int)) = c := ⟨_, rfl⟩
    obtain ⟨er2, her2⟩ : ∃ e, moreE n p none (1 + (t : Int)) = e := ⟨_, rfl⟩
    rw [hc2, her2] at hr
    replace hc1 := Hidd.mk hc1
    replace her1 := Hidd.mk her1
    have hyn : Hidd ((nums .u8 xs)[p]? = some (.int .u8 (t : Int))) := ⟨by unfold nums; rw [List.getElem?_map, hy]; rfl⟩
    replace hy := Hidd.mk hy
    have hw8 : wrap64 (t : Int) = t := by unfold wrap64; omega
    have hw9 : IntKind.i64.wrap (t : Int) = t := IntWalk.i64_in _ (by omega)
    have hw10 : IntKind.i64.wrap (1 + (t : Int)) = 1 + (t : Int) := IntWalk.i64_in _ (by omega)
    have b0 : (0 : Int) ≤ (p : Int) := by omega
    have b1 : (p : Int) < (n : Int) := by omega
    clear hyd hyb
    cases c2
    · rw [if_neg (by decide)] at hr
      injection hr with h1 hr
      injection hr with h2 h3
      subst h1 h2 h3
      replace hc2 := Hidd.mk hc2
      replace her2 := Hidd.mk her2
      go_enter Try.func21, Try.ntmps21
      go_wp2
      obtain ⟨W0, hW0⟩ : ∃ zz, zz = World.drew w := ⟨_, rfl⟩
      refine wp_region_stages [([0], some 1), ([], some 2), ([], some 3), ([4, 5, 6, 7, 8, 9, 10, 11, 12, 13, 14, 15, 16], some 17), ([], some 18), ([], some 19)] (by kernel_rfl) (by kernel_rfl) ?_
      rw [show ({ w with drawn := w.drawn + 1 } : World) = W0 from hW0.symm]
      replace hW0 := Hidd.mk hW0
      simp only [opsOf, List.map_cons, List.map_nil, List.getD_cons_succ, List.getD_cons_zero, Option.map_some, Option.map_none]
      have hO2 := Hidd.mk (show Own w0 S W0 L by rw [hW0.out]; exact hO1.out.drew)
      clear hW0
      refine SgW.one ?_
      repeat (first | (refine StW.skip (by rfl) ?_; simp only [Act.put, List.setIfInBounds_toArray, List.set_cons_zero, List.set_cons_succ]) | (refine StW.go (by rfl) (fun K hK => ?_); go_simp; refine hK.out _ ?_; clear hK K))
      refine StW.nil ?_
      refine OneW.go (by rfl) (fun K hK => ?_)
      go_simp
      refine (more_own k hO2.out hk1.out hpn hn 1 (by decide) (by decide) true hc1.out _ her1.out).mono ?_
      rintro e w1 ⟨rfl, ev', ho1⟩
      refine hK.out _ _ ?_
      clear hK K
      have hR : RdIn w1 b A n cap xs p none ev' := ho1.get k (set_get hk1.out)
      obtain ⟨c0, c1, c2⟩ := hR.cells
      obtain ⟨ad, rfl, y0⟩ := hR.hr.cells p _ hyn.out
      clear hR
      replace ho1 := Hidd.mk ho1
      refine SgW.one ?_
      repeat (first | (refine StW.skip (by rfl) ?_; simp only [Act.put, List.setIfInBounds_toArray, List.set_cons_zero, List.set_cons_succ]) | (refine StW.go (by rfl) (fun K hK => ?_); go_simp; refine hK.out _ ?_; clear hK K))
      refine StW.nil ?_
      refine OneW.go (by rfl) (fun K hK => ?_); go_simp; refine hK.out _ _ ?_; clear hK K
      refine SgW.one ?_
      repeat (first | (refine StW.skip (by rfl) ?_; simp only [Act.put, List.setIfInBounds_toArray, List.set_cons_zero, List.set_cons_succ]) | (refine StW.go (by rfl) (fun K hK => ?_); go_simp; refine hK.out _ ?_; clear hK K))
      refine StW.nil ?_
      refine OneW.go (by rfl) (fun K hK => ?_); go_simp; refine hK.out _ _ ?_; clear hK K
      refine SgW.one ?_
      repeat (first | (refine StW.skip (by rfl) ?_; simp only [Act.put, List.setIfInBounds_toArray, List.set_cons_zero, List.set_cons_succ]) | (refine StW.go (by rfl) (fun K hK => ?_); go_simp; refine hK.out _ ?_; clear hK K))
      refine StW.nil ?_
      refine OneW.go (by rfl) (fun K hK => ?_)
      go_simp
      refine (more_own k ho1.out (set_get hk1.out) hpn hn (1 + (t : Int)) (by omega) (by omega) false hc2.out _ her2.out).mono ?_
      rintro e w2 ⟨rfl, ev2, ho2⟩
      refine hK.out _ _ ?_
      clear hK K
      rw [set_twice] at ho2
      replace ho2 := Hidd.mk ho2
      refine SgW.one ?_
      repeat (first | (refine StW.skip (by rfl) ?_; simp only [Act.put, List.setIfInBounds_toArray, List.set_cons_zero, List.set_cons_succ]) | (refine StW.go (by rfl) (fun K hK => ?_); go_simp; refine hK.out _ ?_; clear hK K))
      refine StW.nil ?_
      refine OneW.go (by rfl) (fun K hK => ?_); go_simp; refine hK.out _ _ ?_; clear hK K
      refine SgW.one ?_
      repeat (first | (refine StW.skip (by rfl) ?_; simp only [Act.put, List.setIfInBounds_toArray, List.set_cons_zero, List.set_cons_succ]) | (refine StW.go (by rfl) (fun K hK => ?_); go_simp; refine hK.out _ ?_; clear hK K))
      refine StW.nil ?_
      refine OneW.go (by rfl) (fun K hK => ?_); go_simp; refine hK.out _ _ ?_; clear hK K
      refine SgW.nil (Calm.normal ?_)
      go_wp2
      go_ret
      exact ⟨none, 0, rfl, ev2, ho2.out.new (wres 5 1 none 0 0 []) (Below.refl _ _) (wres_nil _ _ _) (fun i hi => by cases hi)⟩
    · rw [if_pos rfl] at hr
      injection hr with h1 hr
      injection hr with h2 h3
      have hpt : p + 1 + t ≤ n := by
        unfold moreB at hc2
        simp at hc2
        omega
      have her3 : er2 = none := by rw [← her2]; unfold moreE; rw [if_neg (by decide), if_neg (by omega)]
      subst her3
      subst h2 h3
      have hyl : Hidd (ys = (xs.drop (p + 1)).take t) := ⟨h1.symm⟩
      have hysl : ys.length = t := by rw [← h1, List.length_take, List.length_drop, hll.out]; omega
      rw [hysl]
      clear h1 hysl
      replace hc2 := Hidd.mk hc2
      replace her2 := Hidd.mk her2
      have v1 : IntKind.i64.wrap ((p : Int) + 1) = ((p + 1 : Nat) : Int) := (IntWalk.i64_in _ (by omega)).trans (by omega)
      have v2 : IntKind.i64.wrap (((p + 1 : Nat) : Int) + (t : Int)) = ((p + 1 + t : Nat) : Int) := (IntWalk.i64_in _ (by omega)).trans (by omega)
      have v3 : IntKind.i64.wrap ((p : Int) + (1 + (t : Int))) = ((p + 1 + t : Nat) : Int) := (IntWalk.i64_in _ (by omega)).trans (by omega)
      go_enter Try.func21, Try.ntmps21
      go_wp2
      obtain ⟨W0, hW0⟩ : ∃ zz, zz = World.drew w := ⟨_, rfl⟩
      refine wp_region_stages [([0], some 1), ([], some 2), ([], some 3), ([4, 5, 6, 7, 8, 9, 10, 11, 12, 13, 14, 15, 16], some 17), ([], some 18), ([], some 19)] (by kernel_rfl) (by kernel_rfl) ?_
      rw [show ({ w with drawn := w.drawn + 1 } : World) = W0 from hW0.symm]
      replace hW0 := Hidd.mk hW0
      simp only [opsOf, List.map_cons, List.map_nil, List.getD_cons_succ, List.getD_cons_zero, Option.map_some, Option.map_none]
      have hO2 := Hidd.mk (show Own w0 S W0 L by rw [hW0.out]; exact hO1.out.drew)
      clear hW0
      refine SgW.one ?_
      repeat (first | (refine StW.skip (by rfl) ?_; simp only [Act.put, List.setIfInBounds_toArray, List.set_cons_zero, List.set_cons_succ]) | (refine StW.go (by rfl) (fun K hK => ?_); go_simp; refine hK.out _ ?_; clear hK K))
      refine StW.nil ?_
      refine OneW.go (by rfl) (fun K hK => ?_)
      go_simp
      refine (more_own k hO2.out hk1.out hpn hn 1 (by decide) (by decide) true hc1.out _ her1.out).mono ?_
      rintro e w1 ⟨rfl, ev', ho1⟩
      refine hK.out _ _ ?_
      clear hK K
      have hR : RdIn w1 b A n cap xs p none ev' := ho1.get k (set_get hk1.out)
      obtain ⟨c0, c1, c2⟩ := hR.cells
      obtain ⟨ad, rfl, y0⟩ := hR.hr.cells p _ hyn.out
      clear hR
      replace ho1 := Hidd.mk ho1
      refine SgW.one ?_
      repeat (first | (refine StW.skip (by rfl) ?_; simp only [Act.put, List.setIfInBounds_toArray, List.set_cons_zero, List.set_cons_succ]) | (refine StW.go (by rfl) (fun K hK => ?_); go_simp; refine hK.out _ ?_; clear hK K))
      refine StW.nil ?_
      refine OneW.go (by rfl) (fun K hK => ?_); go_simp; refine hK.out _ _ ?_; clear hK K
      refine SgW.one ?_
      repeat (first | (refine StW.skip (by rfl) ?_; simp only [Act.put, List.setIfInBounds_toArray, List.set_cons_zero, List.set_cons_succ]) | (refine StW.go (by rfl) (fun K hK => ?_); go_simp; refine hK.out _ ?_; clear hK K))
      refine StW.nil ?_
      refine OneW.go (by rfl) (fun K hK => ?_); go_simp; refine hK.out _ _ ?_; clear hK K
      refine SgW.one ?_
      repeat (first | (refine StW.skip (by rfl) ?_; simp only [Act.put, List.setIfInBounds_toArray, List.set_cons_zero, List.set_cons_succ]) | (refine StW.go (by rfl) (fun K hK => ?_); go_simp; refine hK.out _ ?_; clear hK K))
      refine StW.nil ?_
      refine OneW.go (by rfl) (fun K hK => ?_)
      go_simp
      refine (more_own k ho1.out (set_get hk1.out) hpn hn (1 + (t : Int)) (by omega) (by omega) true hc2.out _ her2.out).mono ?_
      rintro e w2 ⟨rfl, ev2, ho2⟩
      refine hK.out _ _ ?_
      clear hK K c0 c1 c2 y0
      rw [set_twice] at ho2
      replace ho2 := Hidd.mk ho2
      refine SgW.one ?_
      repeat (first | (refine StW.skip (by rfl) ?_; simp only [Act.put, List.setIfInBounds_toArray, List.set_cons_zero, List.set_cons_succ]) | (refine StW.go (by rfl) (fun K hK => ?_); go_simp; refine hK.out _ ?_; clear hK K))
      refine StW.nil ?_
      refine OneW.go (by rfl) (fun K hK => ?_); go_simp; refine hK.out _ _ ?_; clear hK K
      refine SgW.one ?_
      repeat (first | (refine StW.skip (by rfl) ?_; simp only [Act.put, List.setIfInBounds_toArray, List.set_cons_zero, List.set_cons_succ]) | (refine StW.go (by rfl) (fun K hK => ?_); go_simp; refine hK.out _ ?_; clear hK K))
      refine StW.nil ?_
      refine OneW.go (by rfl) (fun K hK => ?_); go_simp; refine hK.out _ _ ?_; clear hK K
      refine SgW.nil (Calm.normal ?_)
      go_wp2
      obtain ⟨wy, hwy⟩ : ∃ zz, zz = World.drew w2 := ⟨_, rfl⟩
      refine wp_region_still_lit (by kernel_rfl) (by kernel_rfl) (StW.out ?_)
      rw [show ({ w2 with drawn := w2.drawn + 1 } : World) = wy from hwy.symm]
      replace hwy := Hidd.mk hwy
      have ho3 := Hidd.mk (show Own w0 S wy (L.set k (rdr b (some ad) n cap xs p none ev2)) by rw [hwy.out]; exact ho2.out.drew)
      clear hwy ho2 ho1 hO2
      have hR : RdIn wy b (some ad) n cap xs p none ev2 := ho3.out.get k (set_get hk1.out)
      obtain ⟨c0, c1, c2⟩ := hR.cells
      obtain ⟨ad', e1, y0⟩ := hR.hr.cells p _ hyn.out
      injection e1 with e1
      subst e1
      have hcap := hR.hr.le.1
      have hcs := Hidd.mk hR.hr.cells
      have hbl := hR.lt
      have f1 := hR.fr 1
      clear hR
      repeat (refine StW.go (by rfl) (fun K hK => ?_); go_simp; refine hK.out _ ?_; clear hK K)
      refine StW.nil ?_
      go_wp2
      obtain ⟨i0, hi0⟩ := info_parts info_u8
      replace hi0 := Hidd.mk hi0
      have v4 : IntKind.i64.wrap ((p : Int) + 1 + (t : Int)) = (p : Int) + 1 + (t : Int) := IntWalk.i64_in _ (by omega)
      have s5 : (0 : Int) ≤ (p : Int) + 1 := by omega
      have s6 : (p : Int) + 1 ≤ (p : Int) + 1 + (t : Int) := by omega
      have s7 : (p : Int) + 1 + (t : Int) ≤ (cap : Int) := by omega
      have s8 : (0 : Int) ≤ (p : Int) + 1 + (t : Int) := by omega
      have s9 : p + 1 + t - (p + 1) = t := by omega
      have s10 : max ((p : Int) + 1 + (t : Int)) 0 = (p : Int) + 1 + (t : Int) := by omega
      have s11 : ((p : Int) + 1 + (t : Int)).toNat = p + 1 + t := by omega
      by_cases hcc : cap = p + 1
      case' pos =>
        have s12 : (p : Int) + 1 + (t : Int) ≤ (p : Int) + 1 := by omega
        have hB : Hidd (∀ w : World, Cells w (some ad) (nums .u8 xs) → Cells w (some ad) (nums .u8 ys)) := ⟨fun w h => by
          have : ys = [] := by rw [hyl.out]; exact List.length_eq_zero_iff.1 (by rw [List.length_take]; omega)
          rw [this]; exact Cells.nil _ _⟩
      case' neg =>
        have hB : Hidd (∀ w : World, Cells w (some ad) (nums .u8 xs) → Cells w (some (ad.add (p + 1))) (nums .u8 ys)) := ⟨fun w h => by
          have h' := (h.drop (p + 1)).take t
          rw [← nums_drop, ← nums_take, ← hyl.out] at h'
          exact h'⟩
      all_goals
        obtain ⟨W0, hW0⟩ : ∃ zz, zz = World.drew wy := ⟨_, rfl⟩
        refine wp_region_mix (fun zz => Kept (fun _ => False) wy zz) [1, 2, 3, 4, 5, 6, 7, 8, 9, 10, 11, 12, 13, 14, 15, 16, 17] [(0, true), (18, false), (19, false)] (by kernel_rfl) (by kernel_rfl) (Kept.drew _ _) ?_
        rw [show ({ wy with drawn := wy.drawn + 1 } : World) = W0 from hW0.symm]
        replace hW0 := Hidd.mk hW0
        simp only [List.map_cons, List.map_nil, List.getD_cons_succ, List.getD_cons_zero]
        have ho4 := Hidd.mk (show Own w0 S W0 (L.set k (rdr b (some ad) n cap xs p none ev2)) by rw [hW0.out]; exact ho3.out.drew)
        have hcs0 := Hidd.mk (show Cells W0 (some ad) (nums .u8 xs) by rw [hW0.out]; exact hcs.out.drew)
        have hkW0 : Hidd (Kept (fun _ => False) wy W0) := ⟨by rw [hW0.out]; exact Kept.drew _ _⟩
        repeat (first | (refine StQ.skip (by rfl) ?_; simp only [Act.put, List.setIfInBounds_toArray, List.set_cons_zero, List.set_cons_succ]) | (refine StQ.go' (by rfl) (Exists.intro ?_ (And.intro (fun w' hS => ?_) ?_)); rotate_left; (focus (have hc := Kept.cell0 hS; go_simp; try with_reducible rfl)); simp only [Act.put, List.setIfInBounds_toArray, List.set_cons_zero, List.set_cons_succ]))
        refine StQ.nil ?_
        refine TlF.go (by rfl) (fun K hK => ?_); go_simp; refine hK.out _ _ (fun _ => hkW0.out.trans (Kept.alloc _ _ _)) ?_; clear hK K
        have hoA := Hidd.mk (own_empty ho4.out 5 1 (0, 0))
        have hbs := hB.out _ (hcs0.out.below (below_alloc (Below.refl _ _) (.cells #[] 5)))
        refine TlF.go (by rfl) (fun K hK => ?_)
        refine wp_want (.tmp 36) (.tmp 53) 24 (by rfl) 5 i0 (.int .u8 0) 1 1 Try.underlying24 hi0.out.1 hi0.out.2.1 hi0.out.2.2.1 hi0.out.2.2.2 (by rfl) (by decide) (some ⟨W0.heap.size, 0, none⟩) 0 0 [] (hoA.out.get 0 rfl) (by rfl) _ t _ (nums .u8 ys) (by rfl) (by rw [nums_length, hyl.out, List.length_take, List.length_drop, hll.out]; omega) hbs (by intro _ h; cases h) (nums_one _ _) (by unfold maxLen; omega) (by omega) ?_
        intro A6 cap6 w6 h6 k6 o6
        have ho6 := hoA.out.step 0 rfl (wres 5 1 A6 (0 + t) cap6 ([] ++ nums .u8 ys)) k6 h6 o6
        refine hK.out _ _ (by intro h; cases h) ?_
        clear hK K
        have hk6 : (wres 5 1 A6 (0 + t) cap6 ([] ++ nums .u8 ys) :: L.set k (rdr b (some ad) n cap xs p none ev2))[k + 1]? = some (rdr b (some ad) n cap xs p none ev2) := set_get hk1.out
        have hR6 : RdIn w6 b (some ad) n cap xs p none ev2 := ho6.get (k + 1) hk6
        obtain ⟨d0, d1, d2⟩ := hR6.cells
        have g1 := hR6.fr 1
        have hend := Hidd.mk (rdr_at (k + 1) ho6 hk6 (p + 1 + t))
        clear hR6 h6 k6 o6 ho6 hbs hW0 hkW0 hcs0 hcs c0 c1 c2 y0 f1 hoA ho4 ho3
        refine TlF.go (by rfl) (fun K hK => ?_); go_simp; refine hK.out _ _ (by intro h; cases h) ?_; clear hK K
        refine TlF.nil (Calm.normal ?_)
        go_wp2
        go_ret
        refine ⟨A6, cap6, rfl, ev2, ?_⟩
        have h : Own w0 S (w6.setCell ⟨b, 1, none⟩ (.int .i64 ((p + 1 + t : Nat) : Int))) (wres 5 1 A6 (0 + t) cap6 ([] ++ nums .u8 ys) :: (L.set k (rdr b (some ad) n cap xs p none ev2)).set k (rdr b (some ad) n cap xs (p + 1 + t) none ev2)) := hend.out
        rw [set_twice, Nat.zero_add] at h
        exact h
end Go.Proofs.Ytmbbfcpoiecfhaa
