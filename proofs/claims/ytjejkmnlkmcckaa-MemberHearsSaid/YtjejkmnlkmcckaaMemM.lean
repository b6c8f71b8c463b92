/- The reference's Heard: Right, Frames. -/
import Derived.Test.YtjejkmnlkmcckaaMemL
namespace Go.Proofs.Ytjejkmnlkmcckaa
open Go.RowKit

def cntN (r m : Nat) (l : List Fr) : Nat := l.countP fun y => decide (y.r = r ∧ y.m = m)
theorem cnt_take {l : List Fr} {j : Nat} {y : Fr} (h : l[j]? = some y) (r m : Nat) : cntN r m (l.take (j + 1)) = cntN r m (l.take j) + if y.r = r ∧ y.m = m then 1 else 0 := by
  unfold cntN
  rw [List.take_add_one, h, List.countP_append]
  by_cases hh : y.r = r ∧ y.m = m <;> simp [hh]
theorem cnt_le (r m : Nat) (l : List Fr) : cntN r m l ≤ l.length := List.countP_le_length
theorem num_inj {x y : Fr} (hx : x.Ok) (hy : y.Ok) : num x = num y ↔ (x.r = y.r ∧ x.m = y.m) := by
  have := hx.m
  have := hy.m
  unfold num
  omega
theorem cnt_num {l : List Fr} (hl : ∀ x ∈ l, x.Ok) {x : Fr} (hx : x.Ok) : (l.map num).count (num x) = cntN x.r x.m l := by
  unfold cntN
  rw [List.count_eq_countP, List.countP_map]
  refine List.countP_congr fun y hy => ?_
  simp only [Function.comp, beq_iff_eq, decide_eq_true_eq]
  exact num_inj (hl y hy) hx
theorem right_yes {l : List Fr} (hl : ∀ x ∈ l, x.Ok) {x : Fr} (hx : x ∈ l) (h : l.length < 2 * cntN x.r x.m l) (r m : Nat) : rightN r m false l = ((x.r, x.m), true) := by
  have h1 := (most_spec (l.map num) (num x)).2 (by rw [cnt_num hl (hl x hx), List.length_map]; exact h)
  have hm := (hl x hx).m
  unfold rightN
  rw [if_neg (by decide), h1, if_pos rfl]
  unfold num
  show ((((x.r : Int) * 256 + x.m).toNat / 256, ((x.r : Int) * 256 + x.m).toNat % 256), true) = _
  rw [show (((x.r : Int) * 256 + x.m).toNat / 256) = x.r by omega, show (((x.r : Int) * 256 + x.m).toNat % 256) = x.m by omega]
theorem right_no {l : List Fr} (hl : ∀ x ∈ l, x.Ok) (h : ∀ x ∈ l, 2 * cntN x.r x.m l ≤ l.length) (r m : Nat) : rightN r m false l = ((0, 0), false) := by
  unfold rightN
  rw [if_neg (by decide)]
  cases hq : (mostV (l.map num)).2 with
  | false => rw [if_neg (by decide)]
  | true =>
    exfalso
    obtain ⟨x, hx, he⟩ := List.mem_map.1 (most_mem _ hq)
    have h1 : mostV (l.map num) = (num x, true) := by rw [he, ← hq]
    have h2 := (most_spec _ _).1 h1
    rw [cnt_num hl (hl x hx), List.length_map] at h2
    have := h x hx
    omega

set_option maxRecDepth 100000 in
set_option maxHeartbeats 4000000 in
theorem refRight_at {w0 w : World} {S : Nat → Prop} {L : List Res} {b r m : Nat} {kn : Bool} {A : Option Addr} {len cap : Nat} {l : List Fr} (k : Nat) (hO : Own w0 S w L) (hk : L[k]? = some (hrefs b r m kn A len cap l)) (hl : len ≤ 1000)
    (rr mm : Nat) (ok : Bool) (hr : rightN r m kn l = ((rr, mm), ok)) :
    Calls Try.prog 36 #[.pointer (some ⟨b, 0, none⟩)] w fun e w' => e = .returned (.tuple #[.agg #[.int .u32 rr, .int .u8 mm], .bool ok]) ∧ Own w0 S w' L := by
  have hH : RIn w b r m kn A len cap l := hO.get k hk
  obtain ⟨c0, c1, c2, c3⟩ := hH.cell
  have hbl := hH.lt
  have hO1 := Hidd.mk (hO.alloc (.cells #[.int .u32 0, .int .u8 0] 50))
  cases kn
  · have hll := Hidd.mk hH.ll
    have hok := Hidd.mk hH.ok
    have hk1 := Hidd.mk hk
    replace hr := Hidd.mk hr
    clear hk hO hH
    go_enter Try.func36, Try.ntmps36
    go_wp2
    generalize w.heap.size = pr at hO1 ⊢
    generalize w.alloc _ = w1 at hO1 ⊢
    clear c0 c1 c2 c3 hbl
    go_loopw [4] (fun v4 wr => ∃ i : Nat, v4 = .int .i64 i ∧ i ≤ len ∧ Hidd (∀ (j : Nat) (x : Fr), l[j]? = some x → j < i → 2 * cntN x.r x.m l ≤ l.length) ∧ Hidd (Own w0 S wr (blk pr (.cells #[.int .u32 0, .int .u8 0] 50) :: L))) (fun v4 _ => len - (intOf v4).toNat)
    case atStart => exact ⟨0, rfl, Nat.zero_le _, ⟨fun j x _ h => by omega⟩, hO1⟩
    case round =>
      clear hO1
      obtain ⟨i, rfl, hi, hne, ho⟩ := hrel
      have hH : RIn wr b r m false A len cap l := ho.out.get (k + 1) hk1.out
      obtain ⟨c0, c1, c2, c3⟩ := hH.cell
      by_cases hlt : i < len
      · obtain ⟨x, hx⟩ : ∃ x, l[i]? = some x := ⟨_, List.getElem?_eq_getElem (by rw [hll.out]; exact hlt)⟩
        obtain ⟨g, rfl⟩ := hH.form (by omega)
        have hxm := Hidd.mk (List.mem_of_getElem? hx)
        obtain ⟨xs, xr, xm, xma, xmn, xmc, z0, z1, z2, z3, xra, xrn, xrc⟩ := x
        have hxx := Hidd.mk hx
        clear hx hH
        go_wp2
        go_loopw [5, 6] (fun v5 v6 wr => ∃ j n : Nat, v6 = .int .i64 j ∧ j ≤ len ∧ v5 = .int .i64 n ∧ n ≤ j ∧ Hidd (cntN xr xm (l.take j) = n) ∧ Hidd (Own w0 S wr (blk pr (.cells #[.int .u32 0, .int .u8 0] 50) :: L))) (fun _ v6 _ => len - (intOf v6).toNat)
        case atStart => exact ⟨0, 0, rfl, Nat.zero_le _, rfl, Nat.le_refl _, ⟨rfl⟩, ho⟩
        case round =>
          clear ho c0 c1 c2 c3
          obtain ⟨j, n, rfl, hj, rfl, hnj, hn, ho⟩ := hrel
          have hH := Hidd.mk (show RIn _ b r m false (some ⟨g, 0, none⟩) len cap l from ho.out.get (k + 1) hk1.out)
          obtain ⟨c0, c1, c2, c3⟩ := hH.out.cell
          by_cases hjl : j < len
          · obtain ⟨y, hy⟩ : ∃ y, l[j]? = some y := ⟨_, List.getElem?_eq_getElem (by rw [hll.out]; exact hjl)⟩
            have hct := cnt_take hy xr xm
            rw [hn.out] at hct
            obtain ⟨ys, yr, ym, yma, ymn, ymc, q0, q1, q2, q3, yra, yrn, yrc⟩ := y
            simp only at hct
            have hyy := Hidd.mk hy
            have hgo : ∀ G : Prop, (yr = xr → ym = xm → Hidd (cntN xr xm (l.take (j + 1)) = n + 1) → G) → (yr = xr → ¬ ym = xm → Hidd (cntN xr xm (l.take (j + 1)) = n) → G) → (¬ yr = xr → Hidd (cntN xr xm (l.take (j + 1)) = n) → G) → G := fun G g1 g2 g3 => by
              by_cases h1 : yr = xr
              · by_cases h2 : ym = xm
                · exact g1 h1 h2 ⟨by rw [hct, if_pos ⟨h1, h2⟩]⟩
                · exact g2 h1 h2 ⟨by rw [hct, if_neg (fun h => h2 h.2)]; rfl⟩
              · exact g3 h1 ⟨by rw [hct, if_neg (fun h => h1 h.1)]; rfl⟩
            have bi0 : (0 : Int) ≤ (i : Int) := by omega
            have bi1 : (i : Int) < (len : Int) := by omega
            have bj0 : (0 : Int) ≤ (j : Int) := by omega
            have bj1 : (j : Int) < (len : Int) := by omega
            clear hct hy hn
            refine hgo _ (fun h1 h2 h3 => ?ca) (fun h1 h2 h3 => ?cb) (fun h1 h3 => ?cc)
            case' ca =>
              subst h1 h2
            case' cb =>
              subst h1
              have hb1 : ((ym : Int) == (xm : Int)) = false := by rw [beq_eq_false_iff_ne]; omega
            case' cc =>
              have hb1 : ((yr : Int) == (xr : Int)) = false := by rw [beq_eq_false_iff_ne]; omega
            all_goals
              clear hgo
              go_wp2
              obtain ⟨W0, hW0⟩ : ∃ zz, zz = World.drew wr := ⟨_, rfl⟩
              refine wp_region_flow [([0, 4, 8, 12, 1, 9, 2, 10, 3, 11, 5, 13, 6, 14, 7, 15, 16], none)] (by kernel_rfl) (by kernel_rfl) ?_
              rw [show ({ wr with drawn := wr.drawn + 1 } : World) = W0 from hW0.symm]
              replace hW0 := Hidd.mk hW0
              simp only [opsF, List.map_cons, List.map_nil, List.getD_cons_succ, List.getD_cons_zero, Option.map_some, Option.map_none]
              have ho2 := Hidd.mk (show Own w0 S W0 (blk pr (.cells #[.int .u32 0, .int .u8 0] 50) :: L) by rw [hW0.out]; exact ho.out.drew)
              have hH2 : RIn W0 b r m false (some ⟨g, 0, none⟩) len cap l := ho2.out.get (k + 1) hk1.out
              obtain ⟨c0, c1, c2, c3⟩ := hH2.cell
              obtain ⟨x0, x1, x2, x3, x4, x5, x6, x7, x8⟩ := hH2.at_ hxx.out
              obtain ⟨y0, y1, y2, y3, y4, y5, y6, y7, y8⟩ := hH2.at_ hyy.out
              clear hW0 ho hH2 hH x3 x4 x5 x6 x7 x8 y3 y4 y5 y6 y7 y8
              simp only at x1 x2 y1 y2
              refine FlW.heads (fun zz => zz = _) rfl ?_
              repeat (first | (refine StQ.skip (by rfl) ?_; simp only [Act.put, List.setIfInBounds_toArray, List.set_cons_zero, List.set_cons_succ]) | (refine StQ.go' (by rfl) (Exists.intro ?_ (And.intro (fun w' hS => ?_) ?_)); rotate_left; (focus (rw [hS]; go_simp; try with_reducible rfl)); simp only [Act.put, List.setIfInBounds_toArray, List.set_cons_zero, List.set_cons_succ]))
              refine StQ.nil ?_
              refine FlW.nil (Calm.normal ?_)
              go_wp2
              go_roundw
            all_goals first
              | (case rel => exact ⟨j + 1, n + 1, by go_num, by omega, by go_num, by omega, h3, ho2⟩)
              | (case rel => exact ⟨j + 1, n, by go_num, by omega, rfl, by omega, h3, ho2⟩)
              | (case measure => (simp [intOf]; try omega))
          · obtain rfl : j = len := by omega
            have hcn : cntN xr xm l = n := by
              have h := hn.out
              rwa [← hll.out, List.take_length] at h
            obtain ⟨x0, x1, x2, x3, x4, x5, x6, x7, x8⟩ := hH.out.at_ hxx.out
            have bi0 : (0 : Int) ≤ (i : Int) := by omega
            have bi1 : (i : Int) < (j : Int) := by omega
            simp only at x1 x2
            clear x3 x4 x5 x6 x7 x8 x0
            by_cases hmaj : j < 2 * n
            · have hd : decide ((j : Int) < 2 * (n : Int)) = true := by rw [decide_eq_true_eq]; omega
              have hry := right_yes hok.out hxm.out (by show l.length < 2 * cntN xr xm l; rw [hcn, hll.out]; exact hmaj) r m
              rw [hr.out] at hry
              injection hry with h1 h2
              injection h1 with h1 h3
              simp only at h1 h3
              subst h1 h2 h3
              have p0 := ho.out.cell 0 rfl 0
              have p1 := ho.out.cell 0 rfl 1
              have f0 := ho.out.frozen 0 rfl 0
              have f1 := ho.out.frozen 0 rfl 1
              simp at p0 p1
              clear hcn hmaj
              go_wp2
              have hof := (ho.out.set 0 rfl 0 (.int .u32 rr)).set 0 rfl 1 (.int .u8 mm)
              have q0 := hof.cell 0 rfl 0
              have q1 := hof.cell 0 rfl 1
              simp at q0 q1
              refine bodyPost_ret (v := .tuple #[.agg #[.int .u32 rr, .int .u8 mm], .bool true]) (by simp [results, Try.results36, go_sem, q0, q1]) rfl ⟨rfl, hof.tail⟩
            · have hd : decide ((j : Int) < 2 * (n : Int)) = false := by rw [decide_eq_false_iff_not]; omega
              have hne2 : Hidd (2 * cntN xr xm l ≤ l.length) := ⟨by rw [hcn, hll.out]; omega⟩
              clear hcn hmaj
              go_wp2
              go_roundw
              case rel => exact ⟨i + 1, by go_num, by omega, ⟨fun j' x' hj' hlt' => by
                rcases Nat.lt_succ_iff_lt_or_eq.1 hlt' with h | rfl
                · exact hne.out j' x' hj' h
                · have := hxx.out.symm.trans hj'; injection this with this; subst this; exact hne2.out⟩, ho⟩
              case measure => (simp [intOf]; try omega)
      · obtain rfl : i = len := by omega
        have hrn := right_no hok.out (fun x hx => by
          obtain ⟨j, hj⟩ := List.mem_iff_getElem?.1 hx
          exact hne.out j x hj (by rw [← hll.out]; exact (List.getElem?_eq_some_iff.1 hj).1)) r m
        rw [hr.out] at hrn
        injection hrn with h1 h2
        injection h1 with h1 h3
        subst h1 h2 h3
        have p0 := ho.out.cell 0 rfl 0
        have p1 := ho.out.cell 0 rfl 1
        have f0 := ho.out.frozen 0 rfl 0
        have f1 := ho.out.frozen 0 rfl 1
        simp at p0 p1
        clear hH
        go_wp2
        have hof := (ho.out.set 0 rfl 0 (.int .u32 0)).set 0 rfl 1 (.int .u8 0)
        have q0 := hof.cell 0 rfl 0
        have q1 := hof.cell 0 rfl 1
        simp at q0 q1
        refine bodyPost_ret (v := .tuple #[.agg #[.int .u32 0, .int .u8 0], .bool false]) (by simp [results, Try.results36, go_sem, q0, q1]) rfl ⟨rfl, hof.tail⟩
  · obtain ⟨rfl, rfl, rfl⟩ : r = rr ∧ m = mm ∧ true = ok := by
      have : rightN r m true l = ((r, m), true) := by unfold rightN; rw [if_pos rfl]
      rw [this] at hr
      injection hr with h1 h2
      injection h1 with h1 h3
      exact ⟨h1, h3, h2⟩
    have hO2 := Hidd.mk (hO.alloc (.cells #[.int .u32 r, .int .u8 m] 50))
    clear hr hH hk hO hO1
    go_enter Try.func36, Try.ntmps36
    go_wp2
    refine bodyPost_ret (v := .tuple #[.agg #[.int .u32 r, .int .u8 m], .bool true]) (by simp [results, Try.results36, go_sem]) rfl ⟨rfl, hO2.out.tail⟩
end Go.Proofs.Ytjejkmnlkmcckaa
