/- The reference's Heard: Frames. -/
import Derived.Test.YtjejkmnlkmcckaaMemM
namespace Go.Proofs.Ytjejkmnlkmcckaa
open Go.RowKit

def isM (rr mm n : Nat) (x : Fr) : Bool := decide (x.s = n ∧ x.r = rr ∧ x.m = mm)
def frR (l : List Fr) (rr mm n : Nat) : List Fr := (List.range n).flatMap fun k => l.filter (isM rr mm k)
def orS (l : List Fr) : Nat := l.foldl (fun a x => a ||| 2 ^ x.s) 0
theorem frR_succ (l : List Fr) (rr mm n : Nat) : frR l rr mm (n + 1) = frR l rr mm n ++ l.filter (isM rr mm n) := by
  unfold frR
  rw [List.range_succ, List.flatMap_append]
  simp
theorem frR_len (l : List Fr) (rr mm : Nat) : ∀ n, (frR l rr mm n).length ≤ n * l.length
  | 0 => by simp [frR]
  | n + 1 => by
    rw [frR_succ, List.length_append, Nat.add_mul]
    have := frR_len l rr mm n
    have := List.length_filter_le (isM rr mm n) l
    omega
theorem orS_add (l : List Fr) (x : Fr) : orS (l ++ [x]) = orS l ||| 2 ^ x.s := by unfold orS; rw [List.foldl_append]; rfl
theorem orS_lt : ∀ l : List Fr, (∀ x ∈ l, x.s < 7) → orS l < 128 := by
  suffices h : ∀ (l : List Fr) (a : Nat), a < 128 → (∀ x ∈ l, x.s < 7) → l.foldl (fun a x => a ||| 2 ^ x.s) a < 128 from fun l hl => h l 0 (by decide) hl
  intro l
  induction l with
  | nil => exact fun a h _ => h
  | cons x l ih => exact fun a h hl => ih _ (Nat.or_lt_two_pow (n := 7) h (Nat.pow_lt_pow_right (by decide) (hl x List.mem_cons_self))) fun y hy => hl y (List.mem_cons_of_mem _ hy)
theorem isM_succ {l : List Fr} {j : Nat} {x : Fr} (h : l[j]? = some x) (rr mm n : Nat) : (l.take (j + 1)).filter (isM rr mm n) = (l.take j).filter (isM rr mm n) ++ if isM rr mm n x = true then [x] else [] := by
  rw [List.take_add_one, h, List.filter_append]
  cases hh : isM rr mm n x <;> simp [hh]
theorem frR_bound {l : List Fr} {rr mm n j len q : Nat} (h2 : l.length = len) (h3 : n < 7) (h4 : len ≤ 1000) (h : (frR l rr mm n ++ (l.take j).filter (isM rr mm n)).length = q) : q ≤ 100000 := by
  have g1 := frR_len l rr mm n
  have g2 := List.length_filter_le (isM rr mm n) (l.take j)
  rw [List.length_take] at g2
  rw [List.length_append] at h
  have g3 := Nat.mul_le_mul (show n ≤ 7 by omega) (show l.length ≤ 1000 by omega)
  omega
theorem frR_s {l : List Fr} {rr mm n : Nat} (hn : n ≤ 7) : ∀ x ∈ frR l rr mm n, x.s < 7 := fun x hx => by
  unfold frR at hx
  obtain ⟨k, hk, hx⟩ := List.mem_flatMap.1 hx
  have := List.mem_range.1 hk
  have h := (List.mem_filter.1 hx).2
  unfold isM at h
  rw [decide_eq_true_eq] at h
  omega
theorem pref_s {l : List Fr} {rr mm n j : Nat} (hn : n < 7) : ∀ x ∈ frR l rr mm n ++ (l.take j).filter (isM rr mm n), x.s < 7 := fun x hx => by
  rcases List.mem_append.1 hx with h | h
  · exact frR_s (by omega) x h
  · have h := (List.mem_filter.1 h).2
    unfold isM at h
    rw [decide_eq_true_eq] at h
    omega
theorem shl_u8 (n : Nat) (h : n < 7) (s : Nat) (hs : s < 128) : bits .or .u8 (s : Int) ((2 : Int) ^ n) = ((s ||| 2 ^ n : Nat) : Int) ∧ (2 : Int) ^ n % 256 = (2 : Int) ^ n := by
  have hp : 2 ^ n < 128 := Nat.pow_lt_pow_right (n := 7) (by decide) h
  have hor := u8_or_nat s (2 ^ n) (by omega) (by omega)
  have hc2 : ((2 ^ n : Nat) : Int) = (2 : Int) ^ n := by rw [Int.natCast_pow]; rfl
  rw [hc2] at hor
  refine ⟨hor, ?_⟩
  rw [← hc2, ← show ((256 : Nat) : Int) = 256 from rfl, ← Int.natCast_emod, Nat.mod_eq_of_lt (by omega)]

set_option maxRecDepth 100000 in
set_option maxHeartbeats 4000000 in
theorem refFrames_at {w0 w : World} {S : Nat → Prop} {L : List Res} {b r m : Nat} {kn : Bool} {A : Option Addr} {len cap : Nat} {l : List Fr} (k : Nat) (hO : Own w0 S w L) (hk : L[k]? = some (hrefs b r m kn A len cap l)) (hl : len ≤ 1000)
    (rr mm : Nat) (ok : Bool) (hr : rightN r m kn l = ((rr, mm), ok)) (fl : List Fr) (hfl : (if ok = true then frR l rr mm 7 else []) = fl) :
    Calls Try.prog 37 #[.pointer (some ⟨b, 0, none⟩)] w fun e w' => ∃ B c, e = .returned (.tuple #[.slice B fl.length c, .int .u8 (orS fl)]) ∧ Own w0 S w' (row 59 9 (.slice B fl.length c) fl.length (frCells fl) :: L) := by
  have hO0 := Hidd.mk hO
  have hr0 := Hidd.mk hr
  have hk0 := Hidd.mk hk
  have hll := Hidd.mk (show RIn w b r m kn A len cap l from hO.get k hk).ll
  have hok := Hidd.mk (show RIn w b r m kn A len cap l from hO.get k hk).ok
  clear hO hr hk
  cases ok
  · rw [if_neg (by decide)] at hfl
    subst hfl
    go_enter Try.func37, Try.ntmps37
    go_wp2_with (go_at_call 36; refine (refRight_at k hO0.out hk0.out hl rr mm false hr0.out).mono ?_; rintro e w1 ⟨rfl, ho1⟩; replace ho1 := Hidd.mk (row_nil (ho1.alloc (.cells #[.int .u32 rr, .int .u8 mm] 50)).tail 59 9); clear hO0)
    go_loopw [4, 5, 8] (fun v4 v5 v8 wr => v4 = .slice none 0 0 ∧ v5 = .int .u8 0 ∧ v8 = .int .i64 0 ∧ Hidd (Own w0 S wr (row 59 9 (.slice none 0 0) 0 [] :: L))) (fun _ _ _ _ => 0)
    case atStart => exact ⟨rfl, rfl, rfl, ho1⟩
    case round =>
      clear ho1
      obtain ⟨rfl, rfl, rfl, ho⟩ := hrel
      go_wp2
      go_ret2
      exact ⟨none, 0, rfl, ho.out⟩
  · rw [if_pos rfl] at hfl
    obtain ⟨iF, hIF⟩ := info_parts info_fr
    replace hIF := Hidd.mk hIF
    go_enter Try.func37, Try.ntmps37
    go_wp2_with (go_at_call 36; refine (refRight_at k hO0.out hk0.out hl rr mm true hr0.out).mono ?_; rintro e w1 ⟨rfl, ho1⟩; replace ho1 := Hidd.mk (row_nil (ho1.alloc (.cells #[.int .u32 rr, .int .u8 mm] 50)) 59 9); clear hO0)
    generalize w1.heap.size = pr at ho1 ⊢
    generalize w1.alloc _ = w2 at ho1 ⊢
    go_loopw [4, 5, 8] (fun v4 v5 v8 wr => ∃ (n q s : Nat) (B : Option Addr) (c : Nat), v8 = .int .i64 n ∧ n ≤ 7 ∧ v4 = .slice B q c ∧ v5 = .int .u8 s ∧ s < 128 ∧ Hidd ((frR l rr mm n).length = q) ∧ Hidd (orS (frR l rr mm n) = s) ∧ Hidd (Own w0 S wr (row 59 9 (.slice B q c) q (frCells (frR l rr mm n)) :: blk pr (.cells #[.int .u32 rr, .int .u8 mm] 50) :: L))) (fun _ _ v8 _ => 7 - (intOf v8).toNat)
    case atStart => exact ⟨0, 0, 0, none, 0, rfl, by decide, rfl, rfl, by decide, ⟨rfl⟩, ⟨rfl⟩, ho1⟩
    case round =>
      clear ho1
      obtain ⟨n, q, s, B, c, rfl, hn7, rfl, rfl, hs, hq, hos, ho⟩ := hrel
      by_cases hlt : n < 7
      · go_wp2
        go_loopw [4, 5, 9] (fun v4 v5 v9 wr => ∃ (j q s : Nat) (B : Option Addr) (c : Nat), v9 = .int .i64 j ∧ j ≤ len ∧ v4 = .slice B q c ∧ v5 = .int .u8 s ∧ s < 128 ∧ Hidd ((frR l rr mm n ++ (l.take j).filter (isM rr mm n)).length = q) ∧ Hidd (orS (frR l rr mm n ++ (l.take j).filter (isM rr mm n)) = s) ∧ Hidd (Own w0 S wr (row 59 9 (.slice B q c) q (frCells (frR l rr mm n ++ (l.take j).filter (isM rr mm n))) :: blk pr (.cells #[.int .u32 rr, .int .u8 mm] 50) :: L))) (fun _ _ v9 _ => len - (intOf v9).toNat)
        case atStart => exact ⟨0, q, s, B, c, rfl, Nat.zero_le _, rfl, rfl, hs, ⟨by rw [List.take_zero, List.filter_nil, List.append_nil]; exact hq.out⟩, ⟨by rw [List.take_zero, List.filter_nil, List.append_nil]; exact hos.out⟩, ⟨by rw [List.take_zero, List.filter_nil, List.append_nil]; exact ho.out⟩⟩
        case round =>
          clear ho hq hos hs
          obtain ⟨j, q, s, B, c, rfl, hj, rfl, rfl, hs, hq, hos, ho⟩ := hrel
          have hH := Hidd.mk (show RIn _ b r m kn A len cap l from ho.out.get (k + 2) hk0.out)
          obtain ⟨c0, c1, c2, c3⟩ := hH.out.cell
          by_cases hjl : j < len
          · obtain ⟨x, hx⟩ : ∃ x, l[j]? = some x := ⟨_, List.getElem?_eq_getElem (by rw [hll.out]; exact hjl)⟩
            obtain ⟨g, rfl⟩ := hH.out.form (by omega)
            have hxs := (hok.out x (List.mem_of_getElem? hx)).s
            have hct := isM_succ hx rr mm n
            have hor := orS_add (frR l rr mm n ++ (l.take j).filter (isM rr mm n)) x
            rw [hos.out] at hor
            have hqb := frR_bound hll.out hlt hl hq.out
            obtain ⟨ys, yr, ym, yma, ymn, ymc, q0, q1, q2, q3, yra, yrn, yrc⟩ := x
            simp only at hxs hor
            have hxx := Hidd.mk hx
            have hw8 := u8_int hxs
            have hw9 : IntKind.i64.wrap (ys : Int) = ys := IntWalk.i64_in _ (by omega)
            have hyes : Hidd (ys = n → yr = rr → ym = mm → frR l rr mm n ++ (l.take (j + 1)).filter (isM rr mm n) = (frR l rr mm n ++ (l.take j).filter (isM rr mm n)) ++ [⟨ys, yr, ym, yma, ymn, ymc, q0, q1, q2, q3, yra, yrn, yrc⟩]) := ⟨fun h1 h2 h3 => by
              rw [hct, if_pos (by unfold isM; rw [decide_eq_true_eq]; exact ⟨h1, h2, h3⟩), List.append_assoc]⟩
            have hno : Hidd (¬ (ys = n ∧ yr = rr ∧ ym = mm) → frR l rr mm n ++ (l.take (j + 1)).filter (isM rr mm n) = frR l rr mm n ++ (l.take j).filter (isM rr mm n)) := ⟨fun h => by
              rw [hct, if_neg (by unfold isM; rw [decide_eq_true_eq]; exact h), List.append_nil]⟩
            have bj0 : (0 : Int) ≤ (j : Int) := by omega
            have bj1 : (j : Int) < (len : Int) := by omega
            replace hor := Hidd.mk hor
            clear hct hx
            by_cases h1 : ys = n
            · by_cases h2 : yr = rr ∧ ym = mm
              · have hy2 := Hidd.mk (hyes.out h1 h2.1 h2.2)
                obtain ⟨rfl, rfl⟩ := h2
                subst h1
                obtain ⟨hsh1, hsh2⟩ := shl_u8 ys hlt s hs
                have hcell := hH.out.at_ hxx.out
                clear hyes hno hH
                go_wp2
                obtain ⟨W0, hW0⟩ : ∃ zz, zz = World.drew wr := ⟨_, rfl⟩
                refine wp_region_flow [([0, 4, 9, 1, 2, 3, 5, 6, 7, 8, 10, 11, 12, 16, 20, 13, 14, 15, 17, 18, 19, 21, 22], none)] (by kernel_rfl) (by kernel_rfl) ?_
                rw [show ({ wr with drawn := wr.drawn + 1 } : World) = W0 from hW0.symm]
                replace hW0 := Hidd.mk hW0
                simp only [opsF, List.map_cons, List.map_nil, List.getD_cons_succ, List.getD_cons_zero, Option.map_some, Option.map_none]
                have ho2 := Hidd.mk (show Own w0 S W0 (row 59 9 (.slice B q c) q (frCells (frR l yr ym ys ++ (l.take j).filter (isM yr ym ys))) :: blk pr (.cells #[.int .u32 yr, .int .u8 ym] 50) :: L) by rw [hW0.out]; exact ho.out.drew)
                have hH2 : RIn W0 b r m kn (some ⟨g, 0, none⟩) len cap l := ho2.out.get (k + 2) hk0.out
                obtain ⟨c0, c1, c2, c3⟩ := hH2.cell
                obtain ⟨x0, x1, x2, x3, x4, x5, x6, x7, x8⟩ := hH2.at_ hxx.out
                simp only at x0 x1 x2 x3 x4 x5 x6 x7 x8
                have p0 := ho2.out.cell 1 rfl 0
                have p1 := ho2.out.cell 1 rfl 1
                simp at p0 p1
                clear hW0 ho hH2 hcell
                refine FlW.heads (fun zz => zz = _) rfl ?_
                repeat (first | (refine StQ.skip (by rfl) ?_; simp only [Act.put, List.setIfInBounds_toArray, List.set_cons_zero, List.set_cons_succ]) | (refine StQ.go' (by rfl) (Exists.intro ?_ (And.intro (fun w' hS => ?_) ?_)); rotate_left; (focus (rw [hS]; go_simp; try with_reducible rfl)); simp only [Act.put, List.setIfInBounds_toArray, List.set_cons_zero, List.set_cons_succ]))
                refine StQ.nil ?_
                refine FlW.nil (Calm.normal ?_)
                go_wp2_with (at_builtin; refine wpList_row rfl _ _ 76 rfl 59 iF (.agg #[.int .u8 0, .int .u32 0, .int .u8 0, .slice none 0 0, .int .u8 0, .int .u8 0, .int .u16 0, .int .u16 0, .slice none 0 0]) 9 72 Try.underlying76 hIF.out.1 hIF.out.2.1 hIF.out.2.2.1 hIF.out.2.2.2 (by rfl) (by decide) (ho2.out.alloc _) 1 B q c _ rfl rfl _ 1 1 (Fr.cells ⟨ys, yr, ym, yma, ymn, ymc, q0, q1, q2, q3, yra, yrn, yrc⟩) rfl rfl (Cells.new _ _ _ _ rfl) (by intro _ h; cases h) (Fr.one _) (by unfold maxLen; omega) (by omega) ?_; intro B6 c6 w6 ho6; replace ho6 := Hidd.mk ho6.tail)
                go_roundw
                case rel =>
                  refine ⟨j + 1, q + 1, s ||| 2 ^ ys, B6, c6, by go_num, by omega, rfl, rfl, Nat.or_lt_two_pow (n := 7) hs (Nat.pow_lt_pow_right (by decide) hlt), ⟨?_⟩, ⟨by rw [hy2.out]; exact hor.out⟩, ⟨?_⟩⟩
                  · rw [hy2.out, List.length_append, hq.out]; rfl
                  · rw [hy2.out, frCells_append, show frCells [(⟨ys, yr, ym, yma, ymn, ymc, q0, q1, q2, q3, yra, yrn, yrc⟩ : Fr)] = Fr.cells ⟨ys, yr, ym, yma, ymn, ymc, q0, q1, q2, q3, yra, yrn, yrc⟩ by simp [frCells]]
                    exact ho6.out
                case measure => (simp [intOf]; try omega)
              · have hy2 := Hidd.mk (hno.out fun h => h2 h.2)
                subst h1
                have hgo : ∀ G : Prop, (yr = rr → ((ym : Int) == (mm : Int)) = false → G) → (((yr : Int) == (rr : Int)) = false → G) → G := fun G g1 g2 => by
                  by_cases h : yr = rr
                  · exact g1 h (by rw [beq_eq_false_iff_ne]; intro e; exact h2 ⟨h, by omega⟩)
                  · exact g2 (by rw [beq_eq_false_iff_ne]; omega)
                clear h2 hyes hno
                refine hgo _ (fun h3 h4 => ?da) (fun h3 => ?db)
                case' da => subst h3
                all_goals
                  clear hgo hH
                  go_wp2
                  obtain ⟨W0, hW0⟩ : ∃ zz, zz = World.drew wr := ⟨_, rfl⟩
                  refine wp_region_flow [([0, 4, 9, 1, 2, 3, 5, 6, 7, 8, 10, 11, 12, 16, 20, 13, 14, 15, 17, 18, 19, 21, 22], none)] (by kernel_rfl) (by kernel_rfl) ?_
                  rw [show ({ wr with drawn := wr.drawn + 1 } : World) = W0 from hW0.symm]
                  replace hW0 := Hidd.mk hW0
                  simp only [opsF, List.map_cons, List.map_nil, List.getD_cons_succ, List.getD_cons_zero, Option.map_some, Option.map_none]
                  have ho2 := Hidd.mk (show Own w0 S W0 (row 59 9 (.slice B q c) q (frCells (frR l _ mm ys ++ (l.take j).filter (isM _ mm ys))) :: blk pr (.cells #[.int .u32 _, .int .u8 mm] 50) :: L) by rw [hW0.out]; exact ho.out.drew)
                  have hH2 : RIn W0 b r m kn (some ⟨g, 0, none⟩) len cap l := ho2.out.get (k + 2) hk0.out
                  obtain ⟨c0, c1, c2, c3⟩ := hH2.cell
                  obtain ⟨x0, x1, x2, x3, x4, x5, x6, x7, x8⟩ := hH2.at_ hxx.out
                  simp only at x0 x1 x2
                  have p0 := ho2.out.cell 1 rfl 0
                  have p1 := ho2.out.cell 1 rfl 1
                  simp at p0 p1
                  clear hW0 ho hH2 x3 x4 x5 x6 x7 x8
                  refine FlW.heads (fun zz => zz = _) rfl ?_
                  repeat (first | (refine StQ.skip (by rfl) ?_; simp only [Act.put, List.setIfInBounds_toArray, List.set_cons_zero, List.set_cons_succ]) | (refine StQ.go' (by rfl) (Exists.intro ?_ (And.intro (fun w' hS => ?_) ?_)); rotate_left; (focus (rw [hS]; go_simp; try with_reducible rfl)); simp only [Act.put, List.setIfInBounds_toArray, List.set_cons_zero, List.set_cons_succ]))
                  refine StQ.nil ?_
                  refine FlW.nil (Calm.normal ?_)
                  go_wp2
                  go_roundw
                all_goals first
                  | (case rel => exact ⟨j + 1, q, s, B, c, by go_num, by omega, rfl, rfl, hs, ⟨by rw [hy2.out]; exact hq.out⟩, ⟨by rw [hy2.out]; exact hos.out⟩, ⟨by rw [hy2.out]; exact ho2.out⟩⟩)
                  | (case measure => (simp [intOf]; try omega))
            · have hy2 := Hidd.mk (hno.out fun h => h1 h.1)
              have h3 : ((ys : Int) == (n : Int)) = false := by rw [beq_eq_false_iff_ne]; omega
              clear h1 hyes hno hH
              go_wp2
              obtain ⟨W0, hW0⟩ : ∃ zz, zz = World.drew wr := ⟨_, rfl⟩
              refine wp_region_flow [([0, 4, 9, 1, 2, 3, 5, 6, 7, 8, 10, 11, 12, 16, 20, 13, 14, 15, 17, 18, 19, 21, 22], none)] (by kernel_rfl) (by kernel_rfl) ?_
              rw [show ({ wr with drawn := wr.drawn + 1 } : World) = W0 from hW0.symm]
              replace hW0 := Hidd.mk hW0
              simp only [opsF, List.map_cons, List.map_nil, List.getD_cons_succ, List.getD_cons_zero, Option.map_some, Option.map_none]
              have ho2 := Hidd.mk (show Own w0 S W0 (row 59 9 (.slice B q c) q (frCells (frR l rr mm n ++ (l.take j).filter (isM rr mm n))) :: blk pr (.cells #[.int .u32 rr, .int .u8 mm] 50) :: L) by rw [hW0.out]; exact ho.out.drew)
              have hH2 : RIn W0 b r m kn (some ⟨g, 0, none⟩) len cap l := ho2.out.get (k + 2) hk0.out
              obtain ⟨c0, c1, c2, c3⟩ := hH2.cell
              obtain ⟨x0, x1, x2, x3, x4, x5, x6, x7, x8⟩ := hH2.at_ hxx.out
              simp only at x0
              clear hW0 ho hH2 x1 x2 x3 x4 x5 x6 x7 x8
              refine FlW.heads (fun zz => zz = _) rfl ?_
              repeat (first | (refine StQ.skip (by rfl) ?_; simp only [Act.put, List.setIfInBounds_toArray, List.set_cons_zero, List.set_cons_succ]) | (refine StQ.go' (by rfl) (Exists.intro ?_ (And.intro (fun w' hS => ?_) ?_)); rotate_left; (focus (rw [hS]; go_simp; try with_reducible rfl)); simp only [Act.put, List.setIfInBounds_toArray, List.set_cons_zero, List.set_cons_succ]))
              refine StQ.nil ?_
              refine FlW.nil (Calm.normal ?_)
              go_wp2
              go_roundw
              case rel => exact ⟨j + 1, q, s, B, c, by go_num, by omega, rfl, rfl, hs, ⟨by rw [hy2.out]; exact hq.out⟩, ⟨by rw [hy2.out]; exact hos.out⟩, ⟨by rw [hy2.out]; exact ho2.out⟩⟩
              case measure => (simp [intOf]; try omega)
          · obtain rfl : j = len := by omega
            have htl : frR l rr mm n ++ (l.take j).filter (isM rr mm n) = frR l rr mm (n + 1) := by rw [frR_succ, ← hll.out, List.take_length]
            have h1 := hq.out
            have h2 := hos.out
            have h3 := ho.out
            rw [htl] at h1 h2 h3
            replace h1 := Hidd.mk h1
            replace h2 := Hidd.mk h2
            replace h3 := Hidd.mk h3
            clear htl hH
            go_wp2
            go_roundw
            case rel => exact ⟨n + 1, q, s, B, c, by go_num, by omega, rfl, rfl, hs, h1, h2, h3⟩
            case measure => (simp [intOf]; try omega)
      · obtain rfl : n = 7 := by omega
        rw [hfl] at hq hos ho
        replace hfl := Hidd.mk hfl
        go_wp2
        go_ret2
        refine ⟨B, c, by rw [hos.out, hq.out]; rfl, ?_⟩
        rw [hq.out]
        exact ho.out.sub (.cons_cons _ (.cons _ (List.Sublist.refl _)))
end Go.Proofs.Ytjejkmnlkmcckaa
