/- BankMany walked. -/
import Derived.Test.YtjbhcmkloamcmaaBkN
namespace Go.Proofs.Ytjbhcmkloamcmaa
open Go.RowKit

theorem lst_of {w : World} {b : Nat} {A : Option Addr} {len cap : Nat} {rows : List (List Value)} (h : Rows' w b [.sl 1 [.int .u8]] A len cap rows) (i : Nat) (hi : i < len) :
    ∃ a, A = some a ∧ ∃ Ai ni ci xs, w.cell? (a.add i) = some (.slice Ai ni ci) ∧ xs.length = ni ∧ ni ≤ ci ∧ ci ≤ maxLen ∧ Cells w Ai (nums .u8 xs) ∧ Bytes xs := by
  have hlt : i < rows.length := by rw [h.n]; exact hi
  have hri : rows[i]? = some rows[i] := List.getElem?_eq_getElem hlt
  have hm : rows[i] ∈ rows := List.getElem_mem hlt
  obtain ⟨v, r1, hr, e1⟩ := arr_cons (h.each _ hm)
  obtain rfl := List.length_eq_zero_iff.1 e1
  have hf := h.fits _ hm 0 (.sl 1 [.int .u8]) v rfl (by rw [hr]; rfl)
  obtain ⟨Ai, ni, ci, rs, rfl, hrs⟩ := hf.sl_inv
  obtain ⟨xs, hxl, hxC, hxw⟩ := ints_of hrs
  obtain ⟨a, ha, hc⟩ := h.cell i 0 rows[i] (.slice Ai ni ci) hri (by rw [hr]; rfl)
  have e : a.add (i * [Sh.sl 1 [Sh.int .u8]].length + 0) = a.add i := addr_one a i
  rw [e] at hc
  exact ⟨a, ha, Ai, ni, ci, xs, hc, hxl, hrs.cap.1, hrs.cap.2, hxC, row_bytes rfl hxw⟩
theorem neq_none (p : Nat) : True := trivial
set_option maxRecDepth 100000
set_option maxHeartbeats 16000000
theorem bankMany_walk (a0 : Option Addr) (len0 cap0 : Nat) (z0 : List (List Value)) (w : World) (h0 : Rows' w 24 [.sl 1 [.int .u8]] a0 len0 cap0 z0) :
    Calls Try.prog 6 #[.slice a0 len0 cap0] w fun e w' => e = .returned (.bool true) ∧ Below w.heap.size w w' := by
  have hL := Hidd.mk (lst_of h0)
  clear h0
  have hnew := Hidd.mk new_ok
  go_enter Try.func6, Try.ntmps6
  go_upto_region 8 with (first
    | (go_at_call 10; refine (awake19_any _).mono ?_; rintro e w1 ⟨rfl, hb1⟩; replace hb1 := Hidd.mk hb1)
    | (go_at_call 12; have hq := hb1.out; clear hq; refine (newFlash_own _).mono ?_; rintro e w2 ⟨f, M, rfl, ho1⟩; replace ho1 := Hidd.mk (((Own.nil w (fun _ => False)).ext hb1.out).made ho1); clear hb1)
    | (go_at_call 11; have hq := ho1.out; clear hq; refine (open_own 0 ho1.out rfl hnew.out.fs (-1) 0 rfl).mono ?_; rintro e w3 ⟨p, rfl, ho2⟩; replace ho2 := Hidd.mk (show Own w _ w3 [bankR p f M (st0 (-1) 0) ⟨[], [], [], -1⟩] from ho2); clear ho1))
  go_loopg [4, 6] (min len0 12) (fun g v4 v6 wx => ∃ (i p2 : Nat) (t2 : St) (s2 : Fs) (v2 : Vw) (M2 : FA), i + g = min len0 12 ∧ v4 = .pointer (some ⟨p2, 0, none⟩) ∧ v6 = .int .i64 i ∧ Hidd (v2.left = -1) ∧ Hidd (Ok t2 s2 v2 (600 * i)) ∧ Hidd (Own w (fun _ => False) wx [bankR p2 f M2 t2 s2]))
  case atStart => exact ⟨0, p, _, _, _, M, by omega, rfl, rfl, ⟨rfl⟩, hnew, ho2⟩
  case round =>
    clear ho2 hnew
    obtain ⟨i, p2, t2, s2, v2, M2, hg, rfl, rfl, hvl, hok, ho⟩ := hrel
    cases gk with
    | zero =>
      have hway : (decide (i < len0) = false ∧ decide ((i : Int) < (len0 : Int)) = false) ∨ (decide (i < len0) = true ∧ decide ((i : Int) < (len0 : Int)) = true ∧ decide ((i : Int) < 12) = false) := by
        by_cases h : i < len0
        · exact .inr ⟨decide_eq_true h, decide_eq_true (by omega), decide_eq_false (by omega)⟩
        · exact .inl ⟨decide_eq_false h, decide_eq_false (by omega)⟩
      clear hg
      rcases hway with ⟨d0, d1⟩ | ⟨d0, d1, d2⟩
      all_goals go_wp2
      all_goals (try rw [Exit.noGoto_ret])
      all_goals go_ret
      all_goals exact ⟨rfl, ho.out.below fun _ => id⟩
    | succ g =>
      have hi : i < len0 := by omega
      have hi12 : i < 12 := by omega
      have hgi : i + 1 + g = min len0 12 := by omega
      have d0 : decide (i < len0) = true := decide_eq_true hi
      have d1 : decide ((i : Int) < (len0 : Int)) = true := decide_eq_true (by omega)
      have d2 : decide ((i : Int) < 12) = true := decide_eq_true (by omega)
      have bi0 : (0 : Int) ≤ (i : Int) := by omega
      have bi1 : (i : Int) < (len0 : Int) := by omega
      obtain ⟨a, rfl, A, n, c, xs, y0, hxl, hnc, hcm, hxC, hxb⟩ := hL.out i hi
      have hB := ho.out.below fun _ => id
      have y0w := Hidd.mk y0
      replace y0 := vkeepB hB y0
      replace hxC := Hidd.mk hxC
      replace hxl := Hidd.mk hxl
      replace hxb := Hidd.mk hxb
      unfold maxLen at hcm
      replace hcm := Hidd.mk (show c ≤ 9223372036854775807 from hcm)
      clear hB hg hi
      by_cases hbig : 512 < n
      · have d3 : decide (512 < n) = true := decide_eq_true hbig
        have d4 : decide ((512 : Int) < (n : Int)) = true := decide_eq_true (by omega)
        go_wp2
        (try rw [Exit.noGoto_ret])
        go_ret
        exact ⟨rfl, ho.out.below fun _ => id⟩
      · have d3 : decide (512 < n) = false := decide_eq_false hbig
        have d4 : decide ((512 : Int) < (n : Int)) = false := decide_eq_false (by omega)
        have hn512 : Hidd (n ≤ 512 ∧ n ≤ c) := ⟨by omega, hnc⟩
        have hN : Hidd (600 * i + n + 2 ≤ 9000 ∧ 600 * i + n + 2 ≤ 600 * (i + 1)) := ⟨by omega, by omega⟩
        have hpg := Hidd.mk (put_good (part := 32) (by decide) (by decide) (show xs.length ≤ 512 by rw [hxl.out]; exact hn512.out.1) hvl.out)
        have hoff := Hidd.mk (off_old ho.out 0 rfl hxC.out)
        clear hbig hnc hvl
        go_upto_region 12 with fail
        obtain ⟨W0, hW0⟩ : ∃ zz, zz = World.drew wr := ⟨_, rfl⟩
        refine wp_region_flow [([0, 1, 2, 5, 6, 3, 7, 4, 8], some (9, [true])), ([], some (10, [false, false])), ([11], none)] (by kernel_rfl) (by kernel_rfl) ?_
        rw [show ({ wr with drawn := wr.drawn + 1 } : World) = W0 from hW0.symm]
        replace hW0 := Hidd.mk hW0
        simp only [opsF, List.map_cons, List.map_nil, List.getD_cons_succ, List.getD_cons_zero, Option.map]
        have ho2 := Hidd.mk (show Own w _ W0 _ by rw [hW0.out]; exact ho.out.drew)
        have y1 : W0.cell? (a.add i) = some (.slice A n c) := by rw [hW0.out]; exact y0
        have hyl := World.block_lt_of_cell? W0 _ y1
        clear hW0 ho y0
        refine FlW.stage (fun zz => Kept (fun _ => False) W0 zz) (Kept.refl _ _) ?_
        repeat (first | (refine StQ.skip (by rfl) ?_; simp only [Act.put, List.setIfInBounds_toArray, List.set_cons_zero, List.set_cons_succ]) | (refine StQ.go' (by rfl) (Exists.intro ?_ (And.intro (fun w' hS => ?_) ?_)); rotate_left; (focus (have hc := Kept.cell0 hS; go_simp; try with_reducible rfl)); simp only [Act.put, List.setIfInBounds_toArray, List.set_cons_zero, List.set_cons_succ]))
        refine StQ.nil ?_
        refine FlO.go (by rfl) (fun K hK => ?_)
        go_simp
        (refine (refOf_any _ A n c xs hxl.out (Nat.le_trans hn512.out.1 (by decide)) (hxC.out.below (ho2.out.below fun _ => id))).mono ?_; rintro e w5 ⟨rfl, hb5⟩)
        refine hK.out _ _ (.inr ⟨Kept.below hb5, trivial⟩) ?_
        clear hK K
        have ho3 := Hidd.mk (ho2.out.ext hb5)
        clear ho2 hb5 y1 hyl
        refine FlW.stage (fun _ => True) trivial (StQ.nil ?_)
        refine FlO.go (by rfl) (fun K hK => ?_)
        go_simp
        (refine (put_own' 0 ho3.out rfl hok.out A n c xs (hxC.out.below (ho3.out.below fun _ => id)) hoff.out hxb.out hxl.out hn512.out.2 hcm.out (Nat.le_trans hn512.out.1 (by decide)) hN.out.1 (sha xs) (sha_len xs) 32 (by decide) (by decide) _ _ hpg.out).mono ?_; rintro e w6 ⟨x, rfl, M6, t6, s6, hok6, ho6⟩; obtain rfl : x = .nilIface := (show IsE w6 none x from ho6.get 0 rfl))
        refine hK.out _ _ (.inr trivial) ?_
        clear hK K
        replace hok6 := Hidd.mk hok6
        replace ho6 := Hidd.mk (show Own w _ w6 [bankR p2 f M6 t6 s6] from ho6.tail)
        clear ho3
        refine FlW.heads (fun zz => zz = _) rfl ?_
        repeat (first | (refine StQ.skip (by rfl) ?_; simp only [Act.put, List.setIfInBounds_toArray, List.set_cons_zero, List.set_cons_succ]) | (refine StQ.go' (by rfl) (Exists.intro ?_ (And.intro (fun w' hS => ?_) ?_)); rotate_left; (focus (rw [hS]; go_simp; try with_reducible rfl)); simp only [Act.put, List.setIfInBounds_toArray, List.set_cons_zero, List.set_cons_succ]))
        refine StQ.nil ?_
        refine FlW.nil (Calm.normal ?_)
        go_upto_region 16 with (go_at_call 17; have hq := ho6.out; clear hq; refine (image_own 0 ho6.out rfl hok6.out.st hok6.out.fs n (by rw [(image_ok hok6.out).1]; exact hxl.out)).mono ?_; rintro e w8 ⟨A8, c8, rfl, ho8⟩; rw [(image_ok hok6.out).1] at ho8; rw [(image_ok hok6.out).2]; replace ho8 := Hidd.mk ho8; clear ho6)
        go_loopg [57] n (fun g2 v57 wx => ∃ (j : Nat) (zs : List Int), j + g2 = n ∧ v57 = .int .i64 j ∧ Hidd (zs.length = n) ∧ Hidd (Own w (fun _ => False) wx [row 5 1 (.slice A8 n c8) n (nums .u8 zs), bankR p2 f M6 t6 s6]))
        case atStart => exact ⟨0, xs, by omega, rfl, hxl, ho8⟩
        case round =>
          clear ho8
          obtain ⟨j, zs, hg2, rfl, hzl, ho⟩ := hrel
          cases gk with
          | succ g2 =>
            have hj : j < n := by omega
            have dj : decide (j < n) = true := decide_eq_true hj
            have dj2 : decide ((j : Int) < (n : Int)) = true := decide_eq_true (by omega)
            have bj0 : (0 : Int) ≤ (j : Int) := by omega
            have bj1 : (j : Int) < (n : Int) := by omega
            have hgj : j + 1 + g2 = n := by omega
            have hjb : (j : Int) ≤ 512 := by have := hn512.out.1; omega
            obtain ⟨g8, rfl, _⟩ := own_head (show World.ownsRow _ 0 5 1 (.slice A8 n c8) n (nums .u8 zs) from ho.out.get 0 rfl) (by omega)
            obtain ⟨ad, e, z0⟩ := (row_cells ho.out 0 rfl).at j (by rw [hzl.out]; exact hj)
            injection e with e
            subst e
            rw [add_plain] at z0
            have f0 := (show World.ownsRow _ 0 5 1 (.slice (some ⟨g8, 0, none⟩) n c8) n (nums .u8 zs) from ho.out.get 0 rfl).frozenAt j
            obtain ⟨x, hx⟩ : ∃ x, x = zs.getD j 0 := ⟨_, rfl⟩
            rw [← hx] at z0
            obtain ⟨z, hz⟩ : ∃ z, bits .xor .u8 x 255 = z := ⟨_, rfl⟩
            have ho2 := row_set ho.out 0 rfl j (.int .u8 z)
            rw [show (nums .u8 zs).set j (.int .u8 z) = nums .u8 (zs.set j z) by simp [nums, List.map_set]] at ho2
            replace ho2 := Hidd.mk ho2
            have hzl2 : Hidd ((zs.set j z).length = n) := ⟨by rw [List.length_set]; exact hzl.out⟩
            clear hg2 hj ho hx
            go_wp2
            go_roundg g2
            case rel => exact ⟨j + 1, zs.set j z, hgj, by go_num, hzl2, ho2⟩
            case measure => omega
          | zero =>
            obtain rfl : j = n := by omega
            have dj : decide (j < j) = false := by simp
            have ho9 := Hidd.mk (Own.with_out (ho.out.reorder (M := [bankR p2 f M6 t6 s6]) [1] rfl (by decide)))
            have hmark := Hidd.mk hok6.out.inv.mark
            have hcr := Hidd.mk (crash_sim hok6.out)
            have hre := Hidd.mk (reopen_sim hok6.out)
            have hpf := Hidd.mk hok6.out.fs
            clear hg2 ho
            go_upto_region 24 with (first
              | (go_at_call 23; have hq := ho9.out; clear hq; refine (crash_own 1 ho9.out rfl hpf.out).mono ?_; rintro e wA ⟨fA, MA, rfl, hoA⟩; replace hoA := Hidd.mk hoA; clear ho9)
              | (go_at_call 11; have hq := hoA.out; clear hq; refine (open_own 0 hoA.out rfl hcr.out.fs t6.active t6.size hmark.out).mono ?_; rintro e wB ⟨pB, rfl, hoB⟩; replace hoB := Hidd.mk (show Own w _ wB [bankR pB fA MA (st0 t6.active t6.size) { s6 with left := -1 }, storeR p2 f t6, Res.pack (flashL f M6 s6)] from hoB); clear hoA)
              | (go_at_call 17; have hq := hoB.out; clear hq; refine (image_own 0 hoB.out rfl hcr.out.st hcr.out.fs j (by rw [(image_ok hcr.out).1]; exact hxl.out)).mono ?_; rintro e wC ⟨AC, cC, rfl, hoC⟩; rw [(image_ok hcr.out).1] at hoC; rw [(image_ok hcr.out).2]; replace hoC := Hidd.mk (show Own w _ wC [row 5 1 (.slice AC j cC) j (nums .u8 xs), bankR pB fA MA (st0 t6.active t6.size) { s6 with left := -1 }, storeR p2 f t6, Res.pack (flashL f M6 s6)] from hoC); clear hoB))
            have yC : wC.cell? (a.add i) = some (.slice A j c) := vkeepB (hoC.out.below fun _ => id) y0w.out
            have hcv := str_eq (c := cC) (row_cells hoC.out 0 rfl) hxl.out
            have hcv2 := str_eq (c := c) (hxC.out.below (hoC.out.below fun _ => id)) hxl.out
            obtain ⟨WD, hWD⟩ : ∃ zz, zz = World.drew wC := ⟨_, rfl⟩
            refine wp_region_flow [([0, 1, 2, 3, 5, 6, 4, 7, 8, 9, 10, 11], none)] (by kernel_rfl) (by kernel_rfl) ?_
            rw [show ({ wC with drawn := wC.drawn + 1 } : World) = WD from hWD.symm]
            replace hWD := Hidd.mk hWD
            simp only [opsF, List.map_cons, List.map_nil, List.getD_cons_succ, List.getD_cons_zero, Option.map]
            have hoD := Hidd.mk (show Own w _ WD _ by rw [hWD.out]; exact hoC.out.drew)
            have yD : WD.cell? (a.add i) = some (.slice A j c) := by rw [hWD.out]; exact yC
            have hcv3 : (convert 22 9 (.slice AC j cC)).run Try.prog WD = .ok (.string (strOfNums xs)) WD := str_eq (c := cC) (row_cells hoD.out 0 rfl) hxl.out
            have hcv4 : (convert 22 9 (.slice A j c)).run Try.prog WD = .ok (.string (strOfNums xs)) WD := str_eq (c := c) (hxC.out.below (hoD.out.below fun _ => id)) hxl.out
            clear hWD hoC yC hcv hcv2
            refine FlW.heads (fun zz => zz = _) rfl ?_
            repeat (first | (refine StQ.skip (by rfl) ?_; simp only [Act.put, List.setIfInBounds_toArray, List.set_cons_zero, List.set_cons_succ]) | (refine StQ.go' (by rfl) (Exists.intro ?_ (And.intro (fun w' hS => ?_) ?_)); rotate_left; (focus (rw [hS]; go_simp; try with_reducible rfl)); simp only [Act.put, List.setIfInBounds_toArray, List.set_cons_zero, List.set_cons_succ]))
            refine StQ.nil ?_
            refine FlW.nil (Calm.normal ?_)
            clear yD hcv3 hcv4
            go_wp2_with (go_at_call 11; refine (open_own 3 hoD.out rfl hre.out.fs t6.active t6.size hmark.out).mono ?_; rintro e wE ⟨pE, rfl, hoE⟩; replace hoE := Hidd.mk (show Own w _ wE [bankR pE f M6 (st0 t6.active t6.size) s6] from hoE.reorder [3] rfl (by decide)); clear hoD)
            go_roundg g
            case rel => exact ⟨i + 1, pE, _, s6, _, M6, hgi, rfl, by go_num, ⟨rfl⟩, ⟨⟨hre.out.inv, hre.out.st, hre.out.fs, bnd_mono hre.out.bnd hN.out.2⟩⟩, hoE⟩
            case measure => omega
end Go.Proofs.Ytjbhcmkloamcmaa
