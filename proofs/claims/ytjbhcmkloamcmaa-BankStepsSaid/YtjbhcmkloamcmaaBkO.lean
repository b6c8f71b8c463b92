/- BankSteps walked. -/
import Derived.Test.YtjbhcmkloamcmaaBkN
namespace Go.Proofs.Ytjbhcmkloamcmaa
open Go.RowKit

theorem err_pow : errB [(16, -1)] none = ⟨#[49, 54, 64, 45, 49]⟩ := by decide +kernel
theorem read_pow (x : Value) (w : World) (h : IsE w (some (16, -1)) x) : Calls Try.prog 19 #[x] w fun e w' => e = .returned (.string ⟨#[49, 54, 64, 45, 49]⟩) ∧ Below w.heap.size w w' := by
  rw [← err_pow]
  exact read_any [(16, -1)] none x w h.isErr ⟨by decide, by simp, by simp⟩
theorem read_no (w : World) : Calls Try.prog 19 #[.nilIface] w fun e w' => e = .returned (.string ⟨#[]⟩) ∧ Below w.heap.size w w' := read_any [] none .nilIface w rfl ⟨by decide, by simp, by simp⟩
/-- How many steps a download takes. -/
theorem steps_nat (n pt : Nat) (hn : n ≤ 300) (hp : 1 ≤ pt) (hp2 : pt ≤ 32) : ∃ a c m m1 : Nat, (n : Int) + (pt : Int) - 1 = (a : Int) ∧ (a : Int).tdiv (pt : Int) = (c : Int) ∧ (a : Int) / (pt : Int) = (c : Int) ∧ 2 + (c : Int) = (m : Int) ∧ (m : Int) - 1 = (m1 : Int) ∧ m = cnt pt n + 2 ∧ m1 = cnt pt n + 1 ∧ (a : Int) ≤ 1000 ∧ (c : Int) ≤ 1000 ∧ (m : Int) ≤ 1010 ∧ (m1 : Int) ≤ 1010 ∧ m1 < m ∧ (n : Int) + (pt : Int) ≤ 1000 ∧ ¬ (pt : Int) = 0 ∧ ¬ pt = 0 := by
  have hc : cnt pt n ≤ 1000 := by
    unfold cnt
    exact Nat.le_trans (Nat.div_le_self ..) (by omega)
  refine ⟨n + pt - 1, cnt pt n, cnt pt n + 2, cnt pt n + 1, by omega, ?_, ?_, by omega, by omega, rfl, rfl, by omega, by omega, by omega, by omega, by omega, by omega, by omega, by omega⟩
  · rw [Int.tdiv_eq_ediv_of_nonneg (by omega)]
    exact (Int.natCast_ediv _ _).symm
  · exact (Int.natCast_ediv _ _).symm
theorem rarm_left (m : Nat) : (rarm (m : Int) Vw.new).left = (m : Int) := by unfold rarm; dsimp only; rw [if_neg (by omega)]
theorem cells2 {w0 w : World} {S : Nat → Prop} {L : List Res} {p : Nat} {T : TypeId} {fr : Nat × Nat} {a0 a1 : Value} (h : Own w0 S w L) (k : Nat) (hk : L[k]? = some (blk p (.cells #[a0, a1] T fr))) : w.cell? ⟨p, 0, none⟩ = some a0 ∧ w.cell? ⟨p, 1, none⟩ = some a1 := ⟨h.cell k hk 0, h.cell k hk 1⟩
set_option maxRecDepth 100000
set_option maxHeartbeats 16000000
theorem bankSteps_walk (a0 : Option Addr) (len0 cap0 : Nat) (z0 : List Int) (a1 : Int) (w : World) (h0 : IsRow .u8 w a0 len0 cap0 z0) (_ : len0 * 1 ≤ 140737488351232) (_ : (Lit.int .i64 a1).wf = true) :
    Calls Try.prog 4 #[.slice a0 len0 cap0, .int .i64 a1] w fun e w' => e = .returned (.bool true) ∧ Below w.heap.size w w' := by
  obtain ⟨ys, hyl, hyc, hym, hyC, hyw⟩ := h0.open_
  have hyb := Hidd.mk (row_bytes rfl hyw)
  unfold maxLen at hym
  replace hym := Hidd.mk (show cap0 ≤ 9223372036854775807 from hym)
  clear h0 hyw
  replace hyl := Hidd.mk hyl
  replace hyC := Hidd.mk hyC
  by_cases hbig : 300 < len0
  · have d0 : decide (300 < len0) = true := decide_eq_true hbig
    have d1 : decide ((300 : Int) < (len0 : Int)) = true := decide_eq_true (by omega)
    go_enter Try.func4, Try.ntmps4
    go_wp2_with (go_at_call 10; refine (awake19_any _).mono ?_; rintro e w1 ⟨rfl, hb1⟩)
    go_ret
    exact ⟨rfl, hb1⟩
  · have d0 : decide (300 < len0) = false := decide_eq_false hbig
    have d1 : decide ((300 : Int) < (len0 : Int)) = false := decide_eq_false (by omega)
    have hl300 : len0 ≤ 300 := by omega
    have hc1 := Hidd.mk (show len0 ≤ cap0 ∧ len0 ≤ 300 from ⟨hyc, hl300⟩)
    clear hbig hyc
    obtain ⟨f32, pt, m1, m2, m3, m4, m5, m6, m7, hp1, hp2⟩ := part_nat a1
    have hpp := Hidd.mk (show 1 ≤ pt ∧ pt ≤ 32 from ⟨hp1, hp2⟩)
    obtain ⟨a, c, m, mm, s1, s2, s3, s4, s5, hmc, hmm, s6, s7, s8, s9, s10, s11, pt0, pt1⟩ := steps_nat len0 pt hl300 hp1 hp2
    have u1 : IntKind.i64.wrap ((len0 : Int) + (pt : Int)) = (len0 : Int) + (pt : Int) := wrap_small _ (Int.le_trans (by decide) (Int.add_nonneg (Int.natCast_nonneg _) (Int.natCast_nonneg _))) (Int.le_trans s11 (by decide))
    have u2 : wrap64 ((len0 : Int) + (pt : Int)) = (len0 : Int) + (pt : Int) := wrap64_small _ (Int.le_trans (by decide) (Int.add_nonneg (Int.natCast_nonneg _) (Int.natCast_nonneg _))) (Int.le_trans s11 (by decide))
    have u3 : IntKind.i64.wrap ((a : Nat) : Int) = (a : Int) := wrap_small _ (Int.le_trans (by decide) (Int.natCast_nonneg _)) (Int.le_trans s6 (by decide))
    have u4 : wrap64 ((a : Nat) : Int) = (a : Int) := wrap64_small _ (Int.le_trans (by decide) (Int.natCast_nonneg _)) (Int.le_trans s6 (by decide))
    have u5 : IntKind.i64.wrap ((c : Nat) : Int) = (c : Int) := wrap_small _ (Int.le_trans (by decide) (Int.natCast_nonneg _)) (Int.le_trans s7 (by decide))
    have u6 : wrap64 ((c : Nat) : Int) = (c : Int) := wrap64_small _ (Int.le_trans (by decide) (Int.natCast_nonneg _)) (Int.le_trans s7 (by decide))
    have u7 : IntKind.i64.wrap ((m : Nat) : Int) = (m : Int) := wrap_small _ (Int.le_trans (by decide) (Int.natCast_nonneg _)) (Int.le_trans s8 (by decide))
    have u8 : wrap64 ((m : Nat) : Int) = (m : Int) := wrap64_small _ (Int.le_trans (by decide) (Int.natCast_nonneg _)) (Int.le_trans s8 (by decide))
    have u9 : IntKind.i64.wrap ((mm : Nat) : Int) = (mm : Int) := wrap_small _ (Int.le_trans (by decide) (Int.natCast_nonneg _)) (Int.le_trans s9 (by decide))
    have u10 : wrap64 ((mm : Nat) : Int) = (mm : Int) := wrap64_small _ (Int.le_trans (by decide) (Int.natCast_nonneg _)) (Int.le_trans s9 (by decide))
    replace hmc := Hidd.mk hmc
    replace hmm := Hidd.mk hmm
    have hsl := Hidd.mk (sha_len ys)
    obtain ⟨sum, hsum⟩ : ∃ sum, sum = sha ys := ⟨_, rfl⟩
    rw [← hsum] at hsl
    replace hsum := Hidd.mk hsum
    have hnew := Hidd.mk new_ok
    clear hp1 hp2 hl300
    go_enter Try.func4, Try.ntmps4
    go_upto_region 9 with (first
      | (go_at_call 10; refine (awake19_any _).mono ?_; rintro e w1 ⟨rfl, hb1⟩; replace hb1 := Hidd.mk hb1)
      | (go_at_call 16; have hq := hb1.out; clear hq; refine (refOf_any _ a0 len0 cap0 ys hyl.out (Nat.le_trans hc1.out.2 (by decide)) (hyC.out.below hb1.out)).mono ?_; rintro e w3 ⟨rfl, hb3⟩; rw [← hsum.out]; have hoZ := Hidd.mk (((Own.nil w (fun _ => False)).ext (below_then hb1.out hb3)).alloc (.cells #[.int .u8 0, .int .u8 0, .int .u8 0, .int .u8 0, .int .u8 0, .int .u8 0, .int .u8 0, .int .u8 0, .int .u8 0, .int .u8 0, .int .u8 0, .int .u8 0, .int .u8 0, .int .u8 0, .int .u8 0, .int .u8 0, .int .u8 0, .int .u8 0, .int .u8 0, .int .u8 0, .int .u8 0, .int .u8 0, .int .u8 0, .int .u8 0, .int .u8 0, .int .u8 0, .int .u8 0, .int .u8 0, .int .u8 0, .int .u8 0, .int .u8 0, .int .u8 0] 34 (0, 0))); clear hb3 hb1)
      | (have hq := hoZ.out; clear hq; refine wpList_store_own hoZ.out 0 rfl rfl 34 _ _ rfl rfl (cells := (nums .u8 sum).toArray) rfl (sum_info _ hsl.out) (zero_hold _ hsl.out) (nums_all _) ?_; intro w4 ho4; replace ho4 := Hidd.mk (ho4.alloc (.cells #[.int .i64 (mm : Int), .int .i64 (m : Int)] 3 (0, 0))); clear hoZ))
    clear m1 m2 m3 m4 m5 m6 m7 s1 s2 s3 s4 s5 s6 s7 s11 u1 u2 u3 u4 u5 u6 u7 u8 u9 u10 pt0 pt1 d0 d1
    replace s8 := Hidd.mk s8
    replace s9 := Hidd.mk s9
    replace s10 := Hidd.mk s10
    generalize w4.heap.size = b8 at ho4 ⊢
    generalize World.alloc w4 _ = wa at ho4 ⊢
    replace ho4 : Hidd (Own w (fun _ => False) wa [blk b8 (.cells #[.int .i64 (mm : Int), .int .i64 (m : Int)] 3 (0, 0)), blk w3.heap.size (.cells (nums .u8 sum).toArray 34 (0, 0))]) := ⟨ho4.out⟩
    go_loopg [40] 2 (fun g v40 wx => ∃ (i : Nat), i + g = 2 ∧ v40 = .int .i64 i ∧ Hidd (Own w (fun _ => False) wx [blk b8 (.cells #[.int .i64 (mm : Int), .int .i64 (m : Int)] 3 (0, 0)), blk w3.heap.size (.cells (nums .u8 sum).toArray 34 (0, 0))]))
    case atStart => exact ⟨0, by omega, rfl, ho4⟩
    case round =>
      clear ho4
      obtain ⟨i, hg, rfl, ho⟩ := hrel
      cases gk with
      | succ g =>
        obtain ⟨rfl, rfl⟩ | ⟨rfl, rfl⟩ : (i = 0 ∧ g = 1) ∨ (i = 1 ∧ g = 0) := by omega
        · clear hg
          have hst := (put_steps hpp.out.1 hpp.out.2 (show ys.length ≤ 512 by rw [hyl.out]; exact Nat.le_trans hc1.out.2 (by decide)) (v := rarm (mm : Int) Vw.new) (m := mm) (rarm_left mm)).2 (by rw [hyl.out, hmm.out]; exact Nat.lt_succ_self _)
          obtain ⟨v2, hpt, him, hhs⟩ := hst
          have hil : Hidd (v2.image.length = 0) := ⟨by rw [him]; rfl⟩
          have hpt2 := Hidd.mk hpt
          have him2 := Hidd.mk him
          have hhs2 := Hidd.mk hhs
          clear hpt him hhs
          have hok0 := Hidd.mk (arm_sim new_ok (mm : Int) (Int.le_trans s9.out (by decide)))
          have e1 : ((mm : Int) == (m : Int)) = false := by rw [beq_eq_false_iff_ne]; intro h; have := Int.ofNat.inj h; exact Nat.ne_of_lt s10.out this
          have e2 : decide ((mm : Int) < (m : Int)) = true := decide_eq_true (Int.ofNat_lt.2 s10.out)
          have e3 : decide (mm < m) = true := decide_eq_true s10.out
          have e4 : (mm == m) = false := by rw [beq_eq_false_iff_ne]; exact Nat.ne_of_lt s10.out
          obtain ⟨k0, k1⟩ := cells2 ho.out 0 rfl
          go_wp2_with (first
            | (go_at_call 12; refine (newFlash_own _).mono ?_; rintro e w5 ⟨f, M, rfl, ho5⟩; have ho6 := Hidd.mk (ho.out.made ho5); clear ho5 ho k0 k1)
            | (go_at_call 18; have hq := ho6.out; clear hq; refine (arm_own 0 ho6.out rfl (mm : Int)).mono ?_; rintro e w6 ⟨rfl, ho7⟩; replace ho7 := Hidd.mk ho7; clear ho6)
            | (go_at_call 11; have hq := ho7.out; clear hq; refine (open_own 0 ho7.out rfl hok0.out.fs (-1) 0 rfl).mono ?_; rintro e w7 ⟨p, rfl, ho8⟩; replace ho8 := Hidd.mk (show Own w _ w7 [bankR p f M (st0 (-1) 0) (armS (mm : Int) ⟨[], [], [], -1⟩), blk b8 (.cells #[.int .i64 (mm : Int), .int .i64 (m : Int)] 3 (0, 0)), blk w3.heap.size (.cells (nums .u8 sum).toArray 34 (0, 0))] from ho8); clear ho7)
            | (have hq := ho8.out; clear hq; refine wpList_load_row rfl 34 (.tmp 6) rfl _ rfl 34 _ (0, 0) _ (ho8.out.get 2 rfl) Try.underlying34 rfl (sum_info _ hsl.out) ?_)
            | (go_at_call 15; have hq := ho8.out; clear hq; refine (put_own' 0 ho8.out rfl hok0.out a0 len0 cap0 ys (hyC.out.below (ho8.out.below fun _ => id)) (off_old ho8.out 0 rfl hyC.out) hyb.out hyl.out hc1.out.1 hym.out (Nat.le_trans hc1.out.2 (by decide)) (by have := hc1.out.2; exact Nat.le_trans (Nat.add_le_add_right (Nat.add_le_add_left this 0) 2) (by decide)) sum hsl.out pt hpp.out.1 (Nat.le_trans hpp.out.2 (by decide)) (some (16, -1)) v2 (by rw [hsum.out]; exact hpt2.out)).mono ?_; rintro e w9 ⟨x, rfl, M9, t9, s9, hok9, ho9⟩; have he9 := Hidd.mk (show IsE w9 (some (16, -1)) x from ho9.get 0 rfl); replace hok9 := Hidd.mk hok9; replace ho9 := Hidd.mk ho9.tail; clear ho8)
            | (go_at_call 19; have hq := ho9.out; clear hq; refine (read_pow _ _ he9.out).mono ?_; rintro e wA ⟨rfl, hbA⟩; have hoA := Hidd.mk (ho9.out.ext hbA); clear hbA ho9)
            | (go_at_call 17; have hq := hoA.out; clear hq; refine (image_own 0 hoA.out rfl hok9.out.st hok9.out.fs 0 (by rw [(image_ok hok9.out).1]; exact hil.out)).mono ?_; rintro e wB ⟨AB, cB, rfl, hoB⟩; rw [(image_ok hok9.out).1] at hoB; rw [(image_ok hok9.out).2, hhs2.out];  replace hoB := Hidd.mk hoB; clear hoA))
          go_roundg 1
          case rel => exact ⟨1, by omega, by go_num, ⟨hoB.out.reorder [2, 3] rfl (by decide)⟩⟩
          case measure => omega
        · clear hg
          have hst := (put_steps hpp.out.1 hpp.out.2 (show ys.length ≤ 512 by rw [hyl.out]; exact Nat.le_trans hc1.out.2 (by decide)) (v := rarm (m : Int) Vw.new) (m := m) (rarm_left m)).1 (by rw [hyl.out, hmc.out]; exact Nat.le_refl _)
          obtain ⟨v2, hpt, him, hhs⟩ := hst
          have hil : Hidd (v2.image.length = len0) := ⟨by rw [him]; exact hyl.out⟩
          have hpt2 := Hidd.mk hpt
          have him2 := Hidd.mk him
          have hhs2 := Hidd.mk hhs
          clear hpt him hhs
          have hok0 := Hidd.mk (arm_sim new_ok (m : Int) (Int.le_trans s8.out (by decide)))
          have e1 : ((m : Int) == (m : Int)) = true := beq_self_eq_true _
          obtain ⟨k0, k1⟩ := cells2 ho.out 0 rfl
          go_wp2_with (first
            | (go_at_call 12; refine (newFlash_own _).mono ?_; rintro e w5 ⟨f, M, rfl, ho5⟩; have ho6 := Hidd.mk (ho.out.made ho5); clear ho5 ho k0 k1)
            | (go_at_call 18; have hq := ho6.out; clear hq; refine (arm_own 0 ho6.out rfl (m : Int)).mono ?_; rintro e w6 ⟨rfl, ho7⟩; replace ho7 := Hidd.mk ho7; clear ho6)
            | (go_at_call 11; have hq := ho7.out; clear hq; refine (open_own 0 ho7.out rfl hok0.out.fs (-1) 0 rfl).mono ?_; rintro e w7 ⟨p, rfl, ho8⟩; replace ho8 := Hidd.mk (show Own w _ w7 [bankR p f M (st0 (-1) 0) (armS (m : Int) ⟨[], [], [], -1⟩), blk b8 (.cells #[.int .i64 (mm : Int), .int .i64 (m : Int)] 3 (0, 0)), blk w3.heap.size (.cells (nums .u8 sum).toArray 34 (0, 0))] from ho8); clear ho7)
            | (have hq := ho8.out; clear hq; refine wpList_load_row rfl 34 (.tmp 6) rfl _ rfl 34 _ (0, 0) _ (ho8.out.get 2 rfl) Try.underlying34 rfl (sum_info _ hsl.out) ?_)
            | (go_at_call 15; have hq := ho8.out; clear hq; refine (put_own' 0 ho8.out rfl hok0.out a0 len0 cap0 ys (hyC.out.below (ho8.out.below fun _ => id)) (off_old ho8.out 0 rfl hyC.out) hyb.out hyl.out hc1.out.1 hym.out (Nat.le_trans hc1.out.2 (by decide)) (by have := hc1.out.2; exact Nat.le_trans (Nat.add_le_add_right (Nat.add_le_add_left this 0) 2) (by decide)) sum hsl.out pt hpp.out.1 (Nat.le_trans hpp.out.2 (by decide)) none v2 (by rw [hsum.out]; exact hpt2.out)).mono ?_; rintro e w9 ⟨x, rfl, M9, t9, s9, hok9, ho9⟩; obtain rfl : x = .nilIface := (show IsE w9 none x from ho9.get 0 rfl); replace hok9 := Hidd.mk hok9; replace ho9 := Hidd.mk ho9.tail; clear ho8)
            | (go_at_call 19; have hq := ho9.out; clear hq; refine (read_no _).mono ?_; rintro e wA ⟨rfl, hbA⟩; have hoA := Hidd.mk (ho9.out.ext hbA); clear hbA ho9)
            | (go_at_call 17; have hq := hoA.out; clear hq; refine (image_own 0 hoA.out rfl hok9.out.st hok9.out.fs len0 (by rw [(image_ok hok9.out).1]; exact hil.out)).mono ?_; rintro e wB ⟨AB, cB, rfl, hoB⟩; rw [(image_ok hok9.out).1] at hoB; rw [(image_ok hok9.out).2, hhs2.out]; rw [him2.out] at hoB; have hcv := str_eq (c := cB) (row_cells hoB 0 rfl) hyl.out; have hcv2 := str_eq (c := cap0) (hyC.out.below (hoB.below fun _ => id)) hyl.out; replace hoB := Hidd.mk hoB; clear hoA))
          go_roundg 0
          case rel => exact ⟨2, by omega, by go_num, ⟨hoB.out.reorder [2, 3] rfl (by decide)⟩⟩
          case measure => omega
      | zero =>
        obtain rfl : i = 2 := by omega
        go_wp2
        (try rw [Exit.noGoto_ret])
        go_ret
        exact ⟨rfl, ho.out.below fun _ => id⟩
end Go.Proofs.Ytjbhcmkloamcmaa
