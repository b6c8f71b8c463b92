/- BankStates walked. -/
import Derived.Test.YtjbhcmkloamcmaaBkQ0
import Derived.Deep.OwnRows
namespace Go.Proofs.Ytjbhcmkloamcmaa
open Go.RowKit

def vs1 (sum : List Int) (n : Int) (got : List Int) : Vw := ⟨false, true, [], sum, got, n, -1⟩
theorem tx15 : errB [(15, -1)] none = ⟨#[49, 53, 64, 45, 49]⟩ := by decide +kernel
theorem tx120 : errB [(12, 0)] none = ⟨#[49, 50, 64, 48]⟩ := by decide +kernel
theorem tx1233 : errB [(12, 33)] none = ⟨#[49, 50, 64, 51, 51]⟩ := by decide +kernel
theorem tx5 : errB [(5, -1)] none = ⟨#[53, 64, 45, 49]⟩ := by decide +kernel
theorem tx4 (z : Int) : errB [(4, z)] none = atB 4 z := ByteArray.append_empty ..
theorem made_numsB (k : IntKind) (n : Nat) : (madeCells #[.int k 0] n).toList = nums k (List.replicate n 0) := by
  have h : madeCells #[.int k 0] n = (nums k (List.replicate n 0)).toArray := by
    simp only [madeCells, nums]
    apply Array.ext
    · simp
    · intro i h1 h2
      simp [Nat.mod_one]
  rw [h]
theorem bytes_zero (n : Nat) : Bytes (List.replicate n 0) := fun x hx => by
  have := (List.mem_replicate.1 hx).2
  omega
theorem rc_closed (b : List Int) (v : Vw) (h : v.opn = false) : rchunk b v = (some (15, -1), v) := by unfold rchunk; rw [if_pos h]
theorem rk_closed (v : Vw) (h : v.opn = false) : rcommit v = (some (15, -1), v) := by unfold rcommit; rw [if_pos h]
theorem rc_go (b sum : List Int) (n : Int) (got : List Int) (h1 : 1 ≤ b.length) (h2 : b.length ≤ 32) (h3 : (got.length : Int) + b.length ≤ n) : rchunk b (vs1 sum n got) = (none, vs1 sum n (got ++ b)) := by
  unfold rchunk vs1
  rw [if_neg (show ¬ (true = false) by decide), if_neg (by omega), if_neg (by simp only; omega), if_neg (show ¬ ((-1 : Int) = 0) by decide)]
  rfl
theorem rc_size (b sum : List Int) (n : Int) (got : List Int) (m : Nat) (hm : b.length = m) (h : m < 1 ∨ 32 < m) : rchunk b (vs1 sum n got) = (some (12, (m : Int)), vs1 sum n got) := by
  subst hm
  unfold rchunk vs1
  rw [if_neg (show ¬ (true = false) by decide), if_pos h]
theorem rc_more (b sum : List Int) (n : Int) (got : List Int) (h1 : 1 ≤ b.length) (h2 : b.length ≤ 32) (h3 : n < (got.length : Int) + b.length) : rchunk b (vs1 sum n got) = (some (5, -1), vs1 sum n got) := by
  unfold rchunk vs1
  rw [if_neg (show ¬ (true = false) by decide), if_neg (by omega), if_pos (by simp only; omega)]
theorem rk_short (sum : List Int) (n : Int) (got : List Int) (z : Int) (hz : n - got.length = z) (h : z ≠ 0) : rcommit (vs1 sum n got) = (some (4, z), vs1 sum n got) := by
  subst hz
  unfold rcommit vs1
  rw [if_neg (show ¬ (true = false) by decide), if_pos h]
theorem rk_go (n : Int) (got : List Int) (hz : n = got.length) : rcommit (vs1 (sha got) n got) = (none, ⟨true, false, got, sha got, got, n, -1⟩) := by
  unfold rcommit vs1
  rw [if_neg (show ¬ (true = false) by decide), if_neg (by simp only; omega), if_neg (by simp), if_neg (show ¬ ((-1 : Int) = 0) by decide)]
  rfl
theorem lv_open (sum : List Int) (n : Int) (got : List Int) : leftV (vs1 sum n got) = n - got.length := rfl
/-- The numbers. -/
theorem sts_nat (n c : Nat) (h2 : 2 ≤ n) (h32 : n ≤ 32) (hc : n ≤ c) : ∃ m : Nat, (n : Int) - 1 = (m : Int) ∧ n = m + 1 ∧ n - 1 = m ∧ 1 ≤ m ∧ m ≤ 31 ∧ wrap64 (m : Int) = (m : Int) ∧ IntKind.i64.wrap (m : Int) = (m : Int) ∧ (1 : Int) ≤ (c : Int) ∧ 1 ≤ c ∧ (1 : Int) ≤ (n : Int) ∧ (n : Int) ≤ (c : Int) ∧ ¬ c = 1 ∧ ¬ c - 1 = 0 ∧ (-1 ≤ (m : Int) ∧ -9223372036854775808 ≤ (m : Int) ∧ (m : Int) ≤ 9223372036854775807) :=
  ⟨n - 1, by omega, by omega, by omega, by omega, by omega, wrap64_small _ (by omega) (by omega), wrap_small _ (by omega) (by omega), by omega, by omega, by omega, by omega, by omega, by omega, ⟨by omega, by omega, by omega⟩⟩
set_option maxRecDepth 100000
set_option maxHeartbeats 16000000
theorem bankStates_walk (a0 : Option Addr) (len0 cap0 : Nat) (z0 : List Int) (a1 : Option Addr) (len1 cap1 : Nat) (z1 : List Int) (w : World) (h0 : IsRow .u8 w a0 len0 cap0 z0) (_ : len0 * 1 ≤ 140737488351232) (h1 : IsRow .u8 w a1 len1 cap1 z1) (_ : len1 * 1 ≤ 140737488351232) :
    Calls Try.prog 5 #[.slice a0 len0 cap0, .slice a1 len1 cap1] w fun e w' => e = .returned (.bool true) ∧ Below w.heap.size w w' := by
  obtain ⟨xs, hxl, hxc, hxm, hxC, hxw⟩ := h0.open_
  obtain ⟨ys, hyl, hyc, hym, hyC, hyw⟩ := h1.open_
  have hxb := Hidd.mk (row_bytes rfl hxw)
  have hyb := Hidd.mk (row_bytes rfl hyw)
  clear h0 h1 hxw hyw hxm hym hyc
  replace hxl := Hidd.mk hxl
  replace hyl := Hidd.mk hyl
  replace hxC := Hidd.mk hxC
  replace hyC := Hidd.mk hyC
  by_cases hbig : len0 < 2 ∨ 32 < len0 ∨ len1 < 1 ∨ 32 < len1
  · have hway : decide ((len0 : Int) < 2) = true ∨ (decide ((len0 : Int) < 2) = false ∧ decide ((32 : Int) < (len0 : Int)) = true) ∨ (decide ((len0 : Int) < 2) = false ∧ decide ((32 : Int) < (len0 : Int)) = false ∧ decide ((len1 : Int) < 1) = true) ∨ (decide ((len0 : Int) < 2) = false ∧ decide ((32 : Int) < (len0 : Int)) = false ∧ decide ((len1 : Int) < 1) = false ∧ decide ((32 : Int) < (len1 : Int)) = true) := by
      by_cases k1 : len0 < 2
      · exact .inl (decide_eq_true (by omega))
      · by_cases k2 : 32 < len0
        · exact .inr (.inl ⟨decide_eq_false (by omega), decide_eq_true (by omega)⟩)
        · by_cases k3 : len1 < 1
          · exact .inr (.inr (.inl ⟨decide_eq_false (by omega), decide_eq_false (by omega), decide_eq_true (by omega)⟩))
          · exact .inr (.inr (.inr ⟨decide_eq_false (by omega), decide_eq_false (by omega), decide_eq_false (by omega), decide_eq_true (by omega)⟩))
    clear hbig
    rcases hway with d0 | ⟨d0, d1⟩ | ⟨d0, d1, d2⟩ | ⟨d0, d1, d2, d3⟩
    all_goals go_enter Try.func5, Try.ntmps5
    all_goals go_wp2_with (go_at_call 10; refine (awake19_any _).mono ?_; rintro e w1 ⟨rfl, hb1⟩)
    all_goals go_ret
    all_goals exact ⟨rfl, hb1⟩
  · have d0 : decide ((len0 : Int) < 2) = false := decide_eq_false (by omega)
    have d1 : decide ((32 : Int) < (len0 : Int)) = false := decide_eq_false (by omega)
    have d2 : decide ((len1 : Int) < 1) = false := decide_eq_false (by omega)
    have d3 : decide ((32 : Int) < (len1 : Int)) = false := decide_eq_false (by omega)
    have hy1 : 1 ≤ ys.length := by rw [hyl.out]; omega
    have hy2 : ys.length ≤ 32 := by rw [hyl.out]; omega
    obtain ⟨a, rfl⟩ : ∃ a, a0 = some a := by
      obtain ⟨ad, e, _⟩ := hxC.out.at 0 (by rw [hxl.out]; omega)
      exact ⟨ad, e⟩
    have hX1 : Hidd (Cells w (some a) (nums .u8 (xs.take 1))) := ⟨by rw [nums_take]; exact hxC.out.take 1⟩
    have hX2 : Hidd (Cells w (some (a.add 1)) (nums .u8 (xs.drop 1))) := ⟨by rw [nums_drop]; exact hxC.out.drop 1⟩
    have hL1 : Hidd ((xs.take 1).length = 1) := ⟨by rw [List.length_take, hxl.out]; omega⟩
    have hd : decide (len0 - 1 < len1) = true ∧ len0 - 1 < len1 ∨ decide (len0 - 1 < len1) = false ∧ ¬ len0 - 1 < len1 := by
      by_cases h : len0 - 1 < len1
      · exact .inl ⟨decide_eq_true h, h⟩
      · exact .inr ⟨decide_eq_false h, h⟩
    obtain ⟨m, m0, m1, m2, m3, m4, m5, m6, m7, m8, m9, m10, m11, m12, m13⟩ := sts_nat len0 cap0 (by omega) (by omega) hxc
    have hL2 : Hidd ((xs.drop 1).length = m) := ⟨by rw [List.length_drop, hxl.out]; exact m2⟩
    have r1 := Hidd.mk (rbegin_nat len0 (by omega) (sha xs) Vw.new rfl)
    have r2 := Hidd.mk (rc_go (xs.take 1) (sha xs) (len0 : Int) [] (by rw [hL1.out]; decide) (by rw [hL1.out]; decide) (by rw [hL1.out]; simp only [List.length_nil]; omega))
    have r3 := Hidd.mk (rk_short (sha xs) (len0 : Int) ([] ++ xs.take 1) (m : Int) (by rw [List.nil_append, hL1.out]; exact m0) (by omega))
    have r4 := Hidd.mk (rc_size [] (sha xs) (len0 : Int) ([] ++ xs.take 1) 0 rfl (.inl (by decide)))
    have r5 := Hidd.mk (rc_size (List.replicate 33 0) (sha xs) (len0 : Int) ([] ++ xs.take 1) 33 (by simp) (.inr (by decide)))
    have r6 : Hidd (len0 - 1 < len1 → rchunk ys (vs1 (sha xs) (len0 : Int) ([] ++ xs.take 1)) = (some (5, -1), vs1 (sha xs) (len0 : Int) ([] ++ xs.take 1))) := ⟨fun h => rc_more ys (sha xs) (len0 : Int) _ hy1 hy2 (by rw [List.nil_append, hL1.out, hyl.out]; omega)⟩
    have r7 := Hidd.mk (rc_go (xs.drop 1) (sha xs) (len0 : Int) ([] ++ xs.take 1) (by rw [hL2.out]; exact m3) (by rw [hL2.out]; omega) (by rw [List.nil_append, hL1.out, hL2.out, m1]; omega))
    rw [List.nil_append, List.take_append_drop] at r7
    have r8 := Hidd.mk (rc_more ys (sha xs) (len0 : Int) xs hy1 hy2 (by rw [hxl.out]; omega))
    have r9 := Hidd.mk (rk_go (len0 : Int) xs (by rw [hxl.out]))
    have r10 := Hidd.mk (lv_open (sha xs) (len0 : Int) [])
    have r11 : Hidd (leftV (vs1 (sha xs) (len0 : Int) ([] ++ xs.take 1)) = (m : Int)) := ⟨by rw [lv_open, List.nil_append, hL1.out]; exact m0⟩
    have hnew := Hidd.mk new_ok
    have hx32 : Hidd (len0 ≤ 100000 ∧ len1 ≤ 100000 ∧ m ≤ 100000 ∧ len0 ≤ 1000000) := ⟨by omega⟩
    have hm4 : Hidd ((m : Int) ≤ 31) := ⟨by omega⟩
    replace m4 := Hidd.mk m4
    replace m13 := Hidd.mk m13
    have hmk : ∀ W : World, (Instr.makeSlice 22 (.int .i64 33) (.int .i64 33)).run Try.prog W = .ok (.slice (some ⟨W.heap.size, 0, none⟩) 33 33) (W.alloc (.cells (madeCells #[.int .u8 0] 33) 5 (0, 0))) := run_make_row' 22 5 (.int .u8 0) 1 (by rfl) info_u8 rfl .i64 .i64 33 (by decide) (by decide)
    clear hbig hy1 hy2 hxc m1 m3
    rcases hd with ⟨dd, hd⟩ | ⟨dd, hd⟩
    · have hd2 := Hidd.mk hd
      have dd2 : decide ((m : Int) < (len1 : Int)) = true := decide_eq_true (by rw [m2] at hd; omega)
      have dd3 : decide (m < len1) = true := by rw [← m2]; exact dd
      clear dd hd
      go_enter Try.func5, Try.ntmps5
      go_wp2_with (first
        | (go_at_call 10; refine (awake19_any _).mono ?_; rintro e w1 ⟨rfl, hb0⟩; replace hb0 := Hidd.mk hb0)
        | (go_at_call 12; have hq := hb0.out; clear hq; refine (newFlash_own _).mono ?_; rintro e w2 ⟨f, M, rfl, ho1⟩; replace ho1 := Hidd.mk (((Own.nil w (fun _ => False)).ext hb0.out).made ho1); clear hb0)
        | (go_at_call 11; have hq := ho1.out; clear hq; refine (open_own 0 ho1.out rfl hnew.out.fs (-1) 0 rfl).mono ?_; rintro e w3 ⟨p, rfl, ho2⟩; replace ho2 := Hidd.mk (show Own w _ w3 [bankR p f M (st0 (-1) 0) ⟨[], [], [], -1⟩] from ho2); clear ho1)
        | (go_at_call 14; have hq := ho2.out; clear hq; refine (chunk_v 0 ho2.out rfl hnew.out (by decide) (some a) len0 cap0 xs (hxC.out.below (ho2.out.below fun _ => id)) hxb.out hxl.out hx32.out.1 _ _ (rc_closed xs Vw.new rfl)).mono ?_; rintro e w4 ⟨x, rfl, he4, M4, t4, s4, hok4, ho4⟩; replace he4 := Hidd.mk he4; replace hok4 := Hidd.mk hok4; replace ho4 := Hidd.mk (show Own w _ w4 [bankR p f M4 t4 s4] from ho4); clear ho2)
        | (go_at_call 19; have hq := he4.out; clear hq; refine (read_v (15) (-1) _ _ he4.out (by decide) _ tx15).mono ?_; rintro e w5 ⟨rfl, hb⟩; have ho5 := Hidd.mk (ho4.out.ext hb); clear hb ho4 he4)
        | (go_at_call 20; have hq := ho5.out; clear hq; refine (commit_v 0 ho5.out rfl hok4.out (by decide) _ _ (rk_closed Vw.new rfl)).mono ?_; rintro e w6 ⟨x, rfl, he6, M6, t6, s6, hok6, ho6⟩; replace he6 := Hidd.mk he6; replace hok6 := Hidd.mk hok6; replace ho6 := Hidd.mk (show Own w _ w6 [bankR p f M6 t6 s6] from ho6); clear ho5)
        | (go_at_call 19; have hq := he6.out; clear hq; refine (read_v (15) (-1) _ _ he6.out (by decide) _ tx15).mono ?_; rintro e w7 ⟨rfl, hb⟩; have ho7 := Hidd.mk (ho6.out.ext hb); clear hb ho6 he6)
        | (go_at_call 21; have hq := ho7.out; clear hq; refine (left_v 0 ho7.out rfl hok6.out 0 rfl).mono ?_; rintro e w8 ⟨rfl, rfl⟩; have ho8 := ho7; clear ho7)
        | (go_at_call 16; have hq := ho8.out; clear hq; refine (refOf_any _ (some a) len0 cap0 xs hxl.out hx32.out.2.2.2 (hxC.out.below (ho8.out.below fun _ => id))).mono ?_; rintro e w9 ⟨rfl, hb⟩; have ho9 := Hidd.mk (ho8.out.ext hb); clear hb ho8)
        | (go_at_call 13; have hq := ho9.out; clear hq; refine (begin_v 0 ho9.out rfl hok6.out (by decide) (len0 : Int) (sha xs) (sha_len xs) _ _ r1.out).mono ?_; rintro e w10 ⟨x, rfl, he10, M10, t10, s10, hok10, ho10⟩; obtain rfl : x = .nilIface := he10; replace hok10 : Ok t10 s10 (vs1 (sha xs) (len0 : Int) []) _ := hok10; replace hok10 := Hidd.mk hok10; replace ho10 := Hidd.mk (show Own w _ w10 [bankR p f M10 t10 s10] from ho10); clear ho9)
        | (go_at_call 21; have hq := ho10.out; clear hq; refine (left_v 0 ho10.out rfl hok10.out (len0 : Int) (by rw [r10.out]; simp)).mono ?_; rintro e w11 ⟨rfl, rfl⟩; have ho11 := ho10; clear ho10)
        | (go_at_call 14; have hq := ho11.out; clear hq; refine (chunk_v 0 ho11.out rfl hok10.out (by decide) (some a) 1 cap0 (xs.take 1) (hX1.out.below (ho11.out.below fun _ => id)) (bytes_take hxb.out 1) hL1.out (by decide) _ _ r2.out).mono ?_; rintro e w12 ⟨x, rfl, he12, M12, t12, s12, hok12, ho12⟩; obtain rfl : x = .nilIface := he12; replace hok12 := Hidd.mk hok12; replace ho12 := Hidd.mk (show Own w _ w12 [bankR p f M12 t12 s12] from ho12); clear ho11)
        | (go_at_call 21; have hq := ho12.out; clear hq; refine (left_v 0 ho12.out rfl hok12.out (m : Int) r11.out).mono ?_; rintro e w13 ⟨rfl, rfl⟩; have ho13 := ho12; clear ho12)
        | (go_at_call 20; have hq := ho13.out; clear hq; refine (commit_v 0 ho13.out rfl hok12.out (by decide) _ _ r3.out).mono ?_; rintro e w14 ⟨x, rfl, he14, M14, t14, s14, hok14, ho14⟩; replace he14 := Hidd.mk he14; replace hok14 := Hidd.mk hok14; replace ho14 := Hidd.mk (show Own w _ w14 [bankR p f M14 t14 s14] from ho14); clear ho13)
        | (go_at_call 19; have hq := he14.out; clear hq; refine (read_v (4) ((m : Int)) _ _ he14.out ⟨by decide, by decide, by decide, m13.out.1, m13.out.2.2⟩ _ (tx4 (m : Int))).mono ?_; rintro e w15 ⟨rfl, hb⟩; have ho15 := Hidd.mk (ho14.out.ext hb); clear hb ho14 he14)
        | (go_at_call 22; have hq := ho15.out; clear hq; refine (at_any 4 (m : Int) _ (by decide) (by decide) m13.out.2.1 m13.out.2.2).mono ?_; rintro e w16 ⟨rfl, hb⟩; have ho16 := Hidd.mk (ho15.out.ext hb); clear hb ho15)
        | (go_at_call 14; have hq := ho16.out; clear hq; refine (chunk_v 0 ho16.out rfl hok14.out (by decide) none 0 0 [] (Cells.nil _ _) (by intro x hx; cases hx) rfl (by decide) _ _ r4.out).mono ?_; rintro e w17 ⟨x, rfl, he17, M17, t17, s17, hok17, ho17⟩; replace he17 := Hidd.mk he17; replace hok17 := Hidd.mk hok17; replace ho17 := Hidd.mk (show Own w _ w17 [bankR p f M17 t17 s17] from ho17); clear ho16)
        | (go_at_call 19; have hq := he17.out; clear hq; refine (read_v (12) (0) _ _ he17.out (by decide) _ tx120).mono ?_; rintro e w18 ⟨rfl, hb⟩; have ho18 := Hidd.mk (ho17.out.ext hb); clear hb ho17 he17)
        | (go_at_call 14; have hq := ho18.out; clear hq; refine (chunk_v 0 (ext_alloc ho18.out _) rfl hok17.out (by decide) _ 33 33 (List.replicate 33 0) (Cells.new _ _ _ _ (made_numsB .u8 33)) (bytes_zero 33) (by simp) (by decide) _ _ r5.out).mono ?_; rintro e w19 ⟨x, rfl, he19, M19, t19, s19, hok19, ho19⟩; replace he19 := Hidd.mk he19; replace hok19 := Hidd.mk hok19; replace ho19 := Hidd.mk (show Own w _ w19 [bankR p f M19 t19 s19] from ho19); clear ho18)
        | (go_at_call 19; have hq := he19.out; clear hq; refine (read_v (12) (33) _ _ he19.out (by decide) _ tx1233).mono ?_; rintro e w20 ⟨rfl, hb⟩; have ho20 := Hidd.mk (ho19.out.ext hb); clear hb ho19 he19)
        | (go_at_call 14; have hq := ho20.out; clear hq; refine (chunk_v 0 ho20.out rfl hok19.out (by decide) a1 len1 cap1 ys (hyC.out.below (ho20.out.below fun _ => id)) hyb.out hyl.out hx32.out.2.1 _ _ (r6.out hd2.out)).mono ?_; rintro e w21 ⟨x, rfl, he21, M21, t21, s21, hok21, ho21⟩; replace he21 := Hidd.mk he21; replace hok21 := Hidd.mk hok21; replace ho21 := Hidd.mk (show Own w _ w21 [bankR p f M21 t21 s21] from ho21); clear ho20)
        | (go_at_call 19; have hq := he21.out; clear hq; refine (read_v (5) (-1) _ _ he21.out (by decide) _ tx5).mono ?_; rintro e w22 ⟨rfl, hb⟩; have ho22 := Hidd.mk (ho21.out.ext hb); clear hb ho21 he21)
        | (go_at_call 14; have hq := ho22.out; clear hq; refine (chunk_v 0 ho22.out rfl hok21.out (by decide) (some (a.add 1)) m (cap0 - 1) (xs.drop 1) (hX2.out.below (ho22.out.below fun _ => id)) (bytes_drop hxb.out 1) hL2.out hx32.out.2.2.1 _ _ r7.out).mono ?_; rintro e w23 ⟨x, rfl, he23, M23, t23, s23, hok23, ho23⟩; obtain rfl : x = .nilIface := he23; replace hok23 := Hidd.mk hok23; replace ho23 := Hidd.mk (show Own w _ w23 [bankR p f M23 t23 s23] from ho23); clear ho22)
        | (go_at_call 14; have hq := ho23.out; clear hq; refine (chunk_v 0 ho23.out rfl hok23.out (by decide) a1 len1 cap1 ys (hyC.out.below (ho23.out.below fun _ => id)) hyb.out hyl.out hx32.out.2.1 _ _ r8.out).mono ?_; rintro e w24 ⟨x, rfl, he24, M24, t24, s24, hok24, ho24⟩; replace he24 := Hidd.mk he24; replace hok24 := Hidd.mk hok24; replace ho24 := Hidd.mk (show Own w _ w24 [bankR p f M24 t24 s24] from ho24); clear ho23)
        | (go_at_call 19; have hq := he24.out; clear hq; refine (read_v (5) (-1) _ _ he24.out (by decide) _ tx5).mono ?_; rintro e w25 ⟨rfl, hb⟩; have ho25 := Hidd.mk (ho24.out.ext hb); clear hb ho24 he24)
        | (go_at_call 20; have hq := ho25.out; clear hq; refine (commit_v 0 ho25.out rfl hok24.out (by decide) _ _ r9.out).mono ?_; rintro e w26 ⟨x, rfl, he26, M26, t26, s26, hok26, ho26⟩; obtain rfl : x = .nilIface := he26; replace hok26 := Hidd.mk hok26; replace ho26 := Hidd.mk (show Own w _ w26 [bankR p f M26 t26 s26] from ho26); clear ho25)
        | (go_at_call 17; have hq := ho26.out; clear hq; refine (image_v 0 ho26.out rfl hok26.out xs len0 rfl hxl.out true rfl).mono ?_; rintro e w27 ⟨A8, c8, rfl, ho27⟩; replace ho27 := Hidd.mk ho27; have hcv := str_eq (c := c8) (row_cells ho27.out 0 rfl) hxl.out; have hcv2 := str_eq (c := cap0) (hxC.out.below (ho27.out.below fun _ => id)) hxl.out; clear ho26)
        | (go_at_call 20; have hq := ho27.out; clear hq; refine (commit_v 1 ho27.out rfl hok26.out (by decide) _ _ (rk_closed _ rfl)).mono ?_; rintro e w28 ⟨x, rfl, he28, M28, t28, s28, hok28, ho28⟩; replace he28 := Hidd.mk he28; replace ho28 := Hidd.mk ho28; clear ho27)
        | (go_at_call 19; have hq := he28.out; clear hq; refine (read_v (15) (-1) _ _ he28.out (by decide) _ tx15).mono ?_; rintro e w29 ⟨rfl, hb⟩; have ho29 := Hidd.mk (ho28.out.ext hb); clear hb ho28 he28))
      go_ret
      exact ⟨rfl, ho29.out.below fun _ => id⟩
    · have hd2 := Hidd.mk hd
      have dd2 : decide ((m : Int) < (len1 : Int)) = false := decide_eq_false (by rw [m2] at hd; omega)
      have dd3 : decide (m < len1) = false := by rw [← m2]; exact dd
      clear dd hd
      go_enter Try.func5, Try.ntmps5
      go_wp2_with (first
        | (go_at_call 10; refine (awake19_any _).mono ?_; rintro e w1 ⟨rfl, hb0⟩; replace hb0 := Hidd.mk hb0)
        | (go_at_call 12; have hq := hb0.out; clear hq; refine (newFlash_own _).mono ?_; rintro e w2 ⟨f, M, rfl, ho1⟩; replace ho1 := Hidd.mk (((Own.nil w (fun _ => False)).ext hb0.out).made ho1); clear hb0)
        | (go_at_call 11; have hq := ho1.out; clear hq; refine (open_own 0 ho1.out rfl hnew.out.fs (-1) 0 rfl).mono ?_; rintro e w3 ⟨p, rfl, ho2⟩; replace ho2 := Hidd.mk (show Own w _ w3 [bankR p f M (st0 (-1) 0) ⟨[], [], [], -1⟩] from ho2); clear ho1)
        | (go_at_call 14; have hq := ho2.out; clear hq; refine (chunk_v 0 ho2.out rfl hnew.out (by decide) (some a) len0 cap0 xs (hxC.out.below (ho2.out.below fun _ => id)) hxb.out hxl.out hx32.out.1 _ _ (rc_closed xs Vw.new rfl)).mono ?_; rintro e w4 ⟨x, rfl, he4, M4, t4, s4, hok4, ho4⟩; replace he4 := Hidd.mk he4; replace hok4 := Hidd.mk hok4; replace ho4 := Hidd.mk (show Own w _ w4 [bankR p f M4 t4 s4] from ho4); clear ho2)
        | (go_at_call 19; have hq := he4.out; clear hq; refine (read_v (15) (-1) _ _ he4.out (by decide) _ tx15).mono ?_; rintro e w5 ⟨rfl, hb⟩; have ho5 := Hidd.mk (ho4.out.ext hb); clear hb ho4 he4)
        | (go_at_call 20; have hq := ho5.out; clear hq; refine (commit_v 0 ho5.out rfl hok4.out (by decide) _ _ (rk_closed Vw.new rfl)).mono ?_; rintro e w6 ⟨x, rfl, he6, M6, t6, s6, hok6, ho6⟩; replace he6 := Hidd.mk he6; replace hok6 := Hidd.mk hok6; replace ho6 := Hidd.mk (show Own w _ w6 [bankR p f M6 t6 s6] from ho6); clear ho5)
        | (go_at_call 19; have hq := he6.out; clear hq; refine (read_v (15) (-1) _ _ he6.out (by decide) _ tx15).mono ?_; rintro e w7 ⟨rfl, hb⟩; have ho7 := Hidd.mk (ho6.out.ext hb); clear hb ho6 he6)
        | (go_at_call 21; have hq := ho7.out; clear hq; refine (left_v 0 ho7.out rfl hok6.out 0 rfl).mono ?_; rintro e w8 ⟨rfl, rfl⟩; have ho8 := ho7; clear ho7)
        | (go_at_call 16; have hq := ho8.out; clear hq; refine (refOf_any _ (some a) len0 cap0 xs hxl.out hx32.out.2.2.2 (hxC.out.below (ho8.out.below fun _ => id))).mono ?_; rintro e w9 ⟨rfl, hb⟩; have ho9 := Hidd.mk (ho8.out.ext hb); clear hb ho8)
        | (go_at_call 13; have hq := ho9.out; clear hq; refine (begin_v 0 ho9.out rfl hok6.out (by decide) (len0 : Int) (sha xs) (sha_len xs) _ _ r1.out).mono ?_; rintro e w10 ⟨x, rfl, he10, M10, t10, s10, hok10, ho10⟩; obtain rfl : x = .nilIface := he10; replace hok10 : Ok t10 s10 (vs1 (sha xs) (len0 : Int) []) _ := hok10; replace hok10 := Hidd.mk hok10; replace ho10 := Hidd.mk (show Own w _ w10 [bankR p f M10 t10 s10] from ho10); clear ho9)
        | (go_at_call 21; have hq := ho10.out; clear hq; refine (left_v 0 ho10.out rfl hok10.out (len0 : Int) (by rw [r10.out]; simp)).mono ?_; rintro e w11 ⟨rfl, rfl⟩; have ho11 := ho10; clear ho10)
        | (go_at_call 14; have hq := ho11.out; clear hq; refine (chunk_v 0 ho11.out rfl hok10.out (by decide) (some a) 1 cap0 (xs.take 1) (hX1.out.below (ho11.out.below fun _ => id)) (bytes_take hxb.out 1) hL1.out (by decide) _ _ r2.out).mono ?_; rintro e w12 ⟨x, rfl, he12, M12, t12, s12, hok12, ho12⟩; obtain rfl : x = .nilIface := he12; replace hok12 := Hidd.mk hok12; replace ho12 := Hidd.mk (show Own w _ w12 [bankR p f M12 t12 s12] from ho12); clear ho11)
        | (go_at_call 21; have hq := ho12.out; clear hq; refine (left_v 0 ho12.out rfl hok12.out (m : Int) r11.out).mono ?_; rintro e w13 ⟨rfl, rfl⟩; have ho13 := ho12; clear ho12)
        | (go_at_call 20; have hq := ho13.out; clear hq; refine (commit_v 0 ho13.out rfl hok12.out (by decide) _ _ r3.out).mono ?_; rintro e w14 ⟨x, rfl, he14, M14, t14, s14, hok14, ho14⟩; replace he14 := Hidd.mk he14; replace hok14 := Hidd.mk hok14; replace ho14 := Hidd.mk (show Own w _ w14 [bankR p f M14 t14 s14] from ho14); clear ho13)
        | (go_at_call 19; have hq := he14.out; clear hq; refine (read_v (4) ((m : Int)) _ _ he14.out ⟨by decide, by decide, by decide, m13.out.1, m13.out.2.2⟩ _ (tx4 (m : Int))).mono ?_; rintro e w15 ⟨rfl, hb⟩; have ho15 := Hidd.mk (ho14.out.ext hb); clear hb ho14 he14)
        | (go_at_call 22; have hq := ho15.out; clear hq; refine (at_any 4 (m : Int) _ (by decide) (by decide) m13.out.2.1 m13.out.2.2).mono ?_; rintro e w16 ⟨rfl, hb⟩; have ho16 := Hidd.mk (ho15.out.ext hb); clear hb ho15)
        | (go_at_call 14; have hq := ho16.out; clear hq; refine (chunk_v 0 ho16.out rfl hok14.out (by decide) none 0 0 [] (Cells.nil _ _) (by intro x hx; cases hx) rfl (by decide) _ _ r4.out).mono ?_; rintro e w17 ⟨x, rfl, he17, M17, t17, s17, hok17, ho17⟩; replace he17 := Hidd.mk he17; replace hok17 := Hidd.mk hok17; replace ho17 := Hidd.mk (show Own w _ w17 [bankR p f M17 t17 s17] from ho17); clear ho16)
        | (go_at_call 19; have hq := he17.out; clear hq; refine (read_v (12) (0) _ _ he17.out (by decide) _ tx120).mono ?_; rintro e w18 ⟨rfl, hb⟩; have ho18 := Hidd.mk (ho17.out.ext hb); clear hb ho17 he17)
        | (go_at_call 14; have hq := ho18.out; clear hq; refine (chunk_v 0 (ext_alloc ho18.out _) rfl hok17.out (by decide) _ 33 33 (List.replicate 33 0) (Cells.new _ _ _ _ (made_numsB .u8 33)) (bytes_zero 33) (by simp) (by decide) _ _ r5.out).mono ?_; rintro e w19 ⟨x, rfl, he19, M19, t19, s19, hok19, ho19⟩; replace he19 := Hidd.mk he19; replace hok19 := Hidd.mk hok19; replace ho19 := Hidd.mk (show Own w _ w19 [bankR p f M19 t19 s19] from ho19); clear ho18)
        | (go_at_call 19; have hq := he19.out; clear hq; refine (read_v (12) (33) _ _ he19.out (by decide) _ tx1233).mono ?_; rintro e w20 ⟨rfl, hb⟩; have ho20 := Hidd.mk (ho19.out.ext hb); clear hb ho19 he19)
        | (go_at_call 14; have hq := ho20.out; clear hq; refine (chunk_v 0 ho20.out rfl hok19.out (by decide) (some (a.add 1)) m (cap0 - 1) (xs.drop 1) (hX2.out.below (ho20.out.below fun _ => id)) (bytes_drop hxb.out 1) hL2.out hx32.out.2.2.1 _ _ r7.out).mono ?_; rintro e w21 ⟨x, rfl, he21, M21, t21, s21, hok21, ho21⟩; obtain rfl : x = .nilIface := he21; replace hok21 := Hidd.mk hok21; replace ho21 := Hidd.mk (show Own w _ w21 [bankR p f M21 t21 s21] from ho21); clear ho20)
        | (go_at_call 14; have hq := ho21.out; clear hq; refine (chunk_v 0 ho21.out rfl hok21.out (by decide) a1 len1 cap1 ys (hyC.out.below (ho21.out.below fun _ => id)) hyb.out hyl.out hx32.out.2.1 _ _ r8.out).mono ?_; rintro e w22 ⟨x, rfl, he22, M22, t22, s22, hok22, ho22⟩; replace he22 := Hidd.mk he22; replace hok22 := Hidd.mk hok22; replace ho22 := Hidd.mk (show Own w _ w22 [bankR p f M22 t22 s22] from ho22); clear ho21)
        | (go_at_call 19; have hq := he22.out; clear hq; refine (read_v (5) (-1) _ _ he22.out (by decide) _ tx5).mono ?_; rintro e w23 ⟨rfl, hb⟩; have ho23 := Hidd.mk (ho22.out.ext hb); clear hb ho22 he22)
        | (go_at_call 20; have hq := ho23.out; clear hq; refine (commit_v 0 ho23.out rfl hok22.out (by decide) _ _ r9.out).mono ?_; rintro e w24 ⟨x, rfl, he24, M24, t24, s24, hok24, ho24⟩; obtain rfl : x = .nilIface := he24; replace hok24 := Hidd.mk hok24; replace ho24 := Hidd.mk (show Own w _ w24 [bankR p f M24 t24 s24] from ho24); clear ho23)
        | (go_at_call 17; have hq := ho24.out; clear hq; refine (image_v 0 ho24.out rfl hok24.out xs len0 rfl hxl.out true rfl).mono ?_; rintro e w25 ⟨A8, c8, rfl, ho25⟩; replace ho25 := Hidd.mk ho25; have hcv := str_eq (c := c8) (row_cells ho25.out 0 rfl) hxl.out; have hcv2 := str_eq (c := cap0) (hxC.out.below (ho25.out.below fun _ => id)) hxl.out; clear ho24)
        | (go_at_call 20; have hq := ho25.out; clear hq; refine (commit_v 1 ho25.out rfl hok24.out (by decide) _ _ (rk_closed _ rfl)).mono ?_; rintro e w26 ⟨x, rfl, he26, M26, t26, s26, hok26, ho26⟩; replace he26 := Hidd.mk he26; replace ho26 := Hidd.mk ho26; clear ho25)
        | (go_at_call 19; have hq := he26.out; clear hq; refine (read_v (15) (-1) _ _ he26.out (by decide) _ tx15).mono ?_; rintro e w27 ⟨rfl, hb⟩; have ho27 := Hidd.mk (ho26.out.ext hb); clear hb ho26 he26))
      go_ret
      exact ⟨rfl, ho27.out.below fun _ => id⟩
end Go.Proofs.Ytjbhcmkloamcmaa
