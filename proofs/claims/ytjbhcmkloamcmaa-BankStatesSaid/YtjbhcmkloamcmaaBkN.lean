/- BankAnew walked. -/
import Derived.Test.YtjbhcmkloamcmaaBkK
import Derived.Test.YtjbhcmkloamcmaaBkM
import Derived.Test.YtjbhcmkloamcmaaShp
namespace Go.Proofs.Ytjbhcmkloamcmaa
open Go.RowKit

theorem u64_mod (z : Int) (m : Nat) (hm : 0 < m) : ∃ f : Nat, f < m ∧ (IntKind.u64.wrap z).tmod (m : Int) = f ∧ IntKind.u64.wrap z % (m : Int) = f := by
  have h0 : 0 ≤ IntKind.u64.wrap z := by unfold IntKind.wrap; simp [IntKind.signed, IntKind.bits]; omega
  have h1 : 0 ≤ IntKind.u64.wrap z % (m : Int) := Int.emod_nonneg _ (by omega)
  have h2 : IntKind.u64.wrap z % (m : Int) < m := Int.emod_lt_of_pos _ (by omega)
  exact ⟨(IntKind.u64.wrap z % (m : Int)).toNat, by omega, by rw [Int.tmod_eq_emod_of_nonneg h0]; omega, by omega⟩
/-- The size of the parts. -/
theorem part_nat (z : Int) : ∃ f pt : Nat, (IntKind.u64.wrap z).tmod 32 = (f : Int) ∧ IntKind.u64.wrap z % 32 = (f : Int) ∧ wrap64 (f : Int) = (f : Int) ∧ IntKind.i64.wrap (f : Int) = (f : Int) ∧ wrap64 (1 + (f : Int)) = (pt : Int) ∧ IntKind.i64.wrap (1 + (f : Int)) = (pt : Int) ∧ 1 + (f : Int) = (pt : Int) ∧ 1 ≤ pt ∧ pt ≤ 32 := by
  obtain ⟨f, hf, h1, h2⟩ := u64_mod z 32 (by decide)
  have e : 1 + (f : Int) = ((f + 1 : Nat) : Int) := by omega
  refine ⟨f, f + 1, h1, h2, wrap64_small _ (by omega) (by omega), wrap_small _ (by omega) (by omega), ?_, ?_, e, by omega, by omega⟩
  · rw [wrap64_small _ (by omega) (by omega), e]
  · rw [wrap_small _ (by omega) (by omega), e]
theorem row_bytes {k : IntKind} {xs : List Int} (hk : k = .u8) (h : ∀ x ∈ xs, (Lit.int k x).wf = true) : Bytes xs := fun x hx => by
  subst hk
  obtain ⟨n, rfl, hn⟩ := wf8 (h x hx)
  omega
theorem begin_ownZ {w w0 : World} {S : Nat → Prop} {L : List Res} {p f : Nat} {M : FA} {t : St} {s : Fs} (k : Nat) (hO : Own w0 S w L) (hk : L[k]? = some (bankR p f M t s)) (ht : t.sum.length = 32) (hl : -1 ≤ s.left ∧ s.left ≤ 1000000) (n : Int)
    (zs : List Int) (hzs : zs = List.replicate 32 0) (er : Option (Int × Int)) (t' : St) (s' : Fs) (hx : beginX n zs t s = (er, t', s')) :
    Calls Try.prog 13 #[.pointer (some ⟨p, 0, none⟩), .int .i64 n, .agg #[.int .u8 0, .int .u8 0, .int .u8 0, .int .u8 0, .int .u8 0, .int .u8 0, .int .u8 0, .int .u8 0, .int .u8 0, .int .u8 0, .int .u8 0, .int .u8 0, .int .u8 0, .int .u8 0, .int .u8 0, .int .u8 0, .int .u8 0, .int .u8 0, .int .u8 0, .int .u8 0, .int .u8 0, .int .u8 0, .int .u8 0, .int .u8 0, .int .u8 0, .int .u8 0, .int .u8 0, .int .u8 0, .int .u8 0, .int .u8 0, .int .u8 0, .int .u8 0]] w fun e w' => ∃ v, e = .returned v ∧ ∃ M', Own w0 S w' (eres er v :: L.set k (bankR p f M' t' s')) := by
  subst hzs
  exact begin_own k hO hk ht hl n (List.replicate 32 0) (by decide) er t' s' hx
theorem rbegin_on {n : Int} (h0 : 0 ≤ n) (h1 : n ≤ 512) (sum : List Int) (v : Vw) (hl : v.left = -1) : rbegin n sum v = (none, ⟨v.has, true, v.image, sum, [], n, -1⟩) := by
  unfold rbegin
  rw [if_neg (by omega), if_neg (by omega), hl, decL_neg]
theorem rbegin_nat (n : Nat) (h : n ≤ 512) (sum : List Int) (v : Vw) (hl : v.left = -1) : rbegin (n : Int) sum v = (none, ⟨v.has, true, v.image, sum, [], (n : Int), -1⟩) := rbegin_on (by omega) (by omega) sum v hl
/-- A slice that came in is apart from what the call made. -/
theorem off_old {w0 w : World} {L : List Res} {r : Res} {A : Option Addr} {bs : List Int} (h : Own w0 (fun _ => False) w L) (k : Nat) (hk : L[k]? = some r) (hA : Cells w0 A (nums .u8 bs)) : Off r A bs := fun hb ad e hf => by
  have hlt : ad.block < w0.heap.size := by
    rcases bs with _ | ⟨x, bs⟩
    · exact absurd rfl hb
    · obtain ⟨a, e', hc⟩ := hA 0 _ rfl
      rw [e] at e'
      injection e' with e'
      subst e'
      rw [addr_zero] at hc
      exact World.block_lt_of_cell? w0 _ hc
  rcases h.own r (List.mem_of_getElem? hk) _ hf with h1 | h1
  · exact h1
  · omega
theorem str_eq {w : World} {A : Option Addr} {n c : Nat} {xs : List Int} (h : Cells w A (nums .u8 xs)) (hl : xs.length = n) : (convert 22 9 (.slice A n c)).run Try.prog w = .ok (.string (strOfNums xs)) w := conv_at h hl
set_option maxRecDepth 100000
set_option maxHeartbeats 16000000
theorem bankAnew_walk (a0 : Option Addr) (len0 cap0 : Nat) (z0 : List Int) (a1 : Option Addr) (len1 cap1 : Nat) (z1 : List Int) (a2 : Int) (w : World) (h0 : IsRow .u8 w a0 len0 cap0 z0) (_ : len0 * 1 ≤ 140737488351232) (h1 : IsRow .u8 w a1 len1 cap1 z1) (_ : len1 * 1 ≤ 140737488351232) (_ : (Lit.int .i64 a2).wf = true) :
    Calls Try.prog 3 #[.slice a0 len0 cap0, .slice a1 len1 cap1, .int .i64 a2] w fun e w' => e = .returned (.bool true) ∧ Below w.heap.size w w' := by
  obtain ⟨xs, hxl, hxc, hxm, hxC, hxw⟩ := h0.open_
  obtain ⟨ys, hyl, hyc, hym, hyC, hyw⟩ := h1.open_
  have hxb := Hidd.mk (row_bytes rfl hxw)
  have hyb := Hidd.mk (row_bytes rfl hyw)
  unfold maxLen at hym
  replace hym := Hidd.mk (show cap1 ≤ 9223372036854775807 from hym)
  clear h0 h1 hxw hyw hxm
  replace hxl := Hidd.mk hxl
  replace hyl := Hidd.mk hyl
  replace hxC := Hidd.mk hxC
  replace hyC := Hidd.mk hyC
  by_cases hbig : 200 < len0 ∨ 200 < len1
  · have hway : decide ((200 : Int) < (len0 : Int)) = true ∨ (decide ((200 : Int) < (len0 : Int)) = false ∧ decide ((200 : Int) < (len1 : Int)) = true) := by
      by_cases h : 200 < len0
      · exact .inl (decide_eq_true (by omega))
      · exact .inr ⟨decide_eq_false (by omega), decide_eq_true (by omega)⟩
    clear hbig
    rcases hway with d0 | ⟨d0, d1⟩
    all_goals go_enter Try.func3, Try.ntmps3
    all_goals go_wp2_with (go_at_call 10; refine (awake19_any _).mono ?_; rintro e w1 ⟨rfl, hb1⟩)
    all_goals go_ret
    all_goals exact ⟨rfl, hb1⟩
  · have d0 : decide ((200 : Int) < (len0 : Int)) = false := decide_eq_false (by omega)
    have d1 : decide ((200 : Int) < (len1 : Int)) = false := decide_eq_false (by omega)
    have hcc := Hidd.mk (show len0 ≤ cap0 ∧ len0 ≤ 600 ∧ 0 + len0 + 2 ≤ 9000 from ⟨hxc, by omega, by omega⟩)
    have hc1 := Hidd.mk (show len1 ≤ cap1 ∧ len1 ≤ 200 ∧ len0 ≤ 200 from ⟨hyc, by omega, by omega⟩)
    have hq512 : len0 + 1 ≤ 512 := by omega
    have hq5 : -1000000 ≤ (len0 : Int) + 1 ∧ (len0 : Int) + 1 ≤ 1000000 := by omega
    obtain ⟨zs, hzs⟩ : ∃ zs : List Int, zs = List.replicate 32 0 := ⟨_, rfl⟩
    have hzl : zs.length = 32 := by rw [hzs]; rfl
    replace hzs := Hidd.mk hzs
    obtain ⟨⟨er1, t1, s1⟩, hx1⟩ : ∃ r, beginX ((len0 : Int) + 1) zs (st0 (-1) 0) ⟨[], [], [], -1⟩ = r := ⟨_, rfl⟩
    obtain ⟨v1, hr1, hok1⟩ := begin_sim new_ok (by decide) ((len0 : Int) + 1) zs hzl hx1
    have hrb := rbegin_nat (len0 + 1) hq512 zs Vw.new rfl
    rw [Int.natCast_add, Int.natCast_one] at hrb
    rw [hrb] at hr1
    injection hr1 with e1 e2
    subst e1 e2
    replace hok1 : Ok t1 s1 ⟨false, true, [], zs, xs.take 0, (len0 : Int) + 1, -1⟩ 0 := hok1
    replace hx1 := Hidd.mk hx1
    replace hok1 := Hidd.mk hok1
    have hnew := Hidd.mk new_ok
    obtain ⟨f32, pt, m1, m2, m3, m4, m5, m6, m7, hp1, hp2⟩ := part_nat a2
    have hpp := Hidd.mk (show 1 ≤ pt ∧ pt ≤ 32 from ⟨hp1, hp2⟩)
    have w0 : IntKind.i64.wrap ((len0 : Int) + 1) = (len0 : Int) + 1 := wrap_small _ hq5.1 hq5.2
    have w1 : wrap64 ((len0 : Int) + 1) = (len0 : Int) + 1 := wrap64_small _ hq5.1 hq5.2
    clear hbig hp1 hp2 hxc hyc hzl hrb hq512 hq5
    go_enter Try.func3, Try.ntmps3
    go_upto_region 10 with (first
      | (go_at_call 10; refine (awake19_any _).mono ?_; rintro e w1 ⟨rfl, hb1⟩; replace hb1 := Hidd.mk hb1)
      | (go_at_call 12; have hq := hb1.out; clear hq; refine (newFlash_own _).mono ?_; rintro e w2 ⟨f, M, rfl, ho1⟩; replace ho1 := Hidd.mk (((Own.nil w (fun _ => False)).ext hb1.out).made ho1); clear hb1)
      | (go_at_call 11; have hq := ho1.out; clear hq; refine (open_own 0 ho1.out rfl hnew.out.fs (-1) 0 rfl).mono ?_; rintro e w3 ⟨p, rfl, ho2⟩; replace ho2 := Hidd.mk (show Own w _ w3 [bankR p f M (st0 (-1) 0) ⟨[], [], [], -1⟩] from ho2); clear ho1)
      | (go_at_call 13; have hq := ho2.out; clear hq; refine (begin_ownZ 0 ho2.out rfl hnew.out.st.sum hnew.out.fs.left ((len0 : Int) + 1) zs hzs.out _ _ _ hx1.out).mono ?_; rintro e w4 ⟨x, rfl, M4, ho4⟩; obtain rfl : x = .nilIface := (show IsE w4 none x from ho4.get 0 rfl); replace ho4 := Hidd.mk (show Own w _ w4 [bankR p f M4 t1 s1] from ho4.tail); clear ho2))
    clear m1 m2 m3 m4 m5 m6 m7 w0 w1 d0 d1
    go_loopg [9] len0 (fun g v9 wx => ∃ (i : Nat) (t2 : St) (s2 : Fs) (M2 : FA) (N2 : Nat), v9 = .int .i64 i ∧ i ≤ len0 + pt ∧ len0 ≤ i + g ∧ N2 + g ≤ 0 + len0 ∧ Hidd (Ok t2 s2 ⟨false, true, [], zs, xs.take i, (len0 : Int) + 1, -1⟩ N2) ∧ Hidd (Own w (fun _ => False) wx [bankR p f M2 t2 s2]))
    case atStart => exact ⟨0, t1, s1, M4, 0, rfl, Nat.zero_le _, by rw [Nat.zero_add]; exact Nat.le_refl _, by omega, hok1, ho4⟩
    case round =>
      clear hok1 ho4 hx1
      obtain ⟨i, t2, s2, M2, N2, rfl, hi1, hi2, hN2, hok, ho⟩ := hrel
      by_cases hi : i < len0
      · obtain ⟨g, rfl⟩ : ∃ g, gk = g + 1 := ⟨gk - 1, by omega⟩
        have di : decide (i < len0) = true := decide_eq_true hi
        have di2 : decide ((i : Int) < (len0 : Int)) = true := decide_eq_true (by omega)
        obtain ⟨q, hqe⟩ : ∃ q, q = min pt (len0 - i) := ⟨_, rfl⟩
        have hq : ((xs.drop i).take pt).length = q := by rw [hqe]; exact chunk_len hxl.out i pt
        obtain ⟨⟨r1, r2, r3, r4, b0, b2, b5, b6, hnext⟩, ez, q1, q3, q4, q2, q5, q6⟩ := put_arith len0 cap0 i pt g 0 N2 q hcc.out.1 hpp.out.1 (Nat.le_trans hpp.out.2 (by decide)) hcc.out.2.1 hcc.out.2.2 hi hi2 hN2 hqe
        obtain ⟨er2, t3, s3, hx2⟩ : ∃ er2 t3 s3, chunkX ((xs.drop i).take pt) t2 s2 = (er2, t3, s3) := ⟨_, _, _, rfl⟩
        have hbc : Bytes ((xs.drop i).take pt) := bytes_take (bytes_drop hxb.out i) pt
        obtain ⟨v3, hr3, hok3⟩ := chunk_sim hok.out r3 _ hbc hx2
        have hrc : rchunk ((xs.drop i).take pt) ⟨false, true, [], zs, xs.take i, (len0 : Int) + 1, -1⟩ = (none, ⟨false, true, [], zs, xs.take (i + pt), (len0 : Int) + 1, -1⟩) := by
          unfold rchunk
          have hil : (xs.take i).length = i := by rw [List.length_take, hxl.out]; exact Nat.min_eq_left (Nat.le_of_lt hi)
          have hqp : q ≤ pt := by rw [hqe]; exact Nat.min_le_left ..
          have hqn : q ≤ len0 - i := by rw [hqe]; exact Nat.min_le_right ..
          have hp32 := hpp.out.2
          rw [if_neg (show ¬ (true = false) by decide), if_neg (by rw [hq]; omega), if_neg (by simp only [hil, hq]; omega), if_neg (show ¬ ((-1 : Int) = 0) by decide)]
          simp only [List.take_add]
          rfl
        rw [hrc] at hr3
        injection hr3 with e1 e2
        subst e1 e2
        have hC := hxC.out.below (ho.out.below fun _ => id)
        obtain ⟨a, rfl⟩ : ∃ a, a0 = some a := by
          obtain ⟨ad, e, _⟩ := hC.at i (by rw [hxl.out]; exact hi)
          exact ⟨ad, e⟩
        have hCc : Hidd (Cells wr (some (a.add i)) (nums .u8 ((xs.drop i).take pt))) := ⟨by
          have := (hC.drop i).take pt
          rw [nums_take, nums_drop]
          exact this⟩
        have hq2 := Hidd.mk hq
        have hb3 : Hidd (s2.b0.length ≤ 9999 ∧ s2.b1.length ≤ 9999) := ⟨Nat.le_trans hok.out.bnd.1 (Nat.le_trans r3 (by decide)), Nat.le_trans hok.out.bnd.2.1 (Nat.le_trans r3 (by decide))⟩
        have w5 : IntKind.i64.wrap ((i : Int) + (pt : Int)) = (i : Int) + (pt : Int) := wrap_small _ (Int.le_trans (by decide) (Int.add_nonneg b0 (Int.natCast_nonneg pt))) r4
        have w6 : wrap64 ((i : Int) + (pt : Int)) = (i : Int) + (pt : Int) := wrap64_small _ (Int.le_trans (by decide) (Int.add_nonneg b0 (Int.natCast_nonneg pt))) r4
        have hqm : Hidd (q ≤ 100) := ⟨r2⟩
        replace hx2 := Hidd.mk hx2
        replace hbc := Hidd.mk hbc
        replace hqe := Hidd.mk hqe
        replace hnext := Hidd.mk hnext
        replace hok3 := Hidd.mk hok3
        clear hq hC hi1 hi2 hN2 hrc hi r1 r2 r3 r4
        go_wp2_with (go_at_call 14; refine (chunk_own 0 ho.out rfl hok.out.st hok.out.fs _ _ _ ((xs.drop i).take pt) hCc.out hbc.out (by first | exact hq2.out | (rw [q2]; exact hq2.out)) (by have h1 := hqm.out; first | omega | (simp only [q2]; omega)) _ _ _ hx2.out hb3.out).mono ?_; rintro e w5 ⟨x, rfl, M3, ho6⟩; obtain rfl : x = .nilIface := (show IsE w5 none x from ho6.get 0 rfl); replace ho6 := Hidd.mk (show Own w _ w5 [bankR p f M3 t3 s3] from ho6.tail); clear ho)
        go_roundg g
        case rel => exact ⟨i + pt, t3, s3, M3, N2 + 1, by go_num, hnext.out.1, hnext.out.2.1, hnext.out.2.2, hok3, ho6⟩
        case measure => omega
      · have di : decide (i < len0) = false := decide_eq_false hi
        have hN3 : Hidd (N2 + len1 + 2 ≤ 9000) := ⟨by have := hc1.out; omega⟩
        have hpg := Hidd.mk (put_good hpp.out.1 hpp.out.2 (show ys.length ≤ 512 by rw [hyl.out]; have := hc1.out; omega) (v := ⟨false, true, [], zs, xs.take i, (len0 : Int) + 1, -1⟩) rfl)
        have hoff := Hidd.mk (off_old ho.out 0 rfl hyC.out)
        clear hi hi1 hi2 hN2
        go_wp2_with (first
          | (go_at_call 16; have hq := ho.out; clear hq; refine (refOf_any _ a1 len1 cap1 ys hyl.out (by have := hc1.out; omega) (hyC.out.below (ho.out.below fun _ => id))).mono ?_; rintro e w5 ⟨rfl, hb5⟩; have ho5 := Hidd.mk (ho.out.ext hb5); clear hb5 ho)
          | (go_at_call 15; have hq := ho5.out; clear hq; refine (put_own' 0 ho5.out rfl hok.out a1 len1 cap1 ys (hyC.out.below (ho5.out.below fun _ => id)) hoff.out hyb.out hyl.out hc1.out.1 hym.out (by have := hc1.out; omega) hN3.out (sha ys) (sha_len ys) pt hpp.out.1 (Nat.le_trans hpp.out.2 (by decide)) _ _ hpg.out).mono ?_; rintro e w6 ⟨x, rfl, M6, t6, s6, hok6, ho6⟩; obtain rfl : x = .nilIface := (show IsE w6 none x from ho6.get 0 rfl); replace hok6 := Hidd.mk hok6; replace ho6 := Hidd.mk (show Own w _ w6 [bankR p f M6 t6 s6] from ho6.tail); clear ho5)
          | (go_at_call 17; have hq := ho6.out; clear hq; refine (image_own 0 ho6.out rfl hok6.out.st hok6.out.fs len1 (by rw [(image_ok hok6.out).1]; exact hyl.out)).mono ?_; rintro e w8 ⟨A8, c8, rfl, ho8⟩; rw [(image_ok hok6.out).1] at ho8; rw [(image_ok hok6.out).2]; have hcv := str_eq (c := c8) (row_cells ho8 0 rfl) hyl.out; have hcv2 := str_eq (c := cap1) (hyC.out.below (ho8.below fun _ => id)) hyl.out; replace ho8 := Hidd.mk ho8; clear ho6))
        (try rw [Exit.noGoto_ret])
        go_ret
        exact ⟨rfl, ho8.out.below fun _ => id⟩
end Go.Proofs.Ytjbhcmkloamcmaa
