/- The digest of bytes: the reference's. -/
import Derived.Test.YtjbhcmkloamcmaaDgF3
namespace Go.Proofs.Ytjbhcmkloamcmaa
open Go.RowKit

set_option maxRecDepth 1000000
set_option maxHeartbeats 16000000
theorem refOf_any (w : World) (A : Option Addr) (n c : Nat) (bs : List Int) (hl : bs.length = n) (hn : n ≤ 1000000) (hA : Cells w A (nums .u8 bs)) :
    Calls Try.prog 16 #[.slice A n c] w fun e w' => e = .returned (.agg (nums .u8 (sha bs)).toArray) ∧ Below w.heap.size w w' := by
  replace hA := Hidd.mk hA
  replace hl := Hidd.mk hl
  obtain ⟨iw, hi0, hi1, hi2, hi3⟩ := info_parts info_u32'
  have hIW := Hidd.mk (And.intro hi0 (And.intro hi1 (And.intro hi2 hi3)))
  clear hi0 hi1 hi2 hi3
  go_enter Try.func16, Try.ntmps16
  go_wp2_with (first
    | (go_at_call 36; refine (numbers_any _).mono ?_; rintro e w1 ⟨pk, rfl, hop⟩; have hop2 := (((Own.nil w (fun _ => False)).alloc _).alloc _).made hop; simp only [World.size_alloc] at hop2; have ho1 : Hidd (Own w (fun _ => False) w1 [blk pk (.cells (vals kays) 75 (0, 0)), blk (w.heap.size + 1) (.cells (vals ivs) 75 (0, 0)), blk w.heap.size (.cells (nums .u8 (List.replicate 32 0)).toArray 33 (0, 0))]) := ⟨hop2⟩; clear hop hop2)
    | (at_builtin; have hq := ho1.out; clear hq; have hl0 := row_lit ho1.out 5 1 0 #[] (nums .u8 []) rfl rfl (by decide); refine appb rfl _ _ rfl hl0 0 _ 0 0 [] rfl rfl A n c bs rfl hl.out (hA.out.below (hl0.below fun _ => id)) (by omega) ?_; intro A2 c2 w2 ho2; rw [Nat.zero_add] at ho2 ⊢; rw [List.nil_append] at ho2; replace ho2 := Hidd.mk ho2; clear hl0 ho1)
    | (at_builtin; have hq := ho2.out; clear hq; have hl1 := row_lit ho2.out 5 1 1 #[.int .u8 128] (nums .u8 [128]) rfl rfl (by decide); refine appb rfl _ _ rfl hl1 1 _ n _ bs rfl rfl _ 1 1 [128] rfl rfl (row_cells hl1 0 rfl) (by omega) ?_; intro A3 c3 w3 ho3; replace ho3 := Hidd.mk ho3.tail; clear hl1 ho2))
  obtain ⟨p2, hp2⟩ : ∃ p, p = w.heap.size := ⟨_, rfl⟩
  obtain ⟨ph, hph⟩ : ∃ p, p = p2 + 1 := ⟨_, rfl⟩
  rw [← hp2] at ho3 ⊢
  rw [← hph] at ho3 ⊢
  clear hph
  replace hp2 := Hidd.mk hp2
  go_loopg [5] (zerosN n) (fun g v5 wx => ∃ (A3 : Option Addr) (c3 N z : Nat), z + g = zerosN n ∧ v5 = .slice A3 N c3 ∧ Hidd (N = n + 1 + z) ∧ Hidd (Own w (fun _ => False) wx [row 5 1 (.slice A3 N c3) N (nums .u8 (bs ++ [128] ++ List.replicate z 0)), blk pk (.cells (vals kays) 75 (0, 0)), blk ph (.cells (vals ivs) 75 (0, 0)), blk p2 (.cells (nums .u8 (List.replicate 32 0)).toArray 33 (0, 0))]))
  case atStart => exact ⟨A3, c3, n + 1, 0, by omega, rfl, ⟨rfl⟩, ⟨by rw [List.replicate_zero, List.append_nil]; exact ho3.out⟩⟩
  case round =>
    clear ho3
    obtain ⟨A3, c3, N, z, hg, rfl, hN, ho⟩ := hrel
    cases gk with
    | succ g =>
      have hz := zerosN_lt n
      have hne := zerosN_least n z (by omega)
      have d2 : ((N : Int) % 64 != 56) = true := by rw [bne_iff_ne]; have := hN.out; omega
      have hNb : N ≤ 2000000 := by have := hN.out; omega
      clear hne
      go_wp2_with (at_builtin; have hl1 := row_lit ho.out 5 1 1 #[.int .u8 0] (nums .u8 [0]) rfl rfl (by decide); refine appb rfl _ _ rfl hl1 1 _ N _ _ rfl rfl _ 1 1 [0] rfl rfl (row_cells hl1 0 rfl) (by omega) ?_; intro A4 c4 w4 ho4; replace ho4 := Hidd.mk ho4.tail; clear hl1 ho)
      go_roundg g
      case rel =>
        refine ⟨A4, c4, N + 1, z + 1, by omega, rfl, ⟨by rw [hN.out]; omega⟩, ⟨?_⟩⟩
        have h4 := ho4.out
        rw [show bs ++ [128] ++ List.replicate z (0 : Int) ++ [0] = bs ++ [128] ++ List.replicate (z + 1) 0 by rw [List.append_assoc (bs ++ [128]), ← List.replicate_succ']] at h4
        exact h4
      case measure => omega
    | zero =>
      have hz := zerosN_lt n
      obtain rfl : z = zerosN n := by omega
      have hN2 := hN.out
      have he := zerosN_eq n
      have d2 : ((N : Int) % 64 != 56) = false := by rw [bne_eq_false_iff_eq]; omega
      have hNb : N ≤ 2000000 := by omega
      clear hg hz he
      obtain ⟨pre, hpre⟩ : ∃ pre, pre = bs ++ [128] ++ List.replicate (zerosN n) (0 : Int) := ⟨_, rfl⟩
      rw [← hpre] at ho
      have hpad : Hidd (padB bs = pre ++ lenB n 8) := ⟨by rw [padB, hl.out, hpre]⟩
      replace hpre := Hidd.mk hpre
      obtain ⟨N0, hN0⟩ : ∃ N0, N0 = N := ⟨_, rfl⟩
      have hNN : Hidd (N0 = n + 1 + zerosN n) := ⟨by rw [hN0]; exact hN2⟩
      have hNb0 : N0 ≤ 2000000 := by omega
      clear hN2 hN
      replace hN0 := Hidd.mk hN0.symm
      go_wp2
      clear d2
      go_loopg [5, 6] 8 (fun g v5 v6 wx => ∃ (A3 : Option Addr) (c3 N k : Nat) (sh : Int), k + g = 8 ∧ v5 = .slice A3 N c3 ∧ v6 = .int .i64 sh ∧ Hidd (sh = 7 - (k : Int)) ∧ Hidd (N = N0 + k) ∧ Hidd (Own w (fun _ => False) wx [row 5 1 (.slice A3 N c3) N (nums .u8 (pre ++ lenB n k)), blk pk (.cells (vals kays) 75 (0, 0)), blk ph (.cells (vals ivs) 75 (0, 0)), blk p2 (.cells (nums .u8 (List.replicate 32 0)).toArray 33 (0, 0))]))
      case atStart => exact ⟨A3, c3, N, 0, 7, by omega, rfl, rfl, ⟨by omega⟩, ⟨by rw [hN0.out]; rfl⟩, ⟨by rw [show lenB n 0 = [] from rfl, List.append_nil]; exact ho.out⟩⟩
      case round =>
        clear ho
        obtain ⟨A3, c3, N, k, sh, hg, rfl, rfl, hsh, hN, ho⟩ := hrel
        have hN2 := hN.out
        have hNb1 : N ≤ 2000008 := by omega
        cases gk with
        | succ g =>
          obtain ⟨sN, hs⟩ : ∃ sN : Nat, sN = 7 - k := ⟨_, rfl⟩
          obtain ⟨s8, hs8⟩ : ∃ s8 : Nat, s8 = 56 - 8 * k := ⟨_, rfl⟩
          have hs2 := hsh.out
          obtain rfl : sh = (sN : Int) := by omega
          have hm8 : (8 : Int) * (sN : Int) = (s8 : Int) := by omega
          obtain ⟨yb, hyb⟩ : ∃ y : Nat, y = 8 * n / 2 ^ s8 % 256 := ⟨_, rfl⟩
          have hy1 : (8 : Int) * (n : Int) / 2 ^ s8 % 256 = (yb : Int) := by rw [hyb]; rfl
          have hlb : Hidd (lenB n (k + 1) = lenB n k ++ [(yb : Int)]) := ⟨by rw [lenB_succ, hyb, hs8]⟩
          have hge : (0 : Int) ≤ (sN : Int) := by omega
          have hsh2 : Hidd ((sN : Int) - 1 = 7 - ((k + 1 : Nat) : Int)) := ⟨by omega⟩
          have hbd : (sN : Int) ≤ 7 := by omega
          have hbd8 : (s8 : Int) ≤ 56 := by omega
          clear hs hs8 hyb hs2 hsh hN2
          go_wp2_with (at_builtin; have hl1 := row_lit ho.out 5 1 1 #[.int .u8 (yb : Int)] (nums .u8 [(yb : Int)]) rfl rfl (by decide); refine appb rfl _ _ rfl hl1 1 _ N _ _ rfl rfl _ 1 1 [(yb : Int)] rfl rfl (row_cells hl1 0 rfl) (by omega) ?_; intro A4 c4 w4 ho4; replace ho4 := Hidd.mk ho4.tail; clear hl1 ho)
          go_roundg g
          case rel =>
            refine ⟨A4, c4, N + 1, k + 1, (sN : Int) - 1, by omega, rfl, rfl, hsh2, ⟨by rw [hN.out]; omega⟩, ⟨?_⟩⟩
            have h4 := ho4.out
            rw [List.append_assoc, ← hlb.out] at h4
            exact h4
          case measure => omega
        | zero =>
          obtain rfl : k = 8 := by omega
          have hs2 := hsh.out
          obtain rfl : sh = -1 := by omega
          rw [← hpad.out] at ho
          clear hs2 hsh hg
          obtain ⟨mb, hmb⟩ : ∃ m, m = nblk n := ⟨_, rfl⟩
          have hpl : (padB bs).length = 64 * mb := by rw [padB_len, hl.out, hmb]
          have hNm : N = 64 * mb := by
            have e1 : (padB bs).length = N := by rw [hpad.out, List.length_append, lenB_len, hpre.out, hN2, hNN.out]; simp [hl.out]; omega
            rw [← e1, hpl]
          have hm0 : 0 < mb := by have := zerosN_eq n; rw [hmb]; unfold nblk; omega
          have hmbb : mb ≤ 1000000 := by omega
          obtain ⟨gb, rfl, _, _⟩ := own_head (show wr.ownsRow 0 5 1 (.slice A3 N c3) N (nums .u8 (padB bs)) from ho.out.get 0 rfl) (by omega)
          have hsha : Hidd (shaW bs = blocks kays ivs (padB bs) mb) := ⟨by rw [shaW, hl.out, hmb]⟩
          clear hN hmb
          obtain ⟨pad, hpd⟩ : ∃ pad, pad = padB bs := ⟨_, rfl⟩
          rw [← hpd] at ho hpl hsha
          replace hpd := Hidd.mk hpd
          have hpN := Hidd.mk (hpl.trans hNm.symm)
          clear hpl
          replace hNm := Hidd.mk hNm
          clear hN2
          obtain ⟨p3', hp3⟩ : ∃ q, q = wr.heap.size := ⟨_, rfl⟩
          clear hp3
          go_upto_block 4 with fail
          show Code.wp Try.prog ((Try.f16.body.bind (findBlk 4)).getD .skip) _ _ _
          refine blocks_part _ w wr gb N c3 pk ph p2 mb pad (hpN := hpN.out) (hNm := hNm.out) (hmb := hmbb) (hoA := ho.out) (hQ := fun f wx ho9 => ?_)
          replace ho9 := Hidd.mk ho9
          clear ho
          rw [← hsha.out] at ho9
          have hoA := Hidd.mk (ho9.out.alloc (.cells (nums .u8 (List.replicate 32 0)).toArray 33 (0, 0)))
          have ho := ho9
          obtain ⟨wr, hwr⟩ : ∃ wr, wr = wx := ⟨_, rfl⟩
          rw [← hwr] at hoA ho ⊢
          clear hwr ho9
          have hz32 : (nums .u8 (List.replicate 32 0)).toArray.size = 32 := by simp [nums_length]
          have hone : (nums .u8 (List.replicate 32 0)).toArray.all (·.oneCell') = true := by rw [Array.all_eq_true_iff_forall_mem]; intro v hv; exact nums_one _ _ v (by simpa using hv)
          replace hz32 := Hidd.mk hz32
          replace hone := Hidd.mk hone
          go_wp2_with (have hq := hoA.out; clear hq; refine wpList_store_own hoA.out 0 rfl rfl 33 (.tmp 20) (.tmp 249) rfl rfl (cells := (nums .u8 (List.replicate 32 0)).toArray) rfl (by rw [hz32.out]; exact info_ab2) rfl hone.out ?_; intro wa hoC; replace hoC := Hidd.mk hoC; clear hoA)
          have hoA := hoC
          clear hoC ho hone hz32
          generalize wr.heap.size = p9 at hoA ⊢
          obtain ⟨V, hV⟩ : ∃ V, V = shaW bs := ⟨_, rfl⟩
          have hVl : V.length = 8 := by rw [hV]; exact shaW_len bs
          rw [← hV] at hoA
          replace hoA : Hidd (Own w (fun _ => False) wa [blk p9 (.cells (nums .u8 (ob1 V 0)).toArray 33 (0, 0)), blk ph (.cells (vals V) 75 (0, 0)), blk p2 (.cells (nums .u8 (List.replicate 32 0)).toArray 33 (0, 0))]) := ⟨hoA.out.reorder [0, 3, 4] rfl (by decide)⟩
          have hsh : Hidd (sha bs = outB V) := ⟨by rw [hV]; rfl⟩
          replace hV := Hidd.mk hV
          go_loopg [21] 32 (fun g v21 wx => ∃ (i : Nat), i + g = 32 ∧ v21 = .int .i64 i ∧ Hidd (Own w (fun _ => False) wx [blk p9 (.cells (nums .u8 (ob1 V i)).toArray 33 (0, 0)), blk ph (.cells (vals V) 75 (0, 0)), blk p2 (.cells (nums .u8 (List.replicate 32 0)).toArray 33 (0, 0))]))
          case atStart => exact ⟨0, by omega, rfl, hoA⟩
          case round =>
            clear hoA
            obtain ⟨i, hg, rfl, ho⟩ := hrel
            cases gk with
            | succ gw =>
              have hlt : i < 32 := by omega
              have d6 : decide ((i : Int) < 32) = true := by rw [decide_eq_true_eq]; omega
              have bi0 : (0 : Int) ≤ (i : Int) := by omega
              have bi1 : (i : Int) < 32 := by omega
              have hgi : i + 1 + gw = 32 := by omega
              clear hg
              obtain ⟨q, hq⟩ : ∃ q, q = i / 4 := ⟨_, rfl⟩
              obtain ⟨r, hr⟩ : ∃ r, r = i % 4 := ⟨_, rfl⟩
              obtain ⟨sN, hs⟩ : ∃ s, s = 24 - 8 * r := ⟨_, rfl⟩
              obtain ⟨r8, hr8⟩ : ∃ s, s = 8 * r := ⟨_, rfl⟩
              have m1 : (i : Int) / 4 = (q : Int) := by omega
              have m2 : (i : Int) % 4 = (r : Int) := by omega
              have m3 : (8 : Int) * (r : Int) = (r8 : Int) := by omega
              have m4 : (24 : Int) - (r8 : Int) = (sN : Int) := by omega
              have b1 : (q : Int) < 8 := by omega
              have b2 : (sN : Int) ≤ 24 := by omega
              have b3 : (r : Int) < 4 := by omega
              have b4 : (r8 : Int) ≤ 24 := by omega
              have hx : V[i / 4]? = some (V.getD q 0) := by rw [← hq]; exact getD_some 0 (by omega)
              have hob := ob1_set hVl hlt hx
              have y1 := (ho.out.cell 1 rfl q).trans (vals_get (by rw [hq]; exact hx))
              have hl1 := ob1_len (V := V) (i := i) hVl (by omega)
              have y0 : ∃ v, wr.cell? ⟨p9, i, none⟩ = some (.int .u8 v) := ⟨(ob1 V i).getD i 0, (ho.out.cell 0 rfl i).trans (nums_getA (getD_some (0 : Int) (by omega)))⟩
              obtain ⟨v0, y0⟩ := y0
              rw [← hr] at hob
              clear hx hl1
              generalize V.getD q 0 = x at y1 hob
              obtain ⟨yb, hyb⟩ : ∃ y, y = byteOf x r := ⟨_, rfl⟩
              have w1 : (x.toNat : Int) / 2 ^ sN % 256 = yb := by rw [hyb, byteOf, hs]; rfl
              rw [← hyb] at hob
              clear hq hr hs hr8 hyb
              have f0 := ho.out.frozen 0 rfl i
              have ho2 := Hidd.mk (ho.out.set 0 rfl i (.int .u8 yb))
              replace hob := Hidd.mk hob
              go_wp2
              go_roundg gw
              case rel =>
                refine ⟨i + 1, hgi, by go_num, ⟨?_⟩⟩
                have h2 := ho2.out
                simp only [List.set_cons_zero, nums_setA] at h2
                rw [hob.out] at h2
                exact h2
              case measure => omega
            | zero =>
              obtain rfl : i = 32 := by omega
              have d6 : decide ((32 : Int) < 32) = false := by decide
              have ho2 : Hidd (Own w (fun _ => False) wr [blk p9 (.cells (nums .u8 (sha bs)).toArray 33 (0, 0)), blk p2 (.cells (nums .u8 (List.replicate 32 0)).toArray 33 (0, 0))]) := ⟨by
                rw [hsh.out, ← ob1_all hVl]
                exact ho.out.reorder [0, 2] rfl (by decide)⟩
              have hsl : (nums .u8 (sha bs)).toArray.size = 32 := by simp [nums_length, sha_len]
              clear ho hg
              go_upto_region 42 with fail
              refine wp_region_list (wpList_load_row rfl 33 (.tmp 20) rfl p9 rfl 33 (nums .u8 (sha bs)).toArray (0, 0) _ (ho2.out.get 0 rfl) Try.underlying33 rfl (by rw [hsl]; exact info_ab2) ?_)
              refine wpList_store_row rfl 33 (.tmp 2) _ rfl p2 (nums .u8 (sha bs)).toArray rfl rfl 33 _ (ho2.out.get 1 rfl) (by rw [hsl]; exact info_ab2) (by rw [hsl]; simp [nums_length]) (by rw [Array.all_eq_true_iff_forall_mem]; intro v hv; exact nums_one _ _ v (by simpa using hv)) ?_
              have ho3 := Hidd.mk (ho2.out.step 1 rfl (blk p2 (.cells (nums .u8 (sha bs)).toArray 33 (0, 0))) (Kept.setRow _ _ _) (setRow_heap _ p2 _ _ 33 _ (ho2.out.get 1 rfl)) fun _ h => .inl h)
              generalize World.setRow wr p2 _ = W9 at ho3 ⊢
              go_wp2
              refine bodyPost_ret (v := .agg (nums .u8 (sha bs)).toArray) (results_cell_row rfl _ _ p2 33 _ (0, 0) _ rfl (ho3.out.get 1 rfl) Try.underlying33 rfl (by rw [hsl]; exact info_ab2)) rfl ⟨rfl, ho3.out.below fun _ => id⟩
end Go.Proofs.Ytjbhcmkloamcmaa
