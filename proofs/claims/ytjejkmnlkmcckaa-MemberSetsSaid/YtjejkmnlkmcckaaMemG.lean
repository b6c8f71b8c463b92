/- SameInts; MemberSets walked. -/
import Derived.Test.YtjejkmnlkmcckaaMemE
namespace Go.Proofs.Ytjejkmnlkmcckaa
open Go.RowKit

set_option maxRecDepth 100000 in
theorem sameInts_any (A B : Option Addr) (n c d : Nat) (xs : List Int) (w : World) (hA : Cells w A (nums .i64 xs)) (hB : Cells w B (nums .i64 xs)) (hn : xs.length = n) (hm : n ≤ 1000000) :
    Calls Try.prog 32 #[.slice A n c, .slice B n d] w fun e w' => e = .returned (.bool true) ∧ Below w.heap.size w w' := by
  have HA := Hidd.mk hA
  have HB := Hidd.mk hB
  have HN := Hidd.mk hn
  clear hA hB hn
  go_enter Try.func32, Try.ntmps32
  go_wp2
  go_loopw [5] (fun v5 wr => ∃ i : Nat, v5 = .int .i64 i ∧ i ≤ n ∧ Hidd (Below w.heap.size w wr)) (fun v5 _ => n - (intOf v5).toNat)
  case atStart => exact ⟨0, rfl, Nat.zero_le _, ⟨Below.refl _ _⟩⟩
  case round =>
    obtain ⟨i, rfl, hi, hb⟩ := hrel
    by_cases hlt : i < n
    · go_wp2
      obtain ⟨wy, hwy⟩ : ∃ zz, zz = World.drew wr := ⟨_, rfl⟩
      refine wp_region_still_lit (by kernel_rfl) (by kernel_rfl) (StW.out ?_)
      rw [show ({ wr with drawn := wr.drawn + 1 } : World) = wy from hwy.symm]
      replace hwy := Hidd.mk hwy
      have hby : Hidd (Below w.heap.size w wy) := ⟨by rw [hwy.out]; exact hb.out.drew⟩
      clear hwy hb
      obtain ⟨a, rfl, x0⟩ := (HA.out.below hby.out).at i (by rw [HN.out]; exact hlt)
      obtain ⟨b, rfl, y0⟩ := (HB.out.below hby.out).at i (by rw [HN.out]; exact hlt)
      have b0 : (0 : Int) ≤ (i : Int) := by omega
      have b1 : (i : Int) < (n : Int) := by omega
      repeat (refine StW.go (by rfl) (fun K hK => ?_); go_simp; refine hK.out _ ?_; clear hK K)
      refine StW.nil ?_
      go_wp2
      go_roundw
      case rel => exact ⟨i + 1, by go_num, by omega, hby⟩
      case measure => simp [intOf]; omega
    · obtain rfl : i = n := by omega
      go_wp2
      go_ret
      exact ⟨rfl, hb.out⟩

theorem ofN_one (n : Int) : ofN [n] = if 0 ≤ n ∧ n < 7 then 2 ^ n.toNat else 0 := by
  show ofStep 0 n = _
  unfold ofStep
  split
  · rw [Nat.zero_or]
  · rfl

set_option maxRecDepth 100000 in
set_option maxHeartbeats 4000000 in
theorem memberSets_walk (a0 : Int) (a1 : Option Addr) (len1 cap1 : Nat) (z1 : List Int) (a2 : Int) (w : World) (h0 : (Lit.int .u8 a0).wf = true) (h1 : IsRow .i64 w a1 len1 cap1 z1) (_ : len1 * 8 ≤ 140737488351232) (_ : (Lit.int .i64 a2).wf = true) :
    Calls Try.prog 8 #[.int .u8 a0, .slice a1 len1 cap1, .int .i64 a2] w fun e w' => e = .returned (.bool true) ∧ Below w.heap.size w w' := by
  obtain ⟨s, rfl, hs⟩ := wf_u8 h0
  obtain ⟨l, hl, _, _, hcl, _⟩ := h1.open_
  clear h0 h1
  have HL := Hidd.mk hl
  have HC := Hidd.mk hcl
  clear hl hcl
  by_cases hbig : 1000 < len1
  · have hd : decide (1000 < (len1 : Int)) = true := by rw [decide_eq_true_eq]; omega
    go_enter Try.func8, Try.ntmps8
    go_wp2_with (go_at_call 20; refine (awake_any _).mono ?_; rintro e w1 ⟨rfl, hb1⟩)
    go_ret
    exact ⟨rfl, hb1⟩
  · have hd : decide (1000 < (len1 : Int)) = false := by rw [decide_eq_false_iff_not]; omega
    go_enter Try.func8, Try.ntmps8
    go_wp2_with (go_at_call 20; refine (awake_any _).mono ?_; rintro e w1 ⟨rfl, hb1⟩; have HC1 := Hidd.mk (HC.out.below hb1); have ho := Hidd.mk ((Own.nil w (fun _ => False)).ext hb1); clear hb1)
    go_loopw [8, 22] (fun v8 v22 wr => ∃ i : Nat, v22 = .int .i64 i ∧ i ≤ len1 ∧ v8 = .int .u8 (ofN (l.take i)) ∧ w1 = wr) (fun _ v22 _ => len1 - (intOf v22).toNat)
    case atStart => exact ⟨0, rfl, Nat.zero_le _, rfl, rfl⟩
    case round =>
      obtain ⟨i, rfl, hi, rfl, rfl⟩ := hrel
      by_cases hlt : i < len1
      · obtain ⟨ad, rfl, hx⟩ := HC1.out.at i (by rw [HL.out]; exact hlt)
        have hg : l[i]? = some (l.getD i 0) := by rw [List.getD_eq_getElem?_getD, List.getElem?_eq_getElem (by rw [HL.out]; exact hlt)]; rfl
        obtain ⟨x, hxe⟩ : ∃ x, l.getD i 0 = x := ⟨_, rfl⟩
        rw [hxe] at hx hg
        clear hxe
        have hst := Hidd.mk (ofN_take_succ hg)
        clear hg
        obtain ⟨t, hte⟩ : ∃ t, ofN (l.take i) = t := ⟨_, rfl⟩
        have ht128 : t < 128 := by rw [← hte]; exact ofN_lt _
        rw [hte] at hst ⊢
        clear hte
        by_cases h0 : 0 ≤ x
        · by_cases h7 : x < 7
          · have hst2 : Hidd (ofStep t x = t ||| 2 ^ x.toNat) := ⟨by unfold ofStep; rw [if_pos ⟨h0, h7⟩]⟩
            obtain ⟨k, rfl⟩ := Int.eq_ofNat_of_zero_le h0
            rw [Int.toNat_natCast] at hst2
            have hk : k < 7 := by omega
            have hp : 2 ^ k < 128 := Nat.pow_lt_pow_right (n := 7) (by decide) hk
            have hor := u8_or_nat t (2 ^ k) (by omega) (by omega)
            have hc2 : ((2 ^ k : Nat) : Int) = (2 : Int) ^ k := by rw [Int.natCast_pow]; rfl
            rw [hc2] at hor
            have hpe : ((2 ^ k : Nat) : Int) % 256 = ((2 ^ k : Nat) : Int) := by rw [← show ((256 : Nat) : Int) = 256 from rfl, ← Int.natCast_emod, Nat.mod_eq_of_lt (by omega)]
            rw [hc2] at hpe
            clear hc2
            go_wp2
            go_roundw
            case rel => exact ⟨i + 1, by go_num, by omega, by rw [hst.out, hst2.out], trivial⟩
            case measure => simp [intOf]; omega
          · have hst2 : Hidd (ofStep t x = t) := ⟨by unfold ofStep; rw [if_neg (by omega)]⟩
            have hd : decide (x < 7) = false := by simp; omega
            go_wp2
            go_roundw
            case rel => exact ⟨i + 1, by go_num, by omega, by rw [hst.out, hst2.out], trivial⟩
            case measure => simp [intOf]; omega
        · have hst2 : Hidd (ofStep t x = t) := ⟨by unfold ofStep; rw [if_neg (by omega)]⟩
          have hd : decide (0 ≤ x) = false := by simp; omega
          go_wp2
          go_roundw
          case rel => exact ⟨i + 1, by go_num, by omega, by rw [hst.out, hst2.out], trivial⟩
          case measure => simp [intOf]; omega
      · obtain rfl : i = len1 := by omega
        have ht : l.take i = l := by rw [← HL.out, List.take_length]
        rw [ht]
        clear ht
        have hgo : ∀ G : Prop, (∀ k : Nat, a2 = k → k < 7 → Hidd (ofN [a2] = 2 ^ k) → G) → (0 ≤ a2 → ¬ a2 < 7 → Hidd (ofN [a2] = 0) → G) → (¬ 0 ≤ a2 → Hidd (ofN [a2] = 0) → G) → G := fun G g1 g2 g3 => by
          have h := ofN_one a2
          by_cases h0 : 0 ≤ a2
          · by_cases h7 : a2 < 7
            · rw [if_pos ⟨h0, h7⟩] at h
              exact g1 a2.toNat (by omega) (by omega) ⟨h⟩
            · rw [if_neg (by omega)] at h
              exact g2 h0 h7 ⟨h⟩
          · rw [if_neg (by omega)] at h
            exact g3 h0 ⟨h⟩
        have hs256 := hs
        obtain ⟨lb, hlb⟩ : ∃ lb, ofN l = lb := ⟨_, rfl⟩
        have hlb128 : lb < 128 := by rw [← hlb]; exact ofN_lt _
        rw [hlb]
        replace hlb := Hidd.mk hlb
        obtain ⟨hb, hhb⟩ : ∃ hb, hasN s a2 = hb := ⟨_, rfl⟩
        obtain ⟨T, hT⟩ : ∃ T, ofN [a2] = T := ⟨_, rfl⟩
        have hT128 : T < 128 := by rw [← hT]; exact ofN_lt _
        rw [hT] at hgo
        replace hT := Hidd.mk hT
        replace hhb := Hidd.mk hhb
        obtain ⟨iI, hI⟩ := info_parts info_int
        replace hI := Hidd.mk hI
        have ho0 := Hidd.mk (ho.out.new (wres 3 1 none 0 0 []) (Below.refl _ _) (wres_nil _ _ _) (fun i hi => by cases hi))
        clear ho
        refine hgo _ (fun k hk hk7 hof => ?ca) (fun h h1 hof => ?cb) (fun h hof => ?cc)
        all_goals clear hgo
        case' ca =>
          subst hk
          have hp : 2 ^ k < 128 := Nat.pow_lt_pow_right (n := 7) (by decide) hk7
          have e1 := u8_or_nat s (2 ^ k) hs (by omega)
          have e2 := u8_andNot_nat s (2 ^ k) hs (by omega)
          have hc2 : ((2 ^ k : Nat) : Int) = (2 : Int) ^ k := by rw [Int.natCast_pow]; rfl
          have hpe : ((2 ^ k : Nat) : Int) % 256 = ((2 ^ k : Nat) : Int) := by rw [← show ((256 : Nat) : Int) = 256 from rfl, ← Int.natCast_emod, Nat.mod_eq_of_lt (by omega)]
          rw [hc2, ← hof.out] at e1 e2
          rw [hc2] at hpe
          clear hc2 hp
        case' cb =>
          have d1 : decide (0 ≤ a2) = true := by rw [decide_eq_true_eq]; exact h
          have d2 : decide (a2 < 7) = false := by rw [decide_eq_false_iff_not]; exact h1
          have e1 := u8_or_nat s 0 hs (by decide)
          have e2 := u8_andNot_nat s 0 hs (by decide)
          rw [show ((0 : Nat) : Int) = 0 from rfl, ← hof.out] at e1 e2
          clear h h1
        case' cc =>
          have d1 : decide (0 ≤ a2) = false := by rw [decide_eq_false_iff_not]; exact h
          have e1 := u8_or_nat s 0 hs (by decide)
          have e2 := u8_andNot_nat s 0 hs (by decide)
          rw [show ((0 : Nat) : Int) = 0 from rfl, ← hof.out] at e1 e2
          clear h
        all_goals
          clear hof
          obtain ⟨U, hU⟩ : ∃ U, s ||| T = U := ⟨_, rfl⟩
          obtain ⟨V, hV⟩ : ∃ V, s &&& (255 - T) = V := ⟨_, rfl⟩
          rw [hU] at e1
          rw [hV] at e2
          replace hU := Hidd.mk hU
          replace hV := Hidd.mk hV
          go_wp2
          go_loopw [12, 13] (fun v12 v13 wr => ∃ (i n : Nat) (B : Option Addr) (capB : Nat), v13 = .int .i64 i ∧ i ≤ 7 ∧ v12 = .slice B n capB ∧ n ≤ i ∧ Hidd (n = (bitsTo s i).length) ∧ Hidd (Own w (fun _ => False) wr [wres 3 1 B n capB (nums .i64 (ints (bitsTo s i)))])) (fun _ v13 _ => 7 - (intOf v13).toNat)
          case atStart => exact ⟨0, 0, none, 0, rfl, by decide, rfl, by decide, ⟨rfl⟩, ho0⟩
          case round =>
            clear ho0
            obtain ⟨i, n, B, capB, rfl, hi, rfl, hni, hnl, ho⟩ := hrel
            by_cases hlt : i < 7
            · have hb2 := shr_bit s i hs
              have hsu := Hidd.mk (bitsTo_succ s i)
              clear e1 e2
              try clear hpe
              by_cases ht : s.testBit i = true
              · rw [if_pos ht] at hb2
                replace ht := Hidd.mk ht
                go_wp2_with (at_builtin; refine wpList_want rfl _ _ 65 rfl 3 iI (.int .i64 0) 1 8 Try.underlying65 hI.out.1 hI.out.2.1 hI.out.2.2.1 hI.out.2.2.2 (by rfl) (by decide) (ho.out.alloc _) 1 B n capB _ rfl rfl _ 1 1 (nums .i64 [(i : Int)]) rfl rfl (Cells.new _ _ _ _ rfl) (nums_one _ _) (by decide) (by unfold maxLen; omega) (by omega) ?_; intro B' capB' w6 ho6; replace ho6 := Hidd.mk ho6.tail)
                go_roundw
                case rel =>
                  have g1 : Hidd (n + 1 = (bitsTo s (i + 1)).length) := ⟨by rw [hsu.out, if_pos ht.out, List.length_append, ← hnl.out]; rfl⟩
                  have g2 : Hidd (Own w (fun _ => False) w6 [wres 3 1 B' (n + 1) capB' (nums .i64 (ints (bitsTo s (i + 1))))]) := ⟨by rw [hsu.out, if_pos ht.out]; have h := ho6.out; rw [← nums_append, show ints (bitsTo s i) ++ [(i : Int)] = ints (bitsTo s i ++ [i]) by simp [ints]] at h; exact h⟩
                  first | exact ⟨i + 1, n + 1, B', capB', by go_num, by omega, rfl, by omega, g1, g2⟩ | exact ⟨i + 1, by go_num, by omega, n + 1, B', capB', ⟨rfl, rfl, rfl⟩, by omega, g1, g2⟩
                case measure => simp [intOf]; omega
              · rw [if_neg ht] at hb2
                replace ht := Hidd.mk ht
                go_wp2
                go_roundw
                case rel =>
                  have g1 : Hidd (n = (bitsTo s (i + 1)).length) := ⟨by rw [hsu.out, if_neg ht.out, List.append_nil]; exact hnl.out⟩
                  have g2 : Hidd (Own w (fun _ => False) wr [wres 3 1 B n capB (nums .i64 (ints (bitsTo s (i + 1))))]) := ⟨by rw [hsu.out, if_neg ht.out, List.append_nil]; exact ho.out⟩
                  first | exact ⟨i + 1, n, B, capB, by go_num, by omega, rfl, by omega, g1, g2⟩ | exact ⟨i + 1, by go_num, by omega, n, B, capB, ⟨rfl, rfl, rfl⟩, by omega, g1, g2⟩
                case measure => simp [intOf]; omega
            · obtain rfl : i = 7 := by omega
              have hHC := Hidd.mk (HC.out.below (ho.out.below fun _ => id))
              obtain rfl := hnl.out
              clear hnl hi hni hlt
              go_wp2_with (first
                | (at_builtin; refine wpList_cut rfl _ _ 65 rfl 3 iI (.int .i64 0) 1 8 Try.underlying65 hI.out.1 hI.out.2.1 hI.out.2.2.1 hI.out.2.2.2 (by rfl) (ho.out.new (wres 3 1 (some ⟨wr.heap.size, 0, none⟩) 0 0 []) (below_alloc (Below.refl _ _) _) ⟨by simp, ⟨Nat.le_refl _, Nat.zero_le _⟩, Cells.nil _ _, fun k h => by (injection h with h; subst h; simp), .inr rfl⟩ (fun k h => by (injection h with h; exact Nat.le_of_eq h))) 0 _ 0 0 [] rfl 0 (by decide) rfl a1 _ _ (nums .i64 l) rfl (by rw [nums_length, HL.out, Nat.mul_one]) (hHC.out.below (below_alloc (Below.refl _ _) _)) (nums_one _ _) (fun h h' => by subst h'; obtain ⟨_, h2, _⟩ := (HC.out).at 0 (by rw [HL.out]; exact h); cases h2) (by unfold maxLen; omega) (by omega) ?_; intro A' cap' w6 ho6; simp only [List.take_nil, List.nil_append, List.set_cons_zero] at ho6; have hcs := Hidd.mk (show WIn w6 3 1 A' _ cap' (nums .i64 l) from ho6.get 0 rfl).cells; replace ho := Hidd.mk ho6; clear ho6)
                | (go_at_call 26; refine (of_any _ _ _ l _ hcs.out (by have := HL.out; omega) (by omega)).mono ?_; rintro e w1 ⟨rfl, rfl⟩; rw [hlb.out]; clear hcs)
                | (go_at_call 27; refine (has_any s hs256 _ _).mono ?_; rintro e w1 ⟨rfl, rfl⟩; rw [hhb.out])
                | (go_at_call 28; refine (refHas_any s hs256 _ _).mono ?_; rintro e w1 ⟨rfl, rfl⟩; rw [hhb.out])
                | (go_at_call 29; refine (with_any s hs256 _ _).mono ?_; rintro e w1 ⟨rfl, hb1⟩; rw [hT.out, hU.out]; replace ho := Hidd.mk (ho.out.ext hb1); clear hb1)
                | (go_at_call 30; refine (without_any s hs256 _ _).mono ?_; rintro e w1 ⟨rfl, hb1⟩; rw [hT.out, hV.out]; replace ho := Hidd.mk (ho.out.ext hb1); clear hb1)
                | (go_at_call 25; refine (len_any s hs256 _).mono ?_; rintro e w1 ⟨rfl, rfl⟩)
                | (go_at_call 31; refine (refLen_any s hs256 _).mono ?_; rintro e w1 ⟨rfl, rfl⟩)
                | (go_at_call 33; refine (list_any s hs256 _).mono ?_; rintro e w1 ⟨A2, cap2, rfl, ho1⟩; have hc1 := Hidd.mk (own_cells (show w1.ownsRow 0 3 1 (.slice A2 (bitsTo s 7).length cap2) (bitsTo s 7).length (nums .i64 (ints (bitsTo s 7))) from ho1.get 0 rfl)); replace ho := Hidd.mk (ho.out.made ho1); have hc2 := Hidd.mk (show WIn w1 3 1 B (bitsTo s 7).length capB (nums .i64 (ints (bitsTo s 7))) from ho.out.get 2 rfl).cells; clear ho1)
                | (go_at_call 32; refine (sameInts_any A2 B _ cap2 capB (ints (bitsTo s 7)) _ hc1.out hc2.out (ints_length _) (Nat.le_trans (bitsTo_len s 7) (by decide))).mono ?_; rintro e w1 ⟨rfl, hb1⟩; replace ho := Hidd.mk (ho.out.ext hb1); clear hb1))
              go_ret
              exact ⟨rfl, ho.out.below fun _ => id⟩
end Go.Proofs.Ytjejkmnlkmcckaa
