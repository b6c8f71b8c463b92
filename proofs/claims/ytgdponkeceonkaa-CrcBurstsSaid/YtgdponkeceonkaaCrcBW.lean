/- The walk of the law CrcBursts: it answers true, whatever it is given. -/
import Derived.Test.YtgdponkeceonkaaRefOpen
import Derived.Test.YtgdponkeceonkaaCrcBu
import Derived.RegionTactic
namespace Go.Proofs.Ytgdponkeceonkaa
open Go.RowKit

theorem fits_res {ys : List Int} {n : Nat} (hb : Bytes ys) (hl : ys.length = n + 4) : fits ys = true ↔ crcStep 4294967295 ys = bitN 32 4294967295 := by
  rw [fits_iff hb hl]
  constructor
  · intro h
    rw [← h]
    exact rests _ (bytes_take hb n)
  · intro h
    have e1 : ys.take n ++ ys.drop n = ys := List.take_append_drop n ys
    have e2 := le4_num4 (bytes_drop hb n) (by rw [List.length_drop]; omega)
    have hv : num4 (ys.drop n) < 4294967296 := by
      have b := fun k => bytes_get (bytes_drop hb n) k
      have b0 := b 0
      have b1 := b 1
      have b2 := b 2
      have b3 := b 3
      unfold num4
      omega
    have hr := crcStep_lt (ys.take n) (r := 4294967295) (by decide) (bytes_take hb n)
    rw [← e1, crcStep_append, ← e2, crcStep_le4 _ _ hv] at h
    have h2 := bitN_inj 32 (xor_lt hr hv) (by decide) h
    have h3 : crcSum (ys.take n) = num4 (ys.drop n) := by
      rw [crcSum]
      generalize crcStep 4294967295 (ys.take n) = r at *
      rw [← h2, Nat.xor_comm r, Nat.xor_assoc, Nat.xor_self, Nat.xor_zero]
    rw [crcSeal, h3, e2, e1]

/-- The bytes so far: behind i of the 32 places. -/
def Turned (xs ys : List Int) (N at_ word i : Nat) : Prop := ys.length = N ∧ Bytes ys ∧ ∀ j, j < 8 * N → btAt ys j = (btAt xs j ^^ (decide (at_ ≤ j ∧ j < at_ + i) && word.testBit (j - at_)))
/-- How many were turned. -/
def Counted (N at_ word i t : Nat) : Prop := (t = 0 ↔ word % 2 ^ min i (8 * N - at_) = 0) ∧ t ≤ i

theorem turned_zero (xs : List Int) (N at_ word : Nat) (h : xs.length = N) (hb : Bytes xs) : Turned xs xs N at_ word 0 := ⟨h, hb, fun j _ => by
  rw [decide_eq_false (by omega), Bool.false_and, Bool.xor_false]⟩
theorem counted_zero (N at_ word : Nat) : Counted N at_ word 0 0 := ⟨by rw [Nat.zero_min, Nat.pow_zero, Nat.mod_one], Nat.le_refl _⟩

theorem turned_skip {xs ys : List Int} {N at_ word i : Nat} (h : Turned xs ys N at_ word i) (hs : word.testBit i = false ∨ 8 * N ≤ at_ + i) : Turned xs ys N at_ word (i + 1) := by
  refine ⟨h.1, h.2.1, fun j hj => ?_⟩
  rw [h.2.2 j hj]
  by_cases e : j = at_ + i
  · subst e
    rcases hs with hs | hs
    · rw [show at_ + i - at_ = i by omega, hs, Bool.and_false, Bool.and_false]
    · omega
  · have : decide (at_ ≤ j ∧ j < at_ + i) = decide (at_ ≤ j ∧ j < at_ + (i + 1)) := by
      rw [Bool.eq_iff_iff, decide_eq_true_iff, decide_eq_true_iff]; omega
    rw [this]

theorem mod_succ (word i : Nat) : word % 2 ^ (i + 1) = word % 2 ^ i + 2 ^ i * (word.testBit i).toNat := by
  rw [Nat.mod_pow_succ, Nat.toNat_testBit]

theorem counted_skip {N at_ word i t : Nat} (h : Counted N at_ word i t) (hs : word.testBit i = false ∨ 8 * N ≤ at_ + i) : Counted N at_ word (i + 1) t := by
  refine ⟨?_, by have := h.2; omega⟩
  by_cases e : 8 * N ≤ at_ + i
  · rw [Nat.min_eq_right (by omega), ← Nat.min_eq_right (show 8 * N - at_ ≤ i by omega)]
    exact h.1
  · have hs := hs.resolve_right e
    have h1 := h.1
    rw [Nat.min_eq_left (by omega)] at h1
    rw [Nat.min_eq_left (by omega), mod_succ, hs]
    simpa using h1

theorem counted_step {N at_ word i t : Nat} (h : Counted N at_ word i t) (hs : word.testBit i = true) (hk : at_ + i < 8 * N) : Counted N at_ word (i + 1) (t + 1) := by
  refine ⟨?_, by have := h.2; omega⟩
  rw [Nat.min_eq_left (by omega), mod_succ, hs]
  have := Nat.two_pow_pos i
  simp

theorem turned_step {xs ys : List Int} {N at_ word i x : Nat} (h : Turned xs ys N at_ word i) (hs : word.testBit i = true) (hk : at_ + i < 8 * N) (hx : ys.getD ((at_ + i) / 8) 0 = (x : Int)) :
    Turned xs (ys.set ((at_ + i) / 8) ((x ^^^ 2 ^ ((at_ + i) % 8) : Nat) : Int)) N at_ word (i + 1) := by
  have hx8 : x < 2 ^ 8 := by have := bytes_get h.2.1 ((at_ + i) / 8); rw [hx] at this; omega
  have hq : (at_ + i) / 8 < ys.length := by rw [h.1]; omega
  have hx9 : x ^^^ 2 ^ ((at_ + i) % 8) < 2 ^ 8 := Nat.xor_lt_two_pow hx8 (Nat.pow_lt_pow_right (by decide) (Nat.mod_lt _ (by decide)))
  refine ⟨by rw [List.length_set]; exact h.1, fun y hy => ?_, fun j hj => ?_⟩
  · rcases List.mem_or_eq_of_mem_set hy with hy | rfl
    · exact h.2.1 y hy
    · omega
  · have hb : btAt (ys.set ((at_ + i) / 8) ((x ^^^ 2 ^ ((at_ + i) % 8) : Nat) : Int)) j = (btAt ys j ^^ decide (j = at_ + i)) := by
      unfold btAt
      by_cases e : j / 8 = (at_ + i) / 8
      · rw [e, List.getD_eq_getElem?_getD, List.getElem?_set, if_pos rfl, if_pos hq, Option.getD_some, Int.toNat_natCast, hx, Int.toNat_natCast, Nat.testBit_xor, Nat.testBit_two_pow]
        congr 1
        rw [Bool.eq_iff_iff, decide_eq_true_iff, decide_eq_true_iff]
        omega
      · rw [List.getD_eq_getElem?_getD, List.getElem?_set, if_neg (Ne.symm e), ← List.getD_eq_getElem?_getD, decide_eq_false (by rintro rfl; exact e rfl), Bool.xor_false]
    rw [hb, h.2.2 j hj]
    by_cases e : j = at_ + i
    · subst e
      rw [decide_eq_false (by omega), decide_eq_true (by omega), decide_eq_true (by omega), show at_ + i - at_ = i by omega, hs, Bool.false_and, Bool.true_and, Bool.xor_false]
    · have : decide (at_ ≤ j ∧ j < at_ + i) = decide (at_ ≤ j ∧ j < at_ + (i + 1)) := by
        rw [Bool.eq_iff_iff, decide_eq_true_iff, decide_eq_true_iff]; omega
      rw [this, decide_eq_false e, Bool.xor_false]

set_option maxRecDepth 100000 in
set_option maxHeartbeats 2000000 in
theorem crcBursts_walk (a0 : Option Addr) (len0 cap0 : Nat) (z0 : List Int) (a1 a2 : Int) (w : World) (h0 : IsRow .u8 w a0 len0 cap0 z0) (_ : len0 * 1 ≤ 140737488351232) (_ : (Lit.int .i64 a1).wf = true) (hw2 : (Lit.int .u32 a2).wf = true) :
    Calls Try.prog 10 #[.slice a0 len0 cap0, .int .i64 a1, .int .u32 a2] w fun e w' => e = .returned (.bool true) ∧ Below w.heap.size w w' := by
  obtain ⟨xs, hl, hc, _, hA, hwf⟩ := h0.open_
  have hb := wf_bytes hwf
  have HA := Hidd.mk hA
  have HB := Hidd.mk hb
  have HL := Hidd.mk hl
  have HS := Hidd.mk (crcSeal_bytes hb)
  have HN := Hidd.mk (show (crcSeal xs).length = len0 + 4 by rw [crcSeal_length, hl])
  have HR := Hidd.mk (rests xs hb)
  clear hA hwf hb hl h0
  have hw := bounds_u32 hw2
  obtain ⟨word, rfl⟩ : ∃ n : Nat, a2 = n := ⟨a2.toNat, by omega⟩
  clear hw2
  by_cases hlong : 3000 < len0
  · go_enter Try.func10, Try.ntmps10
    go_wp2_with (go_at_call 19; refine (awake_any _).mono ?_; rintro e w1 ⟨rfl, hb1⟩)
    go_ret
    exact ⟨rfl, hb1⟩
  · by_cases hz : word = 0
    · have hz2 : ((word : Int) == 0) = true := by simp [hz]
      clear hz
      go_enter Try.func10, Try.ntmps10
      go_wp2_with (go_at_call 19; refine (awake_any _).mono ?_; rintro e w1 ⟨rfl, hb1⟩)
      go_ret
      exact ⟨rfl, hb1⟩
    · have hz2 : ((word : Int) == 0) = false := by simp [hz]
      have HZ := Hidd.mk hz
      clear hz
      have hp : ∃ p : Nat, wrap64 (IntKind.u64.wrap a1 % (8 * ((len0 : Int) + 4))) = p ∧ p < 8 * (len0 + 4) := by
        have hu0 : 0 ≤ IntKind.u64.wrap a1 := by rw [IntKind.wrap]; simp only [IntKind.signed, IntKind.bits]; exact Int.emod_nonneg _ (by decide)
        have l1 := Int.emod_nonneg (IntKind.u64.wrap a1) (show 8 * ((len0 : Int) + 4) ≠ 0 by omega)
        have l2 := Int.emod_lt_of_pos (IntKind.u64.wrap a1) (show 0 < 8 * ((len0 : Int) + 4) by omega)
        refine ⟨(IntKind.u64.wrap a1 % (8 * ((len0 : Int) + 4))).toNat, ?_, by omega⟩
        rw [IntWalk.wrap64_in _ (by omega)]
        omega
      obtain ⟨p, hp, hp2⟩ := hp
      have hu0 : 0 ≤ IntKind.u64.wrap a1 := by rw [IntKind.wrap]; simp only [IntKind.signed, IntKind.bits]; exact Int.emod_nonneg _ (by decide)
      have hq : p < 32768 := by omega
      go_enter Try.func10, Try.ntmps10
      go_wp2_with (first | (go_at_call 19; refine (awake_any _).mono ?_; rintro e w1 ⟨rfl, hb1⟩) | (go_at_call 29; refine (seal_at a0 len0 cap0 xs _ (HA.out.below hb1) HB.out (by omega) HL.out).mono ?_; rintro e w2 ⟨A2, c2, rfl, hc2, ho2, _, hb2⟩; replace ho2 := Hidd.mk ho2))
      simp only [hp]
      obtain ⟨g, rfl, hg1, hg2⟩ := own_head ho2.out (by omega)
      go_loopw [8, 9] (fun v8 v9 wr => ∃ (i t : Nat) (ys : List Int), v9 = .int .i64 i ∧ i ≤ 32 ∧ v8 = .int .i64 t ∧ t ≤ 32 ∧ Hidd (Turned (crcSeal xs) ys (len0 + 4) p word i ∧ Counted (len0 + 4) p word i t) ∧ Hidd (wr.ownsRow w1.heap.size 5 1 (.slice (some ⟨g, 0, none⟩) (len0 + 4) c2) (len0 + 4) (nums .u8 ys)) ∧ Below w.heap.size w wr) (fun _ v9 _ => 32 - (intOf v9).toNat)
      case atStart => exact ⟨0, 0, crcSeal xs, rfl, by omega, rfl, by omega, ⟨turned_zero _ _ _ _ HN.out HS.out, counted_zero _ _ _⟩, ho2, below_then hb1 hb2⟩
      case round =>
        clear ho2 hp hu0
        obtain ⟨i, t, ys, rfl, hi, rfl, ht, hT, ho, hbr⟩ := hrel
        by_cases hlt : i < 32
        · by_cases hbit : word.testBit i = true
          · have hbb : bits BinOp.and IntKind.u32 ((word : Int) / 2 ^ i) 1 = 1 := by
              have e := u32_and_nat (word / 2 ^ i) 1 (Nat.lt_of_le_of_lt (Nat.div_le_self _ _) (by omega)) (by decide)
              rw [nat_mask1, ← Nat.toNat_testBit, hbit, Int.natCast_ediv, Int.natCast_pow] at e
              exact e
            by_cases hk : p + i < 8 * (len0 + 4)
            · have hk2 : decide ((p : Int) + i < 8 * ((len0 : Int) + 4)) = true := by simp; omega
              obtain ⟨ad, e, hx⟩ := (own_cells ho.out).at ((p + i) / 8) (by rw [hT.out.1.1]; omega)
              injection e with e
              subst e
              rw [add_plain] at hx
              have hx0 := bytes_get hT.out.1.2.1 ((p + i) / 8)
              obtain ⟨x, hxe⟩ : ∃ x : Nat, ys.getD ((p + i) / 8) 0 = x := ⟨(ys.getD ((p + i) / 8) 0).toNat, by omega⟩
              rw [hxe] at hx hx0
              have hfr := ho.out.frozenAt ((p + i) / 8)
              have hxr := u8_xor_nat x (2 ^ ((p + i) % 8)) (by omega) (Nat.pow_lt_pow_right (by decide) (Nat.mod_lt _ (by decide)))
              obtain ⟨q, hq1⟩ : ∃ q, q = (p + i) / 8 := ⟨_, rfl⟩
              obtain ⟨r, hr1⟩ : ∃ r, r = (p + i) % 8 := ⟨_, rfl⟩
              have e1 : ((p : Int) + i) / 8 = q := by omega
              have e2 : ((p : Int) + i) % 8 = r := by omega
              replace hxe := Hidd.mk hxe
              rw [← hr1] at hxr
              have hr8 : 2 ^ r < 2 ^ 8 := Nat.pow_lt_pow_right (by decide) (by omega)
              have hxr2 : bits BinOp.xor IntKind.u8 (x : Int) (2 ^ r % 256) = ((x ^^^ 2 ^ r : Nat) : Int) := by
                rw [← hxr, show (2 : Int) ^ r % 256 = ((2 ^ r % 256 : Nat) : Int) by rw [Int.natCast_emod, Int.natCast_pow]; rfl, Nat.mod_eq_of_lt hr8]
              clear hxr hr8
              rw [← hq1] at hx hfr
              replace hq1 := Hidd.mk hq1
              replace hr1 := Hidd.mk hr1
              go_wp2
              go_region
              go_wp2
              go_roundw
              case rel =>
                refine ⟨i + 1, t + 1, ys.set q ((x ^^^ 2 ^ r : Nat) : Int), by go_num, by omega, by go_num, Nat.le_trans (counted_step hT.out.2 hbit hk).2 (by omega), ⟨?_, counted_step hT.out.2 hbit hk⟩, ⟨?_⟩, (hbr.setCell (Nat.le_trans hb1.size hg1) _).drew⟩
                · have h := turned_step hT.out.1 hbit hk hxe.out
                  rw [← hq1.out, ← hr1.out] at h
                  exact h
                · rw [nums, List.map_set]
                  exact (ho.out.stored q _).1
              case measure => simp [intOf]; omega
            · have hk2 : decide ((p : Int) + i < 8 * ((len0 : Int) + 4)) = false := by simp; omega
              go_wp2
              go_roundw
              case rel => exact ⟨i + 1, t, ys, by go_num, by omega, rfl, ht, ⟨turned_skip hT.out.1 (.inr (by omega)), counted_skip hT.out.2 (.inr (by omega))⟩, ho, hbr⟩
              case measure => simp [intOf]; omega
          · have hbb : bits BinOp.and IntKind.u32 ((word : Int) / 2 ^ i) 1 = 0 := by
              have e := u32_and_nat (word / 2 ^ i) 1 (Nat.lt_of_le_of_lt (Nat.div_le_self _ _) (by omega)) (by decide)
              rw [nat_mask1, ← Nat.toNat_testBit, Bool.eq_false_iff.mpr hbit, Int.natCast_ediv, Int.natCast_pow] at e
              exact e
            go_wp2
            go_roundw
            case rel => exact ⟨i + 1, t, ys, by go_num, by omega, rfl, ht, ⟨turned_skip hT.out.1 (.inl (by simpa using hbit)), counted_skip hT.out.2 (.inl (by simpa using hbit))⟩, ho, hbr⟩
            case measure => simp [intOf]; omega
        · obtain rfl : i = 32 := by omega
          have hres := burst_law (crcSeal xs) ys (len0 + 4) p word HS.out hT.out.1.2.1 HN.out hT.out.1.1 hp2 (by omega) HR.out hT.out.1.2.2
          rw [← hT.out.2.1, ← fits_res hT.out.1.2.1 hT.out.1.1] at hres
          have hby := Hidd.mk hT.out.1.2.1
          have hly := Hidd.mk hT.out.1.1
          have hcl := Hidd.mk (own_cells ho.out)
          by_cases ht0 : t = 0
          · have hf := hres.mpr ht0
            subst ht0
            have hf := Hidd.mk hf
            clear hres
            go_wp2_with (go_at_call 26; refine (open_yes (some ⟨g, 0, none⟩) c2 len0 ys _ hcl.out hby.out (by omega) hly.out (by omega) hf.out).mono ?_; rintro e w3 ⟨A3, c3, rfl, _, _, _, hb3⟩)
            go_ret
            exact ⟨rfl, below_then hbr hb3⟩
          · have hf : Hidd (fits ys = false) := ⟨by rw [Bool.eq_false_iff]; exact fun h => ht0 (hres.mp h)⟩
            have hz3 : ((t : Int) == 0) = false := by simp [ht0]
            clear hres ht0
            go_wp2_with (go_at_call 26; refine (open_no (some ⟨g, 0, none⟩) c2 (len0 + 4) ys _ hcl.out hby.out (by omega) hly.out (by omega) hf.out).mono ?_; rintro e w3 ⟨rfl, hb3⟩)
            go_ret
            exact ⟨rfl, below_then hbr hb3⟩

end Go.Proofs.Ytgdponkeceonkaa
