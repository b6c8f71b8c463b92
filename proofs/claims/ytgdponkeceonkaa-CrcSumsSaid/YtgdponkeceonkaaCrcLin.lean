/- The walk of the law CrcLinear: it answers true, whatever it is given. -/
import Derived.Test.YtgdponkeceonkaaCrcB
import Derived.RegionTactic
namespace Go.Proofs.Ytgdponkeceonkaa
open Go.RowKit

/-- min of three lengths. -/
theorem min_three (ats : Array TypeId) (ty : TypeId) (a b c m : Nat) (hm : m = min (min a b) c) :
    Builtin.min_ ats ty #[.int .i64 a, .int .i64 b, .int .i64 c] = (pure (.int .i64 m) : Sem Value) := by
  subst hm
  simp only [Builtin.min_, List.foldlM_cons, List.foldlM_nil, Builtin.min2]
  by_cases h1 : (b : Int) < a
  · rw [if_pos h1]
    simp only [pure_bind]
    by_cases h2 : (c : Int) < b
    · rw [if_pos h2]; show pure _ = pure _; congr 2; omega
    · rw [if_neg h2]; show pure _ = pure _; congr 2; omega
  · rw [if_neg h1]
    simp only [pure_bind]
    by_cases h2 : (c : Int) < a
    · rw [if_pos h2]; show pure _ = pure _; congr 2; omega
    · rw [if_neg h2]; show pure _ = pure _; congr 2; omega

theorem take_snoc_of {α : Type} (us vs : List α) (k : Nat) (u : α) (h : us.take k = vs.take k) (hk : k < us.length) (hv : vs[k]? = some u) : (us.set k u).take (k + 1) = vs.take (k + 1) := by
  rw [List.take_add_one, List.take_add_one, List.take_set, hv, List.getElem?_set, if_pos rfl, if_pos hk, ← h]
  congr 1
  exact List.set_eq_of_length_le (by rw [List.length_take]; omega)

theorem zip3_get (xs ys zs : List Int) (k x y z : Nat) (hx : k < xs.length) (hy : k < ys.length) (hz : k < zs.length) (ex : xs.getD k 0 = (x : Int)) (ey : ys.getD k 0 = (y : Int)) (ez : zs.getD k 0 = (z : Int)) :
    ((xs.zip (ys.zip zs)).map fun p => ((p.1.toNat ^^^ p.2.1.toNat ^^^ p.2.2.toNat : Nat) : Int))[k]? = some ((x ^^^ y ^^^ z : Nat) : Int) := by
  rw [List.getD_eq_getElem?_getD, List.getElem?_eq_getElem hx] at ex
  rw [List.getD_eq_getElem?_getD, List.getElem?_eq_getElem hy] at ey
  rw [List.getD_eq_getElem?_getD, List.getElem?_eq_getElem hz] at ez
  simp only [Option.getD_some] at ex ey ez
  rw [List.getElem?_map, List.getElem?_eq_getElem (by simp; omega)]
  simp [ex, ey, ez]

theorem cells_at {w : World} {A : Option Addr} {xs : List Int} (h : Cells w A (nums .u8 xs)) (hb : Bytes xs) (k : Nat) (hk : k < xs.length) : ∃ ad x, A = some ad ∧ x < 256 ∧ xs.getD k 0 = ((x : Nat) : Int) ∧ w.cell? (ad.add k) = some (.int .u8 ((x : Nat) : Int)) := by
  obtain ⟨ad, e, hc⟩ := h.at k hk
  obtain ⟨x, h1, h2⟩ := getD_bytes hb k
  exact ⟨ad, x, e, h2, h1, by rw [hc, h1]⟩

/-- The law on plain lists. -/
theorem linear_law (us xs ys zs : List Int) (m : Nat) (h0 : m ≤ xs.length) (h1 : m ≤ ys.length) (h2 : m ≤ zs.length) (hx : Bytes xs) (hy : Bytes ys) (hz : Bytes zs) (hl : us.length = m)
    (hu : us.take m = (((xs.zip (ys.zip zs)).map fun p => ((p.1.toNat ^^^ p.2.1.toNat ^^^ p.2.2.toNat : Nat) : Int)).take m)) :
    crcSum us = crcSum (xs.take m) ^^^ crcSum (ys.take m) ^^^ crcSum (zs.take m) := by
  have e : us = (((xs.take m).zip ((ys.take m).zip (zs.take m))).map fun p => ((p.1.toNat ^^^ p.2.1.toNat ^^^ p.2.2.toNat : Nat) : Int)) := by
    rw [← List.take_of_length_le (l := us) (i := m) (by omega), hu, ← List.map_take, List.zip, List.take_zipWith, List.zip, List.take_zipWith]
  have h := crcStep_xor3 (xs.take m) (ys.take m) (zs.take m) 4294967295 4294967295 4294967295 (by simp; omega) (by simp; omega) (bytes_take hx m) (bytes_take hy m) (bytes_take hz m)
  rw [← e, Nat.xor_self, Nat.zero_xor] at h
  rw [crcSum, crcSum, crcSum, crcSum, h]
  refine Nat.eq_of_testBit_eq fun i => ?_
  simp only [Nat.testBit_xor]
  cases Nat.testBit 4294967295 i <;> cases (crcStep 4294967295 (xs.take m)).testBit i <;> cases (crcStep 4294967295 (ys.take m)).testBit i <;> cases (crcStep 4294967295 (zs.take m)).testBit i <;> rfl

theorem zip_bytes (xs ys zs : List Int) (hx : Bytes xs) (hy : Bytes ys) (hz : Bytes zs) : Bytes ((xs.zip (ys.zip zs)).map fun p => ((p.1.toNat ^^^ p.2.1.toNat ^^^ p.2.2.toNat : Nat) : Int)) := by
  intro u hu
  obtain ⟨⟨x, y, z⟩, hp, rfl⟩ := List.mem_map.1 hu
  have h1 := List.of_mem_zip hp
  have h2 := List.of_mem_zip h1.2
  have a := hx x h1.1
  have b := hy y h2.1
  have c := hz z h2.2
  have := Nat.xor_lt_two_pow (n := 8) (Nat.xor_lt_two_pow (n := 8) (show x.toNat < 2 ^ 8 by omega) (show y.toNat < 2 ^ 8 by omega)) (show z.toNat < 2 ^ 8 by omega)
  simp only
  omega

theorem run_make_bytes (w : World) (n : Nat) (hn : n ≤ 140737488355328) :
    (Instr.makeSlice 32 (.int .i64 (n : Int)) (.int .i64 (n : Int))).run Try.prog w = .ok (.slice (some ⟨w.heap.size, 0, none⟩) n n) (w.alloc (.cells (madeCells #[.int .u8 0] n) 5)) := by
  obtain ⟨i0, hi, hz0, hz1, hz2⟩ := info_parts info_u8
  have hr := run_make (P := Try.prog) w 32 5 i0 (.int .u8 0) Try.underlying32 hi hz0 .i64 .i64 n n (by omega) (Int.le_refl _) (by rw [hz2]; omega) (by omega)
  rw [hz1] at hr
  simpa [Value.cells] using hr

set_option maxHeartbeats 1000000 in
theorem crcLinear_walk (a0 : Option Addr) (len0 cap0 : Nat) (z0 : List Int) (a1 : Option Addr) (len1 cap1 : Nat) (z1 : List Int) (a2 : Option Addr) (len2 cap2 : Nat) (z2 : List Int) (w : World)
    (h0 : IsRow .u8 w a0 len0 cap0 z0) (_ : len0 * 1 ≤ 140737488351232) (h1 : IsRow .u8 w a1 len1 cap1 z1) (_ : len1 * 1 ≤ 140737488351232) (h2 : IsRow .u8 w a2 len2 cap2 z2) (_ : len2 * 1 ≤ 140737488351232) :
    Calls Try.prog 5 #[.slice a0 len0 cap0, .slice a1 len1 cap1, .slice a2 len2 cap2] w fun e w' => e = .returned (.bool true) ∧ Below w.heap.size w w' := by
  obtain ⟨xs, hl0, hc0, _, hA0, hwf0⟩ := h0.open_
  obtain ⟨ys, hl1, hc1, _, hA1, hwf1⟩ := h1.open_
  obtain ⟨zs, hl2, hc2, _, hA2, hwf2⟩ := h2.open_
  have HB0 := Hidd.mk (wf_bytes hwf0)
  have HB1 := Hidd.mk (wf_bytes hwf1)
  have HB2 := Hidd.mk (wf_bytes hwf2)
  have HA0 := Hidd.mk hA0
  have HA1 := Hidd.mk hA1
  have HA2 := Hidd.mk hA2
  have HL0 := Hidd.mk hl0
  have HL1 := Hidd.mk hl1
  have HL2 := Hidd.mk hl2
  clear hwf0 hwf1 hwf2 hA0 hA1 hA2 hl0 hl1 hl2 h0 h1 h2
  obtain ⟨m, hm⟩ : ∃ m, m = min (min len0 len1) len2 := ⟨_, rfl⟩
  have hmin := fun ats ty => min_three ats ty len0 len1 len2 m hm
  have hm0 : m ≤ len0 := by omega
  have hm1 : m ≤ len1 := by omega
  have hm2 : m ≤ len2 := by omega
  clear hm
  by_cases hlong : 3000 < m
  · go_enter Try.func5, Try.ntmps5
    go_wp2_with (go_at_call 19; refine (awake_any _).mono ?_; rintro e w1 ⟨rfl, hb1⟩)
    go_ret
    exact ⟨rfl, hb1⟩
  · have hmk := fun W => run_make_bytes W m (by omega)
    go_enter Try.func5, Try.ntmps5
    go_wp2_with (go_at_call 19; refine (awake_any _).mono ?_; rintro e w1 ⟨rfl, hb1⟩)
    have hown0 := World.ownsRow_lit (base := w1.heap.size) (e := 5) (size := 1) w1 (madeCells #[.int .u8 0] m) m (Nat.le_refl _) (by unfold maxLen; omega) (by rw [size_madeCells, Nat.mul_one])
    rw [toList_madeCells_one] at hown0
    go_loopw [25] (fun v25 wr => ∃ (k : Nat) (us : List Int), v25 = .int .i64 k ∧ k ≤ m ∧ Hidd (us.length = m ∧ us.take k = (((xs.zip (ys.zip zs)).map fun p => ((p.1.toNat ^^^ p.2.1.toNat ^^^ p.2.2.toNat : Nat) : Int)).take k)) ∧ Hidd (wr.ownsRow w1.heap.size 5 1 (.slice (some ⟨w1.heap.size, 0, none⟩) m m) m (nums .u8 us)) ∧ Below w.heap.size w wr) (fun v25 _ => m - (intOf v25).toNat)
    case atStart => exact ⟨0, List.replicate m 0, rfl, Nat.zero_le _, ⟨by simp, by simp⟩, ⟨by simpa [nums] using hown0⟩, below_alloc hb1 _⟩
    case round =>
      clear hown0 hmk hmin
      obtain ⟨k, us, rfl, hk, hus, ho, hbr⟩ := hrel
      by_cases hlt : k < m
      · obtain ⟨ad0, x, e0, x1, x2, x3⟩ := cells_at (HA0.out.below hbr) HB0.out k (by rw [HL0.out]; omega)
        obtain ⟨ad1, y, e1, y1, y2, y3⟩ := cells_at (HA1.out.below hbr) HB1.out k (by rw [HL1.out]; omega)
        obtain ⟨ad2, z, e2, z1, z2, z3⟩ := cells_at (HA2.out.below hbr) HB2.out k (by rw [HL2.out]; omega)
        have hz := Hidd.mk (zip3_get xs ys zs k x y z (by rw [HL0.out]; omega) (by rw [HL1.out]; omega) (by rw [HL2.out]; omega) x2 y2 z2)
        have hq1 := u8_xor_nat x y x1 y1
        have hq2 := u8_xor_nat (x ^^^ y) z (Nat.xor_lt_two_pow (n := 8) x1 y1) z1
        subst e0 e1 e2
        have ht : ∃ u, wr.cell? ⟨w1.heap.size, k, none⟩ = some (.int .u8 u) := by
          obtain ⟨ad, e, h⟩ := (own_cells ho.out).at k (by rw [hus.out.1]; exact hlt)
          injection e with e
          subst e
          rw [add_plain] at h
          exact ⟨_, h⟩
        obtain ⟨u, ht⟩ := ht
        have hfr := ho.out.frozenAt k
        clear x2 y2 z2
        go_wp2
        go_region
        go_wp2
        go_roundw
        case rel =>
          refine ⟨k + 1, us.set k ((x ^^^ y ^^^ z : Nat) : Int), by go_num, by omega, ⟨by rw [List.length_set]; exact hus.out.1, take_snoc_of _ _ _ _ hus.out.2 (by rw [hus.out.1]; exact hlt) hz.out⟩, ⟨?_⟩, (hbr.setCell hb1.size _).drew⟩
          rw [nums, List.map_set]
          exact (ho.out.stored k _).1
        case measure => simp [intOf]; omega
      · obtain rfl : k = m := by omega
        obtain ⟨s0, e0⟩ : ∃ s, crcSum (xs.take k) = s := ⟨_, rfl⟩
        obtain ⟨s1, e1⟩ : ∃ s, crcSum (ys.take k) = s := ⟨_, rfl⟩
        obtain ⟨s2, e2⟩ : ∃ s, crcSum (zs.take k) = s := ⟨_, rfl⟩
        have hL := linear_law us xs ys zs k (by rw [HL0.out]; exact hm0) (by rw [HL1.out]; exact hm1) (by rw [HL2.out]; exact hm2) HB0.out HB1.out HB2.out hus.out.1 hus.out.2
        rw [e0, e1, e2] at hL
        have b0 := crcSum_lt (bytes_take HB0.out k)
        have b1 := crcSum_lt (bytes_take HB1.out k)
        have b2 := crcSum_lt (bytes_take HB2.out k)
        rw [e0] at b0
        rw [e1] at b1
        rw [e2] at b2
        have q1 := u32_xor_nat s0 s1 b0 b1
        have q2 := u32_xor_nat (s0 ^^^ s1) s2 (xor_lt b0 b1) b2
        have hub : Bytes us := by
          have h := hus.out.2
          rw [List.take_of_length_le (by rw [hus.out.1]; omega)] at h
          rw [h]
          exact bytes_take (zip_bytes xs ys zs HB0.out HB1.out HB2.out) k
        have c0 := fun W (h : Below w.heap.size w W) => sum_at a0 k cap0 s0 (xs.take k) W (by rw [nums_take]; exact (HA0.out.below h).take k) (bytes_take HB0.out k) (by omega) (by rw [List.length_take, HL0.out]; omega) e0
        have c1 := fun W (h : Below w.heap.size w W) => sum_at a1 k cap1 s1 (ys.take k) W (by rw [nums_take]; exact (HA1.out.below h).take k) (bytes_take HB1.out k) (by omega) (by rw [List.length_take, HL1.out]; omega) e1
        have c2 := fun W (h : Below w.heap.size w W) => sum_at a2 k cap2 s2 (zs.take k) W (by rw [nums_take]; exact (HA2.out.below h).take k) (bytes_take HB2.out k) (by omega) (by rw [List.length_take, HL2.out]; omega) e2
        have c3 := fun n => sum_at (some ⟨w1.heap.size, 0, none⟩) k k (s0 ^^^ s1 ^^^ s2) us (wr.drewN n) ((own_cells ho.out).drewN n) hub (by omega) hus.out.1 hL
        have C0 := Hidd.mk c0
        have C1 := Hidd.mk c1
        have C2 := Hidd.mk c2
        have C3 := Hidd.mk c3
        have i0 : (k : Int) ≤ (cap0 : Int) := by omega
        have i1 : (k : Int) ≤ (cap1 : Int) := by omega
        have i2 : (k : Int) ≤ (cap2 : Int) := by omega
        clear c0 c1 c2 c3 e0 e1 e2 hL
        go_wp2
        go_quiet ((go_at_call 20; first | (with_reducible exact quiet_eq (C3.out _)) | (with_reducible exact quiet_eq (C0.out _ (below_drewN' _ hbr))) | (with_reducible exact quiet_eq (C1.out _ (below_drewN' _ hbr))) | (with_reducible exact quiet_eq (C2.out _ (below_drewN' _ hbr)))))
        go_wp2
        go_ret
        exact ⟨rfl, below_drewN' _ hbr⟩

end Go.Proofs.Ytgdponkeceonkaa
