/- Contract of the reference's Open: it answers as crc.Open does. -/
import Derived.Test.YtcamoldjljfbeaaRefCrc
import Derived.Deep.RegionWith
namespace Go.Proofs.Ytcamoldjljfbeaa
open Go.RowKit

theorem u8_inj {x y : Int} (hx : 0 ≤ x ∧ x ≤ 255) (hy : 0 ≤ y ∧ y ≤ 255) (h : UInt8.ofNat x.toNat = UInt8.ofNat y.toNat) : x = y := by
  have := congrArg UInt8.toNat h
  simp at this
  omega

theorem map_inj : ∀ {xs ys : List Int}, Bytes xs → Bytes ys → (xs.map fun n => UInt8.ofNat n.toNat) = (ys.map fun n => UInt8.ofNat n.toNat) → xs = ys
  | [], [], _, _, _ => rfl
  | [], y :: ys, _, _, h => by simp at h
  | x :: xs, [], _, _, h => by simp at h
  | x :: xs, y :: ys, hx, hy, h => by
    simp only [List.map_cons, List.cons.injEq] at h
    rw [u8_inj (hx x (List.mem_cons_self ..)) (hy y (List.mem_cons_self ..)) h.1, map_inj (fun z hz => hx z (List.mem_cons_of_mem _ hz)) (fun z hz => hy z (List.mem_cons_of_mem _ hz)) h.2]

theorem str_inj {xs ys : List Int} (hx : Bytes xs) (hy : Bytes ys) (h : strOfNums xs = strOfNums ys) : xs = ys := by
  refine map_inj hx hy ?_
  have := congrArg (fun s => s.data.toList) h
  simpa [strOfNums] using this

theorem str_beq {xs ys : List Int} (hx : Bytes xs) (hy : Bytes ys) : ((strOfNums xs).toList == (strOfNums ys).toList) = decide (xs = ys) := by
  rw [Bool.eq_iff_iff, beq_iff_eq, decide_eq_true_iff]
  constructor
  · intro h
    rw [ByteArray.toList_eq, ByteArray.toList_eq] at h
    exact map_inj hx hy h
  · intro h
    rw [h]

theorem le4_num4 {ys : List Int} (hb : Bytes ys) (hl : ys.length = 4) : le4 (num4 ys) = ys := by
  match ys, hl with
  | [a, b, c, d], _ =>
    have ha := hb a (by simp)
    have hb' := hb b (by simp)
    have hc := hb c (by simp)
    have hd := hb d (by simp)
    show [_, _, _, _] = _
    simp only [num4, List.getD_cons_zero, List.getD_cons_succ]
    congr 1
    · omega
    · congr 1
      · omega
      · congr 1
        · omega
        · congr 1
          omega

theorem fits_iff {xs : List Int} {n : Nat} (hb : Bytes xs) (hl : xs.length = n + 4) : fits xs = true ↔ crcSeal (xs.take n) = xs := by
  have e0 : xs.length - 4 = n := by omega
  have e1 : xs.take n ++ xs.drop n = xs := List.take_append_drop n xs
  have e2 : (xs.drop n).length = 4 := by rw [List.length_drop]; omega
  rw [fits, e0, decide_eq_true (by omega), Bool.true_and, beq_iff_eq]
  constructor
  · intro h
    rw [crcSeal, h, le4_num4 (bytes_drop hb n) e2, e1]
  · intro h
    rw [crcSeal] at h
    have h2 : le4 (crcSum (xs.take n)) = xs.drop n := List.append_cancel_left (h.trans e1.symm)
    rw [← h2, num4_le4 _ (crcSum_lt (bytes_take hb n))]

theorem conv_own {w : World} {B n : Nat} {v : Value} {xs : List Int} (h : w.ownsRow B 5 1 v n (nums .u8 xs)) : (convert 50 9 v).run Try.prog w = .ok (.string (strOfNums xs)) w := by
  have hl := h.1
  rw [nums_length, Nat.mul_one] at hl
  obtain ⟨A', c', rfl, _, _, h4⟩ := Cells.of_own h
  exact conv_at h4 hl

theorem refOpen_short (A : Option Addr) (c n : Nat) (w : World) (hn : n < 4) :
    Calls Try.prog 74 #[.slice A n c] w fun e w' => e = .returned (.tuple #[.slice none 0 0, .bool false]) ∧ w = w' := by
  go_enter Try.func74, Try.ntmps74
  go_wp2
  go_ret2
  exact ⟨rfl, rfl⟩

set_option maxRecDepth 100000 in
set_option maxHeartbeats 4000000 in
theorem refOpen_long (A : Option Addr) (c n : Nat) (xs : List Int) (w : World) (hA : Cells w A (nums .u8 xs)) (hb : Bytes xs) (hn : n ≤ 140737488355000) (hl : xs.length = n + 4) (hc : n + 4 ≤ c) :
    Calls Try.prog 74 #[.slice A (n + 4) c] w fun e w' =>
      (fits xs = true → ∃ v, e = .returned (.tuple #[v, .bool true]) ∧ w'.ownsRow w.heap.size 5 1 v n (nums .u8 (xs.take n)) ∧ Below w.heap.size w w') ∧
      (fits xs = false → e = .returned (.tuple #[.slice none 0 0, .bool false]) ∧ Below w.heap.size w w') := by
  have HA := Hidd.mk hA
  have HB := Hidd.mk hb
  have HL := Hidd.mk hl
  have HLT := Hidd.mk (show (xs.take n).length = n by rw [List.length_take, hl]; omega)
  have HI := Hidd.mk (fits_iff hb hl)
  have hown0 := World.ownsRow_lit (base := w.heap.size) (e := 5) (size := 1) w #[] 0 (Nat.le_refl _) (Nat.zero_le _) rfl
  have hb0 := below_alloc (Below.refl w.heap.size w) (.cells #[] 5)
  clear hA hb hl
  go_enter Try.func74, Try.ntmps74
  go_wp2_with (at_builtin; refine app_sl rfl (.tmp 8) (.tmp 13) rfl w.heap.size (.slice (some ⟨w.heap.size, 0, none⟩) 0 0) 0 [] rfl hown0 A n c (xs.take n) rfl HLT.out (by rw [nums_take]; exact (HA.out.take n).alloc _) (by omega) (by simp) ?_; intro A1 c1 w1 hc1 hown1 hA1 hg1 hb1; replace hb1 := hb0.trans hb1; replace hown1 := Hidd.mk hown1; replace hA1 := Hidd.mk hA1; clear hown0 hb0 hg1)
  have hcv0 := conv_at (c := c) (HA.out.below hb1).drew HL.out
  have hbe := str_beq (crcSeal_bytes (bytes_take HB.out n)) HB.out
  by_cases hf : fits xs = true
  · rw [decide_eq_true (HI.out.1 hf)] at hbe
    have HF := Hidd.mk hf
    clear hf
    go_region_with (go_at_call 64; refine (refSeal_any A1 n c1 (xs.take n) _ hA1.out.drew (bytes_take HB.out n) (by omega) HLT.out).mono ?_; rintro e w2 ⟨v2, rfl, ho2, hb2⟩; replace hb2 : Below w1.heap.size w1 w2 := below_of_drew hb2; have hcv1 := conv_own ho2; have hcv3 := conv_at (c := c) (HA.out.below (hb1.trans (hb2.mono hb1.size))) HL.out)
    all_goals
      go_wp2
      go_ret2
      exact ⟨fun _ => ⟨_, rfl, by simpa using own_below hown1.out hb2, hb1.trans (hb2.mono hb1.size)⟩, fun h => (by rw [HF.out] at h; cases h)⟩
  · rw [decide_eq_false (fun h => hf (HI.out.2 h))] at hbe
    have HF := Hidd.mk hf
    clear hf
    go_region_with (go_at_call 64; refine (refSeal_any A1 n c1 (xs.take n) _ hA1.out.drew (bytes_take HB.out n) (by omega) HLT.out).mono ?_; rintro e w2 ⟨v2, rfl, ho2, hb2⟩; replace hb2 : Below w1.heap.size w1 w2 := below_of_drew hb2; have hcv1 := conv_own ho2; have hcv3 := conv_at (c := c) (HA.out.below (hb1.trans (hb2.mono hb1.size))) HL.out)
    all_goals
      go_wp2
      go_ret2
      exact ⟨fun h => absurd h HF.out, fun _ => ⟨rfl, hb1.trans (hb2.mono hb1.size)⟩⟩

end Go.Proofs.Ytcamoldjljfbeaa
