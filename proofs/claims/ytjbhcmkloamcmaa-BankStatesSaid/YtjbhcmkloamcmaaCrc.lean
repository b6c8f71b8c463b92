/- Contracts of the functions of crc: what step, Sum, Seal, Open answer, of any bytes. -/
import Derived.Test.YtjbhcmkloamcmaaBytes
import Derived.Test.YtjbhcmkloamcmaaCrcPl
namespace Go.Proofs.Ytjbhcmkloamcmaa
open Go.RowKit

theorem getD_bytes {xs : List Int} (h : Bytes xs) (k : Nat) : ∃ b : Nat, xs.getD k 0 = (b : Int) ∧ b < 256 := by
  have := bytes_get h k
  exact ⟨(xs.getD k 0).toNat, by omega, by omega⟩

set_option maxHeartbeats 400000 in
theorem step_any (A : Option Addr) (c r : Nat) (xs : List Int) (w : World) (hA : Cells w A (nums .u8 xs)) (hb : Bytes xs) (hr : r < 4294967296) (hn : xs.length ≤ 140737488355328) :
    Calls Try.prog 49 #[.int .u32 r, .slice A xs.length c] w fun e w' => e = .returned (.int .u32 (crcStep r xs : Nat)) ∧ w = w' := by
  go_enter Try.func49, Try.ntmps49
  go_wp2
  go_loop [0, 9] (fun v0 v9 => ∃ k : Nat, k ≤ xs.length ∧ v9 = .int .i64 k ∧ v0 = .int .u32 (crcStep r (xs.take k) : Nat)) (fun _ v9 => xs.length - (intOf v9).toNat)
  case atStart => exact ⟨0, Nat.zero_le _, rfl, by rw [List.take_zero, crcStep_nil]⟩
  case round =>
    obtain ⟨k, hk, rfl, rfl⟩ := hrel
    by_cases hlt : k < xs.length
    · obtain ⟨ad, hAd, hc⟩ := hA.at k hlt
      obtain ⟨b, hb1, hb2⟩ := getD_bytes hb k
      rw [hb1] at hc
      have hq := crcStep_lt (xs.take k) hr (bytes_take hb k)
      have hsn := crcStep_take r xs k hlt
      rw [hb1, Int.toNat_natCast] at hsn
      generalize crcStep r (xs.take k) = q at *
      have HS := Hidd.mk hsn
      clear hsn hb1
      subst hAd
      have hp := xor_lt hq (show b < 4294967296 by omega)
      have hx := u32_xor_nat q b hq (by omega)
      generalize q ^^^ b = p at *
      go_wp2
      clear hx
      go_loop [0, 17] (fun v0 v17 => ∃ m : Nat, m ≤ 8 ∧ v17 = .int .i64 m ∧ v0 = .int .u32 (bitN m p : Nat)) (fun _ v17 => 8 - (intOf v17).toNat)
      case atStart => exact ⟨0, Nat.zero_le _, rfl, rfl⟩
      case round =>
        obtain ⟨m, hm, rfl, rfl⟩ := hrel
        by_cases hm8 : m < 8
        · have hz := bitN_lt m hp
          obtain ⟨z, hzz⟩ : ∃ z, bitN m p = z := ⟨_, rfl⟩
          have HZ := Hidd.mk (show bitN (m + 1) p = bit z by rw [bitN, hzz])
          rw [hzz] at hz ⊢
          clear hzz
          have ha0 : bits BinOp.and IntKind.u32 (z : Int) 1 = ((z &&& 1 : Nat) : Int) := u32_and_nat z 1 hz (by decide)
          rw [nat_mask1] at ha0
          by_cases h2 : z % 2 = 1
          · have ha : bits BinOp.and IntKind.u32 (z : Int) 1 = 1 := by rw [ha0, h2]; rfl
            clear ha0
            have hy : bits BinOp.xor IntKind.u32 ((z : Int) / 2) 3988292384 = ((z / 2 ^^^ 3988292384 : Nat) : Int) := u32_xor_nat (z / 2) 3988292384 (by omega) (by decide)
            have HB := Hidd.mk (show bit z = z / 2 ^^^ 3988292384 by unfold bit; rw [if_pos h2])
            clear h2
            generalize z / 2 ^^^ 3988292384 = y at *
            go_wp2
            go_round
            case rel => exact ⟨m + 1, by omega, by go_num, by rw [HZ.out, HB.out]⟩
            case measure => simp [intOf]; omega
          · have h3 : z % 2 = 0 := by omega
            have ha : bits BinOp.and IntKind.u32 (z : Int) 1 = 0 := by rw [ha0, h3]; rfl
            clear ha0
            have HB := Hidd.mk (show bit z = z / 2 by unfold bit; rw [if_neg h2])
            clear h2 h3
            go_wp2
            go_round
            case rel => exact ⟨m + 1, by omega, by go_num, by rw [HZ.out, HB.out]; simp⟩
            case measure => simp [intOf]; omega
        · obtain rfl : m = 8 := by omega
          go_wp2
          go_round
          case rel => exact ⟨k + 1, by omega, by go_num, by rw [HS.out]⟩
          case measure => simp [intOf]; omega
    · obtain rfl : k = xs.length := by omega
      go_wp2
      go_ret
      exact ⟨rfl, rfl⟩

theorem sum_any (A : Option Addr) (c : Nat) (xs : List Int) (w : World) (hA : Cells w A (nums .u8 xs)) (hb : Bytes xs) (hn : xs.length ≤ 140737488355328) :
    Calls Try.prog 44 #[.slice A xs.length c] w fun e w' => e = .returned (.int .u32 (crcSum xs : Nat)) ∧ w = w' := by
  have hs := crcStep_lt xs (r := 4294967295) (by decide) hb
  have HA := Hidd.mk hA
  have hx : bits BinOp.xor IntKind.u32 IntKind.u32.max ((crcStep 4294967295 xs : Nat) : Int) = ((4294967295 ^^^ crcStep 4294967295 xs : Nat) : Int) := u32_xor_nat 4294967295 _ (by decide) hs
  clear hA
  go_enter Try.func44, Try.ntmps44
  go_wp2_with (go_at_call 49; refine (step_any A c 4294967295 xs _ HA.out hb (by decide) hn).mono ?_; rintro e w' ⟨rfl, rfl⟩)
  go_ret
  exact ⟨rfl, rfl⟩

/-- The same, with names for the length and for what it answers. -/
theorem sum_at (A : Option Addr) (n c s : Nat) (xs : List Int) (w : World) (hA : Cells w A (nums .u8 xs)) (hb : Bytes xs) (hn : n ≤ 140737488355328) (hl : xs.length = n) (hs : crcSum xs = s) :
    Calls Try.prog 44 #[.slice A n c] w fun e w' => e = .returned (.int .u32 s) ∧ w = w' := by
  subst hl hs; exact sum_any A c xs w hA hb hn

theorem seal_any (A : Option Addr) (c : Nat) (xs : List Int) (w : World) (hA : Cells w A (nums .u8 xs)) (hb : Bytes xs) (hn : xs.length ≤ 140737488355000) :
    Calls Try.prog 35 #[.slice A xs.length c] w fun e w' => ∃ v, e = .returned v ∧ w'.ownsRow w.heap.size 5 1 v (xs.length + 4) (nums .u8 (crcSeal xs)) ∧ Below w.heap.size w w' := by
  have hs := crcSum_lt hb
  have HA := Hidd.mk hA
  have HB := Hidd.mk hb
  have HL := Hidd.mk (show crcSeal xs = xs ++ le4 (crcSum xs) from rfl)
  obtain ⟨s, hss⟩ : ∃ s, crcSum xs = s := ⟨_, rfl⟩
  rw [hss] at hs HL
  have HS := Hidd.mk hss
  clear hA hb hss hs
  have hown0 := World.ownsRow_lit (base := w.heap.size) (e := 5) (size := 1) w #[] 0 (Nat.le_refl _) (Nat.zero_le _) rfl
  have hb0 := below_alloc (Below.refl w.heap.size w) (.cells #[] 5)
  go_enter Try.func35, Try.ntmps35
  go_wp2_with (first | (go_at_call 44; refine (sum_at A _ c s xs _ HA.out HB.out (by omega) rfl HS.out).mono ?_; rintro e w' ⟨rfl, rfl⟩) | (at_builtin; refine app_bytes rfl (.tmp 7) (.tmp 8) rfl w.heap.size (.slice (some ⟨w.heap.size, 0, none⟩) 0 0) 0 [] rfl hown0 A xs.length c xs rfl rfl (HA.out.alloc _) (by omega) (by simp) ?_; intro v1 w1 hown1 hg1 hb1; replace hb1 := hb0.trans hb1; clear hown0 hb0 hg1) | (at_builtin; refine app_bytes rfl (.tmp 10) (.tmp 22) rfl w.heap.size v1 _ _ rfl (hown1.alloc _) (some ⟨w1.heap.size, 0, none⟩) 4 4 (le4 s) rfl rfl (Cells.new _ _ _ _ rfl) (by omega) (by have := hb1.size; simp; omega) ?_; intro v2 w2 hown2 hg2 hb2))
  go_ret
  refine ⟨v2, rfl, ?_, (below_alloc hb1 _).trans hb2⟩
  rw [HL.out]
  simpa using hown2

/-- The number that four bytes are, the lowest first. -/
def num4 (xs : List Int) : Nat := (xs.getD 0 0).toNat + (xs.getD 1 0).toNat * 256 + (xs.getD 2 0).toNat * 65536 + (xs.getD 3 0).toNat * 16777216

/-- Do the last four bytes fit to those ahead? -/
def fits (xs : List Int) : Bool := decide (4 ≤ xs.length) && (crcSum (xs.take (xs.length - 4)) == num4 (xs.drop (xs.length - 4)))

theorem open_short (A : Option Addr) (c n : Nat) (w : World) (hn : n < 4) :
    Calls Try.prog 29 #[.slice A n c] w fun e w' => e = .returned (.tuple #[.slice none 0 0, .bool false]) ∧ w = w' := by
  go_enter Try.func29, Try.ntmps29
  go_wp2
  go_ret2
  exact ⟨rfl, rfl⟩

/-- Where the loop over the four bytes stands. -/
def OpenAt (b0 b1 b2 b3 : Nat) (v5 v22 : Value) : Prop :=
  (v22 = .int .i64 0 ∧ v5 = .int .u32 0) ∨ (v22 = .int .i64 1 ∧ v5 = .int .u32 (b0 : Int)) ∨ (v22 = .int .i64 2 ∧ v5 = .int .u32 ((b0 : Int) + b1 * 256)) ∨
  (v22 = .int .i64 3 ∧ v5 = .int .u32 ((b0 : Int) + b1 * 256 + b2 * 65536)) ∨ (v22 = .int .i64 4 ∧ v5 = .int .u32 ((b0 : Int) + b1 * 256 + b2 * 65536 + b3 * 16777216))

theorem or_join (k s b : Nat) (hs : s < 2 ^ k) (hb : s + b * 2 ^ k < 4294967296) : bits .or .u32 (s : Int) ((b * 2 ^ k : Nat) : Int) = ((s + b * 2 ^ k : Nat) : Int) := by
  have h := u32_or_nat s (b * 2 ^ k) (by omega) (by omega)
  rw [h, Nat.or_comm, nat_join k (b * 2 ^ k) s (Nat.mul_mod_left _ _) hs, Nat.add_comm]

set_option maxHeartbeats 1000000 in
theorem open_long (A : Option Addr) (c n : Nat) (xs : List Int) (w : World) (hA : Cells w A (nums .u8 xs)) (hb : Bytes xs) (hn : n ≤ 140737488355000) (hl : xs.length = n + 4) (hc : n + 4 ≤ c) :
    Calls Try.prog 29 #[.slice A (n + 4) c] w fun e w' =>
      (fits xs = true → ∃ v, e = .returned (.tuple #[v, .bool true]) ∧ w'.ownsRow w.heap.size 5 1 v n (nums .u8 (xs.take n)) ∧ Below w.heap.size w w') ∧
      (fits xs = false → e = .returned (.tuple #[.slice none 0 0, .bool false]) ∧ Below w.heap.size w w') := by
  obtain ⟨ad, rfl, _⟩ := hA.at 0 (by omega)
  have hd : ∀ i, i < 4 → ∃ b : Nat, b < 256 ∧ (xs.drop n).getD i 0 = (b : Int) ∧ w.cell? ((ad.add n).add i) = some (.int .u8 b) := fun i hi => by
    obtain ⟨b, h1, h2⟩ := getD_bytes hb (n + i)
    obtain ⟨ad', h3, h4⟩ := hA.at (n + i) (by omega)
    injection h3 with h3
    subst h3
    refine ⟨b, h2, ?_, ?_⟩
    · rw [List.getD_eq_getElem?_getD, List.getElem?_drop, ← List.getD_eq_getElem?_getD, h1]
    · rw [add_add, h4, h1]
  obtain ⟨b0, l0, g0, k0⟩ := hd 0 (by decide)
  obtain ⟨b1, l1, g1, k1⟩ := hd 1 (by decide)
  obtain ⟨b2, l2, g2, k2⟩ := hd 2 (by decide)
  obtain ⟨b3, l3, g3, k3⟩ := hd 3 (by decide)
  rw [addr_zero] at k0
  rw [addr_lit _ _ (by decide)] at k1 k2 k3
  have o0 : bits .or .u32 0 (b0 : Int) = (b0 : Int) := by have := or_join 0 0 b0 (by decide) (by omega); simpa using this
  have o1 : bits .or .u32 (b0 : Int) ((b1 : Int) * 256) = (b0 : Int) + b1 * 256 := or_join 8 b0 b1 (by omega) (by omega)
  have o2 : bits .or .u32 ((b0 : Int) + b1 * 256) ((b2 : Int) * 65536) = (b0 : Int) + b1 * 256 + b2 * 65536 := or_join 16 (b0 + b1 * 256) b2 (by omega) (by omega)
  have o3 : bits .or .u32 ((b0 : Int) + b1 * 256 + b2 * 65536) ((b3 : Int) * 16777216) = (b0 : Int) + b1 * 256 + b2 * 65536 + b3 * 16777216 := or_join 24 (b0 + b1 * 256 + b2 * 65536) b3 (by omega) (by omega)
  have hnum : num4 (xs.drop n) = b0 + b1 * 256 + b2 * 65536 + b3 * 16777216 := by rw [num4, g0, g1, g2, g3]; simp
  have hfit : fits xs = (crcSum (xs.take n) == b0 + b1 * 256 + b2 * 65536 + b3 * 16777216) := by
    rw [fits, decide_eq_true (by omega), Bool.true_and, show xs.length - 4 = n by omega, hnum]
  have HF := Hidd.mk hfit
  clear g0 g1 g2 g3 hd hnum hfit
  have HA := Hidd.mk hA
  have HB := Hidd.mk hb
  have HL := Hidd.mk hl
  clear hA hb hl
  go_enter Try.func29, Try.ntmps29
  go_wp2
  go_loop [5, 22] (OpenAt b0 b1 b2 b3) (fun _ v22 => 4 - (intOf v22).toNat)
  case atStart => exact .inl ⟨rfl, rfl⟩
  case round =>
    rcases hrel with ⟨rfl, rfl⟩ | ⟨rfl, rfl⟩ | ⟨rfl, rfl⟩ | ⟨rfl, rfl⟩ | ⟨rfl, rfl⟩
    · go_wp2
      exact ⟨.inr (.inl ⟨rfl, rfl⟩), by simp [intOf]⟩
    · go_wp2
      exact ⟨.inr (.inr (.inl ⟨rfl, rfl⟩)), by simp [intOf]⟩
    · go_wp2
      exact ⟨.inr (.inr (.inr (.inl ⟨rfl, rfl⟩))), by simp [intOf]⟩
    · go_wp2
      exact ⟨.inr (.inr (.inr (.inr ⟨rfl, rfl⟩))), by simp [intOf]⟩
    · clear o0 o1 o2 o3 k0 k1 k2 k3
      obtain ⟨s, hs⟩ : ∃ s, crcSum (xs.take n) = s := ⟨_, rfl⟩
      have hf := HF.out
      rw [hs] at hf
      have HS := Hidd.mk hs
      clear hs
      by_cases h : s = b0 + b1 * 256 + b2 * 65536 + b3 * 16777216
      · have hf1 : fits xs = true := by rw [hf, h]; simp
        have HF1 := Hidd.mk hf1
        have hne : ((s : Int) != (b0 : Int) + b1 * 256 + b2 * 65536 + b3 * 16777216) = false := by simp; omega
        have hown0 := World.ownsRow_lit (base := w.heap.size) (e := 5) (size := 1) w #[] 0 (Nat.le_refl _) (Nat.zero_le _) rfl
        have hb0 := below_alloc (Below.refl w.heap.size w) (.cells #[] 5)
        clear hf hf1 h
        go_wp2_with (first | (go_at_call 44; refine (sum_at _ _ c s (xs.take n) _ (by rw [nums_take]; exact HA.out.take n) (bytes_take HB.out n) (by omega) (by rw [List.length_take, HL.out]; omega) HS.out).mono ?_; rintro e w' ⟨rfl, rfl⟩) | (at_builtin; refine app_bytes rfl (.tmp 39) (.tmp 40) rfl w.heap.size (.slice (some ⟨w.heap.size, 0, none⟩) 0 0) 0 [] rfl hown0 (some ad) n c (xs.take n) rfl (by rw [List.length_take, HL.out]; omega) (by rw [nums_take]; exact (HA.out.take n).alloc _) (by omega) (by simp) ?_; intro v1 w1 hown1 hg1 hb1; replace hb1 := hb0.trans hb1; clear hown0 hb0 hg1))
        go_ret2
        exact ⟨fun _ => ⟨v1, rfl, by simpa using hown1, hb1⟩, fun hh => (by rw [HF1.out] at hh; cases hh)⟩
      · have hf1 : fits xs = false := by rw [hf]; simp; omega
        have HF1 := Hidd.mk hf1
        have hne : ((s : Int) != (b0 : Int) + b1 * 256 + b2 * 65536 + b3 * 16777216) = true := by simp; omega
        clear hf hf1 h
        go_wp2_with (go_at_call 44; refine (sum_at _ _ c s (xs.take n) _ (by rw [nums_take]; exact HA.out.take n) (bytes_take HB.out n) (by omega) (by rw [List.length_take, HL.out]; omega) HS.out).mono ?_; rintro e w' ⟨rfl, rfl⟩)
        go_ret2
        exact ⟨fun hh => (by rw [HF1.out] at hh; cases hh), fun _ => ⟨rfl, Below.refl _ _⟩⟩

end Go.Proofs.Ytjbhcmkloamcmaa
