/- Contracts of the reference's functions of layer 2: Sum, Seal, Open: they answer as crc's do. -/
import Derived.Test.YtcamoldjljfbeaaCrcN
import Derived.Test.YtcamoldjljfbeaaCrcPm
namespace Go.Proofs.Ytcamoldjljfbeaa
open Go.RowKit

theorem bit_low (r b : Nat) (hb : b < 2) : bit (r ^^^ b) = if (r % 2 + b) % 2 = 1 then r / 2 ^^^ 3988292384 else r / 2 := by
  have h1 : (r ^^^ b) % 2 = (r % 2 + b) % 2 := by
    have := Nat.xor_mod_two_pow (a := r) (b := b) (n := 1)
    rw [Nat.pow_one, Nat.mod_eq_of_lt hb] at this
    rw [this]
    rcases Nat.mod_two_eq_zero_or_one r with ha | ha <;> rcases Nat.lt_or_ge b 1 with h | h <;> rw [ha]
    · obtain rfl : b = 0 := by omega
      rfl
    · obtain rfl : b = 1 := by omega
      rfl
    · obtain rfl : b = 0 := by omega
      rfl
    · obtain rfl : b = 1 := by omega
      rfl
  have h2 : (r ^^^ b) / 2 = r / 2 := by
    have := Nat.shiftRight_xor_distrib (a := r) (b := b) (i := 1)
    simp only [Nat.shiftRight_eq_div_pow, Nat.pow_one] at this
    rw [this, Nat.div_eq_of_lt hb, Nat.xor_zero]
  unfold bit
  rw [h1, h2]

theorem low_bit (r y : Nat) (hr : r < 4294967296) (hy : y < 256) : bits BinOp.xor IntKind.u32 (bits BinOp.and IntKind.u32 (r : Int) 1) (bits BinOp.and IntKind.u32 ((y : Int) % 4294967296) 1) = (((r % 2 + y % 2) % 2 : Nat) : Int) := by
  have e1 : bits BinOp.and IntKind.u32 (r : Int) 1 = ((r &&& 1 : Nat) : Int) := u32_and_nat r 1 hr (by decide)
  have e2 : bits BinOp.and IntKind.u32 (y : Int) 1 = ((y &&& 1 : Nat) : Int) := u32_and_nat y 1 (by omega) (by decide)
  rw [Int.emod_eq_of_lt (by omega) (by omega), e1, e2, nat_mask1, nat_mask1]
  have e3 := u32_xor_nat (r % 2) (y % 2) (by omega) (by omega)
  rw [e3]
  rcases Nat.mod_two_eq_zero_or_one r with ha | ha <;> rcases Nat.mod_two_eq_zero_or_one y with hb | hb <;> rw [ha, hb] <;> rfl

theorem refS_lt {r : Nat} (hr : r < 4294967296) {xs : List Int} (hb : Bytes xs) (i : Nat) : refS r xs i < 4294967296 := by
  unfold refS
  have := byte_lt (bytes_get hb (i / 8))
  exact bitN_lt _ (xor_lt (crcStep_lt _ hr (bytes_take hb _)) (Nat.lt_of_le_of_lt (Nat.mod_le _ _) (by omega)))

set_option maxHeartbeats 1000000 in
theorem refSum_any (A : Option Addr) (n c s : Nat) (xs : List Int) (w : World) (hA : Cells w A (nums .u8 xs)) (hb : Bytes xs) (hn : n ≤ 140737488355328) (hl : xs.length = n) (hs : crcSum xs = s) :
    Calls Try.prog 83 #[.slice A n c] w fun e w' => e = .returned (.int .u32 s) ∧ w = w' := by
  have HS := Hidd.mk hs
  have HL := Hidd.mk hl
  clear hs
  go_enter Try.func83, Try.ntmps83
  go_wp2
  go_loop [3, 4] (fun v3 v4 => ∃ i : Nat, i ≤ 8 * n ∧ v4 = .int .i64 i ∧ v3 = .int .u32 (refS 4294967295 xs i : Nat)) (fun _ v4 => 8 * n - (intOf v4).toNat)
  case atStart => exact ⟨0, Nat.zero_le _, rfl, by rw [refS_zero]; rfl⟩
  case round =>
    obtain ⟨i, hi, rfl, rfl⟩ := hrel
    by_cases hlt : i < 8 * n
    · obtain ⟨ad, hAd, hc⟩ := hA.at (i / 8) (by omega)
      obtain ⟨x, hx1, hx2⟩ := getD_bytes hb (i / 8)
      rw [hx1] at hc
      have hsn := refS_succ 4294967295 xs i hb (by omega)
      subst hAd
      have hr := refS_lt (r := 4294967295) (by decide) hb i
      unfold bitAt at hsn
      rw [hx1, Int.toNat_natCast] at hsn
      generalize refS 4294967295 xs i = r at *
      have hy8 : x / 2 ^ (i % 8) < 256 := Nat.lt_of_le_of_lt (Nat.div_le_self _ _) hx2
      have hlow := low_bit r (x / 2 ^ (i % 8)) hr hy8
      have hpc : ((x / 2 ^ (i % 8) : Nat) : Int) = (x : Int) / 2 ^ (i % 8) := by rw [Int.natCast_ediv, Int.natCast_pow]; rfl
      rw [hpc] at hlow
      rw [bit_low r _ (Nat.mod_lt _ (by decide))] at hsn
      have hy : bits BinOp.xor IntKind.u32 ((r : Int) / 2) 3988292384 = ((r / 2 ^^^ 3988292384 : Nat) : Int) := u32_xor_nat (r / 2) 3988292384 (by omega) (by decide)
      clear hx1 hpc hy8
      by_cases h2 : (r % 2 + x / 2 ^ (i % 8) % 2) % 2 = 1
      · rw [if_pos h2] at hsn
        rw [h2] at hlow
        replace hlow : _ = (1 : Int) := hlow
        have HSN := Hidd.mk hsn
        generalize r / 2 ^^^ 3988292384 = y at *
        clear hsn h2
        go_wp2
        go_round
        case rel => exact ⟨i + 1, by omega, by go_num, by rw [HSN.out]⟩
        case measure => simp [intOf]; omega
      · rw [if_neg h2] at hsn
        have h3 : (r % 2 + x / 2 ^ (i % 8) % 2) % 2 = 0 := by omega
        rw [h3] at hlow
        replace hlow : _ = (0 : Int) := hlow
        have HSN := Hidd.mk hsn
        clear hsn h2 h3
        go_wp2
        go_round
        case rel => exact ⟨i + 1, by omega, by go_num, by rw [HSN.out]; simp⟩
        case measure => simp [intOf]; omega
    · obtain rfl : i = 8 * n := by omega
      have hr := refS_lt (r := 4294967295) (by decide) hb (8 * n)
      have he := refS_end 4294967295 xs
      rw [HL.out] at he
      have hx : bits BinOp.xor IntKind.u32 IntKind.u32.max ((refS 4294967295 xs (8 * n) : Nat) : Int) = ((4294967295 ^^^ refS 4294967295 xs (8 * n) : Nat) : Int) := u32_xor_nat 4294967295 _ (by decide) hr
      have HE := Hidd.mk (show 4294967295 ^^^ refS 4294967295 xs (8 * n) = s by rw [he]; exact HS.out)
      generalize 4294967295 ^^^ refS 4294967295 xs (8 * n) = y at *
      generalize refS 4294967295 xs (8 * n) = r at *
      clear he
      go_wp2
      go_ret
      exact ⟨by rw [← HE.out]; rfl, rfl⟩

/-- Where the reference's Seal stands: so many of the four bytes lie behind. -/
def SealAt (B n s : Nat) (xs : List Int) (v4 v5 : Value) (wr : World) : Prop :=
  (v5 = .int .i64 0 ∧ wr.ownsRow B 5 1 v4 n (nums .u8 xs)) ∨
  (v5 = .int .i64 1 ∧ wr.ownsRow B 5 1 v4 (n + 1) (nums .u8 (xs ++ [(s : Int) % 256]))) ∨
  (v5 = .int .i64 2 ∧ wr.ownsRow B 5 1 v4 (n + 2) (nums .u8 (xs ++ [(s : Int) % 256, (s : Int) / 256 % 256]))) ∨
  (v5 = .int .i64 3 ∧ wr.ownsRow B 5 1 v4 (n + 3) (nums .u8 (xs ++ [(s : Int) % 256, (s : Int) / 256 % 256, (s : Int) / 65536 % 256]))) ∨
  (v5 = .int .i64 4 ∧ wr.ownsRow B 5 1 v4 (n + 4) (nums .u8 (xs ++ le4 s)))


set_option maxHeartbeats 2000000 in
theorem refSeal_any (A : Option Addr) (n c : Nat) (xs : List Int) (w : World) (hA : Cells w A (nums .u8 xs)) (hb : Bytes xs) (hn : n ≤ 140737488355000) (hl : xs.length = n) :
    Calls Try.prog 64 #[.slice A n c] w fun e w' => ∃ v, e = .returned v ∧ w'.ownsRow w.heap.size 5 1 v (n + 4) (nums .u8 (crcSeal xs)) ∧ Below w.heap.size w w' := by
  have HA := Hidd.mk hA
  have HB := Hidd.mk hb
  have HL := Hidd.mk hl
  obtain ⟨s, hss⟩ : ∃ s, crcSum xs = s := ⟨_, rfl⟩
  have HS := Hidd.mk hss
  have HX := Hidd.mk (show crcSeal xs = xs ++ le4 s by rw [crcSeal, hss])
  clear hA hb hss hl
  have hown0 := World.ownsRow_lit (base := w.heap.size) (e := 5) (size := 1) w #[] 0 (Nat.le_refl _) (Nat.zero_le _) rfl
  have hb0 := below_alloc (Below.refl w.heap.size w) (.cells #[] 5)
  go_enter Try.func64, Try.ntmps64
  go_wp2_with (first | (go_at_call 83; refine (refSum_any A _ c s xs _ HA.out HB.out (by omega) HL.out HS.out).mono ?_; rintro e w' ⟨rfl, rfl⟩) | (at_builtin; refine app_bytes rfl (.tmp 8) (.tmp 9) rfl w.heap.size (.slice (some ⟨w.heap.size, 0, none⟩) 0 0) 0 [] rfl hown0 A n c xs rfl HL.out (HA.out.alloc _) (by omega) (by simp) ?_; intro v1 w1 hown1 hg1 hb1; replace hb1 := hb0.trans hb1; replace hown1 := Hidd.mk hown1; clear hown0 hb0 hg1))
  go_loopw [4, 5] (fun v4 v5 wr => ∃ x, x = v4 ∧ SealAt w.heap.size n s xs x v5 wr ∧ Below w.heap.size w wr) (fun _ v5 _ => 4 - (intOf v5).toNat)
  case atStart => exact ⟨_, rfl, .inl ⟨rfl, by simpa using hown1.out⟩, hb1⟩
  case round =>
    obtain ⟨x, rfl, hrel, hb⟩ := hrel
    clear hb1 hown1
    rcases hrel with ⟨rfl, ho⟩ | ⟨rfl, ho⟩ | ⟨rfl, ho⟩ | ⟨rfl, ho⟩ | ⟨rfl, ho⟩
    · replace ho := Hidd.mk ho
      go_wp2_with (at_builtin; refine app_bytes rfl (.tmp 15) (.tmp 21) rfl w.heap.size x _ _ rfl (ho.out.alloc _) (some ⟨wr.heap.size, 0, none⟩) 1 1 [(s : Int) % 256] rfl rfl (Cells.new _ _ _ _ rfl) (by omega) (by have := hb.size; simp; omega) ?_; intro v1 w1 hown1 hg1 hb1; replace hb1 := (below_alloc hb _).trans hb1; replace hown1 := Hidd.mk hown1)
      exact ⟨⟨_, rfl, .inr (.inl ⟨rfl, by simpa using hown1.out⟩), hb1⟩, by simp [intOf]⟩
    · replace ho := Hidd.mk ho
      go_wp2_with (at_builtin; refine app_bytes rfl (.tmp 15) (.tmp 21) rfl w.heap.size x _ _ rfl (ho.out.alloc _) (some ⟨wr.heap.size, 0, none⟩) 1 1 [(s : Int) / 256 % 256] rfl rfl (Cells.new _ _ _ _ rfl) (by omega) (by have := hb.size; simp; omega) ?_; intro v1 w1 hown1 hg1 hb1; replace hb1 := (below_alloc hb _).trans hb1; replace hown1 := Hidd.mk hown1)
      exact ⟨⟨_, rfl, .inr (.inr (.inl ⟨rfl, by simpa using hown1.out⟩)), hb1⟩, by simp [intOf]⟩
    · replace ho := Hidd.mk ho
      go_wp2_with (at_builtin; refine app_bytes rfl (.tmp 15) (.tmp 21) rfl w.heap.size x _ _ rfl (ho.out.alloc _) (some ⟨wr.heap.size, 0, none⟩) 1 1 [(s : Int) / 65536 % 256] rfl rfl (Cells.new _ _ _ _ rfl) (by omega) (by have := hb.size; simp; omega) ?_; intro v1 w1 hown1 hg1 hb1; replace hb1 := (below_alloc hb _).trans hb1; replace hown1 := Hidd.mk hown1)
      exact ⟨⟨_, rfl, .inr (.inr (.inr (.inl ⟨rfl, by simpa using hown1.out⟩))), hb1⟩, by simp [intOf]⟩
    · replace ho := Hidd.mk ho
      go_wp2_with (at_builtin; refine app_bytes rfl (.tmp 15) (.tmp 21) rfl w.heap.size x _ _ rfl (ho.out.alloc _) (some ⟨wr.heap.size, 0, none⟩) 1 1 [(s : Int) / 16777216 % 256] rfl rfl (Cells.new _ _ _ _ rfl) (by omega) (by have := hb.size; simp; omega) ?_; intro v1 w1 hown1 hg1 hb1; replace hb1 := (below_alloc hb _).trans hb1; replace hown1 := Hidd.mk hown1)
      exact ⟨⟨_, rfl, .inr (.inr (.inr (.inr ⟨rfl, by simpa [le4] using hown1.out⟩))), hb1⟩, by simp [intOf]⟩
    · replace ho := Hidd.mk ho
      go_wp2
      go_ret
      exact ⟨_, rfl, by rw [HX.out]; exact ho.out, hb⟩

end Go.Proofs.Ytcamoldjljfbeaa
