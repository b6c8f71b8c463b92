/- The check of bytes, bit by bit of the whole: the same register; turned bits side by side are seen. -/
import Derived.Test.YtcamoldjljfbeaaCrcPl
namespace Go.Proofs.Ytcamoldjljfbeaa

/-- Bit k of bytes, counted from each byte's lowest on. -/
def bitAt (xs : List Int) (i : Nat) : Nat := (xs.getD (i / 8) 0).toNat / 2 ^ (i % 8) % 2
/-- The register behind the first i bits. -/
def refS (r : Nat) (xs : List Int) (i : Nat) : Nat := bitN (i % 8) (crcStep r (xs.take (i / 8)) ^^^ (xs.getD (i / 8) 0).toNat % 2 ^ (i % 8))

theorem xor_split (x t : Nat) : x % 2 ^ t ^^^ x / 2 ^ t % 2 * 2 ^ t = x % 2 ^ (t + 1) := by
  refine Nat.eq_of_testBit_eq fun i => ?_
  rw [Nat.testBit_xor, Nat.testBit_mod_two_pow, Nat.testBit_mod_two_pow, Nat.mul_comm, Nat.testBit_two_pow_mul, show x / 2 ^ t % 2 = x / 2 ^ t % 2 ^ 1 from rfl, Nat.testBit_mod_two_pow, Nat.testBit_div_two_pow]
  rcases Nat.lt_trichotomy i t with h | h | h
  · simp [h, show ¬ t ≤ i by omega, show i < t + 1 by omega]
  · subst h
    rw [decide_eq_false (by omega), decide_eq_true (by omega), decide_eq_true (by omega), decide_eq_true (by omega)]
    simp
  · rw [decide_eq_false (by omega), decide_eq_true (by omega), decide_eq_false (by omega), decide_eq_false (by omega)]
    simp

theorem refS_zero (r : Nat) (xs : List Int) : refS r xs 0 = r := by
  unfold refS
  rw [show 0 % 8 = 0 from rfl, show 0 / 8 = 0 from rfl, List.take_zero, crcStep_nil, Nat.pow_zero, Nat.mod_one, Nat.xor_zero, bitN]

theorem refS_succ (r : Nat) (xs : List Int) (i : Nat) (hb : Bytes xs) (hi : i < 8 * xs.length) : refS r xs (i + 1) = bit (refS r xs i ^^^ bitAt xs i) := by
  unfold refS bitAt
  have hq : i / 8 < xs.length := by omega
  have hs := crcStep_take r xs (i / 8) hq
  have hx8 : (xs.getD (i / 8) 0).toNat < 256 := byte_lt (bytes_get hb (i / 8))
  have step0 : ∀ q x : Nat, bit (bitN (i % 8) (q ^^^ x % 2 ^ (i % 8)) ^^^ x / 2 ^ (i % 8) % 2) = bitN (i % 8 + 1) (q ^^^ x % 2 ^ (i % 8 + 1)) := fun q x => by
    rw [bitN]
    congr 1
    rw [← xor_split x (i % 8), ← Nat.xor_assoc, bitN_xor (i % 8) (q ^^^ x % 2 ^ (i % 8)), bitN_shift]
  rw [step0]
  by_cases h7 : i % 8 = 7
  · have e1 : (i + 1) / 8 = i / 8 + 1 := by omega
    have e2 : (i + 1) % 8 = 0 := by omega
    rw [e1, e2, hs, h7, Nat.pow_zero, Nat.mod_one, Nat.xor_zero, Nat.mod_eq_of_lt (show (xs.getD (i / 8) 0).toNat < 2 ^ (7 + 1) from hx8)]
    rfl
  · have e1 : (i + 1) / 8 = i / 8 := by omega
    have e2 : (i + 1) % 8 = i % 8 + 1 := by omega
    rw [e1, e2]

theorem refS_end (r : Nat) (xs : List Int) : refS r xs (8 * xs.length) = crcStep r xs := by
  unfold refS
  rw [Nat.mul_mod_right, Nat.mul_div_cancel_left _ (by decide), List.take_length, Nat.pow_zero, Nat.mod_one, Nat.xor_zero, bitN]

end Go.Proofs.Ytcamoldjljfbeaa
