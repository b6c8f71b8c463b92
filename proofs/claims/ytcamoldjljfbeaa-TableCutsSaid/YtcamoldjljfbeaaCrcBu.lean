/- On plain lists: bits that are turned within 32 side by side are seen by the check. -/
import Derived.Test.YtcamoldjljfbeaaCrcPm
namespace Go.Proofs.Ytcamoldjljfbeaa

/-- Bit j of bytes as a truth. -/
def btAt (xs : List Int) (j : Nat) : Bool := (xs.getD (j / 8) 0).toNat.testBit (j % 8)
theorem bitAt_toNat (xs : List Int) (j : Nat) : bitAt xs j = (btAt xs j).toNat := by
  unfold bitAt btAt
  rw [Nat.toNat_testBit]

theorem split_bits (a b : Nat) (p c : Bool) : a ^^^ (p ^^ c).toNat ^^^ (b ^^^ p.toNat) = (a ^^^ b) ^^^ c.toNat := by
  refine Nat.eq_of_testBit_eq fun j => ?_
  cases p <;> cases c <;> simp [Nat.testBit_xor] <;> cases a.testBit j <;> cases b.testBit j <;> cases Nat.testBit 1 j <;> rfl

/-- How two registers part whose bits part by a word from a place on. -/
theorem part_reg (xs ys : List Int) (N at_ word : Nat) (hx : Bytes xs) (hy : Bytes ys) (hlx : xs.length = N) (hly : ys.length = N)
    (hd : ∀ j, j < 8 * N → btAt ys j = (btAt xs j ^^ (decide (at_ ≤ j ∧ j < at_ + 32) && word.testBit (j - at_)))) :
    ∀ i, i ≤ 8 * N → refS 4294967295 ys i ^^^ refS 4294967295 xs i = if i ≤ at_ then 0 else bitN (i - at_) (word % 2 ^ min 32 (i - at_)) := by
  intro i
  induction i with
  | zero => intro _; rw [refS_zero, refS_zero, Nat.xor_self, if_pos (Nat.zero_le _)]
  | succ i ih =>
    intro hi
    have ih := ih (by omega)
    rw [refS_succ _ _ _ hy (by omega), refS_succ _ _ _ hx (by omega), ← bit_xor]
    have e : refS 4294967295 ys i ^^^ bitAt ys i ^^^ (refS 4294967295 xs i ^^^ bitAt xs i) = (refS 4294967295 ys i ^^^ refS 4294967295 xs i) ^^^ (decide (at_ ≤ i ∧ i < at_ + 32) && word.testBit (i - at_)).toNat := by
      rw [bitAt_toNat, bitAt_toNat, hd i (by omega)]
      exact split_bits _ _ _ _
    rw [e, ih]
    by_cases h1 : i < at_
    · rw [if_pos (by omega), if_pos (by omega), decide_eq_false (by omega), Bool.false_and]
      rfl
    · rw [if_neg (show ¬ i + 1 ≤ at_ by omega)]
      have e0 : (if i ≤ at_ then 0 else bitN (i - at_) (word % 2 ^ min 32 (i - at_))) = bitN (i - at_) (word % 2 ^ min 32 (i - at_)) := by
        by_cases h2 : i ≤ at_
        · rw [if_pos h2, show i - at_ = 0 by omega, Nat.min_zero, Nat.pow_zero, Nat.mod_one, bitN]
        · rw [if_neg h2]
      rw [e0]
      obtain ⟨j, hj⟩ : ∃ j, i - at_ = j := ⟨_, rfl⟩
      rw [hj, show i + 1 - at_ = j + 1 by omega, bitN]
      congr 1
      by_cases h3 : j < 32
      · rw [decide_eq_true (by omega), Bool.true_and, Nat.toNat_testBit, Nat.min_eq_right (by omega), Nat.min_eq_right (by omega), ← xor_split, bitN_xor, bitN_shift]
      · rw [decide_eq_false (by omega), Bool.false_and, Nat.min_eq_left (by omega), Nat.min_eq_left (by omega)]
        exact Nat.xor_zero _

/-- The whole: the turned bytes fit just if no bit was turned. -/
theorem burst_law (xs ys : List Int) (N at_ word : Nat) (hx : Bytes xs) (hy : Bytes ys) (hlx : xs.length = N) (hly : ys.length = N) (ha : at_ < 8 * N) (hw : word < 4294967296)
    (hres : crcStep 4294967295 xs = bitN 32 4294967295)
    (hd : ∀ j, j < 8 * N → btAt ys j = (btAt xs j ^^ (decide (at_ ≤ j ∧ j < at_ + 32) && word.testBit (j - at_)))) :
    crcStep 4294967295 ys = bitN 32 4294967295 ↔ word % 2 ^ min 32 (8 * N - at_) = 0 := by
  have h := part_reg xs ys N at_ word hx hy hlx hly hd (8 * N) (Nat.le_refl _)
  rw [if_neg (by omega)] at h
  have e1 := refS_end 4294967295 ys
  have e2 := refS_end 4294967295 xs
  rw [hly] at e1
  rw [hlx] at e2
  rw [e1, e2, hres] at h
  have hlt : word % 2 ^ min 32 (8 * N - at_) < 4294967296 := Nat.lt_of_le_of_lt (Nat.mod_le _ _) hw
  constructor
  · intro hh
    rw [hh, Nat.xor_self] at h
    rcases Nat.eq_zero_or_pos (word % 2 ^ min 32 (8 * N - at_)) with h0 | h0
    · exact h0
    · exact absurd h.symm (bitN_ne _ hlt (by omega))
  · intro hh
    rw [hh, bitN_zero] at h
    exact xor_zero_eq h

end Go.Proofs.Ytcamoldjljfbeaa
