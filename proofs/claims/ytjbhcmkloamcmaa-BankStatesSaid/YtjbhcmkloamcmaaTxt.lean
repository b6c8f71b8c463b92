/- Contracts of the functions that write errors as texts: Number, E, At of the reference of layer 1. -/
import Derived.Test.YtjbhcmkloamcmaaProg
import Derived.Test.YtjbhcmkloamcmaaBase
namespace Go.Proofs.Ytjbhcmkloamcmaa
open Go.RowKit

/-- One digit. -/
def dig (d : Nat) : ByteArray := strOfNums [(48 : Int) + d]
/-- A number below 10^k, k > 0, in decimal. -/
def decF : Nat → Nat → ByteArray
  | 0, _ => ⟨#[]⟩
  | k + 1, m => if m < 10 then dig m else decF k (m / 10) ++ dig (m % 10)
/-- A whole number in decimal. -/
def numB (n : Int) : ByteArray := if n < 0 then ⟨#[45]⟩ ++ decF 20 (-n).toNat else decF 20 n.toNat

theorem decF_size (k : Nat) : ∀ m, (decF k m).size ≤ k := by
  induction k with
  | zero => intro m; exact Nat.le_refl _
  | succ k ih =>
    intro m
    unfold decF
    split
    · show 1 ≤ k + 1; omega
    · rw [ByteArray.size_append]
      have := ih (m / 10)
      have h1 : (dig (m % 10)).size = 1 := rfl
      omega

theorem numB_size (n : Int) : (numB n).size ≤ 21 := by
  unfold numB
  split
  · rw [ByteArray.size_append]
    have h1 : (⟨#[45]⟩ : ByteArray).size = 1 := rfl
    have := decF_size 20 (-n).toNat
    omega
  · have := decF_size 20 n.toNat
    omega

set_option maxHeartbeats 400000 in
theorem number_nat (n : Int) (w : World) (h0 : 0 ≤ n) (h1 : n ≤ 9223372036854775807) :
    Calls Try.prog 42 #[.int .i64 n] w fun e w' => e = .returned (.string (decF 20 n.toNat)) ∧ Below w.heap.size w w' := by
  have hn0 : (n == -9223372036854775808) = false := by simp; omega
  have hn1 : decide (n < 0) = false := by simp; omega
  go_enter Try.func42, Try.ntmps42
  go_wp2
  go_loopw [0, 3] (fun v0 v3 wr => ∃ (k m : Nat) (s : ByteArray), v0 = .int .i64 m ∧ v3 = .string s ∧ m < 10 ^ (k + 1) ∧ m ≤ 9223372036854775807 ∧ s.size + k ≤ 20 ∧ Hid (decF (k + 1) m ++ s = decF 20 n.toNat) ∧ Below w.heap.size w wr) (fun v0 _ _ => (intOf v0).toNat)
  case atStart =>
    refine ⟨19, n.toNat, ⟨#[]⟩, by simp; omega, rfl, by omega, by omega, (show 0 + 19 ≤ 20 by decide), ?_, Below.refl _ _⟩
    exact ByteArray.append_empty ..
  case round =>
    obtain ⟨k, m, s, rfl, rfl, hm, hm2, hs, hd, hb⟩ := hrel
    have hcv := conv_str (P := Try.prog) (w := wr.alloc (.cells #[.int .u8 (48 + (m : Int) % 10)] 5)) (src := 22) (dst := 9) (e := 5) (A := some ⟨wr.heap.size, 0, none⟩) (c := 1) (xs := [48 + (m : Int) % 10]) Try.underlying22 Try.underlying5 Try.underlying9 (Cells.of_block (heap_alloc_new wr _))
    simp only [List.length_cons, List.length_nil, Nat.zero_add] at hcv
    have hsz : (strOfNums [48 + (m : Int) % 10]).size = 1 := rfl
    by_cases h10 : m < 10
    · have h11 : ((m : Int) / 10 == 0) = true := by simp; omega
      go_wp2
      go_ret
      refine ⟨ret_str ?_, hb.alloc hb.size _⟩
      rw [← hd.out, decF, if_pos h10, dig, show (m : Int) % 10 = m from by omega]
    · have h11 : ((m : Int) / 10 == 0) = false := by simp; omega
      obtain ⟨k, rfl⟩ : ∃ k', k = k' + 1 := by
        rcases k with _ | k
        · omega
        · exact ⟨k, rfl⟩
      go_wp2
      go_roundw
      case rel =>
        refine ⟨k, m / 10, strOfNums [48 + (m : Int) % 10] ++ s, by simp, rfl, ?_, by omega, ?_, ?_, hb.alloc hb.size _⟩
        · rw [Nat.pow_succ] at hm
          omega
        · rw [ByteArray.size_append, hsz]
          omega
        · show _ = _
          rw [← hd.out, show decF (k + 1 + 1) m = decF (k + 1) (m / 10) ++ dig (m % 10) from by rw [decF, if_neg h10], ByteArray.append_assoc]
          rfl
      case measure => simp [intOf]; omega

/-- 'Number' of whatever number but the least. -/
theorem number_any (n : Int) (w : World) (h0 : -9223372036854775808 < n) (h1 : n ≤ 9223372036854775807) :
    Calls Try.prog 42 #[.int .i64 n] w fun e w' => e = .returned (.string (numB n)) ∧ Below w.heap.size w w' := by
  by_cases h : n < 0
  · have hn0 : (n == -9223372036854775808) = false := by simp; omega
    have hs := decF_size 20 (-n).toNat
    have hb1 : (⟨#[45]⟩ : ByteArray).size = 1 := rfl
    have e : numB n = ⟨#[45]⟩ ++ decF 20 (-n).toNat := by rw [numB, if_pos h]
    rw [e]
    clear e
    go_enter Try.func42, Try.ntmps42
    go_wp2_with (go_at_call 42; refine (number_nat (-n) _ (by omega) (by omega)).mono ?_; rintro e w' ⟨rfl, hb⟩)
    go_ret
    exact ⟨rfl, hb⟩
  · rw [numB, if_neg h]
    exact number_nat n w (by omega) h1

/-- An error's number as a text: a fault's with its place. -/
def atB (c a : Int) : ByteArray := numB c ++ ⟨#[64]⟩ ++ numB (if a < 0 then -1 else a)

theorem atB_size (c a : Int) : (atB c a).size ≤ 43 := by
  rw [atB, ByteArray.size_append, ByteArray.size_append]
  have h1 : (⟨#[64]⟩ : ByteArray).size = 1 := rfl
  have := numB_size c
  have := numB_size (if a < 0 then -1 else a)
  omega

theorem e_any (n : Int) (w : World) (h0 : -9223372036854775808 < n) (h1 : n ≤ 9223372036854775807) :
    Calls Try.prog 28 #[.int .i64 n] w fun e w' => e = .returned (.string (numB n)) ∧ Below w.heap.size w w' := by
  go_enter Try.func28, Try.ntmps28
  go_wp2_with (go_at_call 42; refine (number_any n _ h0 h1).mono ?_; rintro e w' ⟨rfl, hb⟩)
  go_ret
  exact ⟨rfl, hb⟩

theorem at_any (c a : Int) (w : World) (h0 : -9223372036854775808 < c) (h1 : c ≤ 9223372036854775807) (h2 : -9223372036854775808 ≤ a) (h3 : a ≤ 9223372036854775807) :
    Calls Try.prog 22 #[.int .i64 c, .int .i64 a] w fun e w' => e = .returned (.string (atB c a)) ∧ Below w.heap.size w w' := by
  have s1 := numB_size c
  have sb : (⟨#[64]⟩ : ByteArray).size = 1 := rfl
  have s3 : (numB c ++ ⟨#[64]⟩).size ≤ 22 := by rw [ByteArray.size_append]; omega
  by_cases h : a < 0
  · rw [atB, if_pos h]
    have s2 := numB_size (-1)
    go_enter Try.func22, Try.ntmps22
    go_wp2_with (go_at_call 42; refine (number_any _ _ (by omega) (by omega)).mono ?_; rintro e w1 ⟨rfl, hb⟩)
    go_ret
    exact ⟨rfl, below_then ‹_› hb⟩
  · rw [atB, if_neg h]
    have s2 := numB_size a
    go_enter Try.func22, Try.ntmps22
    go_wp2_with (go_at_call 42; refine (number_any _ _ (by omega) (by omega)).mono ?_; rintro e w1 ⟨rfl, hb⟩)
    go_ret
    exact ⟨rfl, below_then ‹_› hb⟩

end Go.Proofs.Ytjbhcmkloamcmaa
