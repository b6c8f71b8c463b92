/- Seal and Open of crc, what they answer written out as slices. -/
import Derived.Test.YtjbhcmkloamcmaaCrc
import Derived.Test.YtjbhcmkloamcmaaRes
namespace Go.Proofs.Ytjbhcmkloamcmaa
open Go.RowKit

/-- 'Seal' and 'Open' once more, what they answer written out as slices. -/
theorem seal_at (A : Option Addr) (n c : Nat) (xs : List Int) (w : World) (hA : Cells w A (nums .u8 xs)) (hb : Bytes xs) (hn : n ≤ 140737488355000) (hl : xs.length = n) :
    Calls Try.prog 35 #[.slice A n c] w fun e w' => ∃ A' c', e = .returned (.slice A' (n + 4) c') ∧ n + 4 ≤ c' ∧ w'.ownsRow w.heap.size 5 1 (.slice A' (n + 4) c') (n + 4) (nums .u8 (crcSeal xs)) ∧ Cells w' A' (nums .u8 (crcSeal xs)) ∧ Below w.heap.size w w' := by
  subst hl
  refine (seal_any A c xs w hA hb hn).mono ?_
  rintro e w' ⟨v, rfl, h1, h2⟩
  obtain ⟨A', c', rfl, h3, _, h4⟩ := Cells.of_own h1
  exact ⟨A', c', rfl, h3, h1, h4, h2⟩

theorem open_yes (A : Option Addr) (c n : Nat) (xs : List Int) (w : World) (hA : Cells w A (nums .u8 xs)) (hb : Bytes xs) (hn : n ≤ 140737488355000) (hl : xs.length = n + 4) (hc : n + 4 ≤ c) (hf : fits xs = true) :
    Calls Try.prog 29 #[.slice A (n + 4) c] w fun e w' => ∃ A' c', e = .returned (.tuple #[.slice A' n c', .bool true]) ∧ n ≤ c' ∧ w'.ownsRow w.heap.size 5 1 (.slice A' n c') n (nums .u8 (xs.take n)) ∧ Cells w' A' (nums .u8 (xs.take n)) ∧ Below w.heap.size w w' := by
  refine (open_long A c n xs w hA hb hn hl hc).mono ?_
  rintro e w' ⟨h, _⟩
  obtain ⟨v, rfl, h1, h2⟩ := h hf
  obtain ⟨A', c', rfl, h3, _, h4⟩ := Cells.of_own h1
  exact ⟨A', c', rfl, h3, h1, h4, h2⟩

theorem open_no (A : Option Addr) (c n : Nat) (xs : List Int) (w : World) (hA : Cells w A (nums .u8 xs)) (hb : Bytes xs) (hn : n ≤ 140737488355000) (hl : xs.length = n) (hc : n ≤ c) (hf : fits xs = false) :
    Calls Try.prog 29 #[.slice A n c] w fun e w' => e = .returned (.tuple #[.slice none 0 0, .bool false]) ∧ Below w.heap.size w w' := by
  by_cases h : n < 4
  · exact (open_short A c n w h).mono fun e w' ⟨h1, h2⟩ => ⟨h1, by subst h2; exact Below.refl _ _⟩
  · obtain ⟨m, rfl⟩ : ∃ m, n = m + 4 := ⟨n - 4, by omega⟩
    exact (open_long A c m xs w hA hb (by omega) hl hc).mono fun e w' ⟨_, h2⟩ => h2 hf

theorem conv_at {w : World} {A : Option Addr} {n c : Nat} {xs : List Int} (h : Cells w A (nums .u8 xs)) (hl : xs.length = n) : (convert 22 9 (.slice A n c)).run Try.prog w = .ok (.string (strOfNums xs)) w := by
  subst hl
  exact conv_str Try.underlying22 Try.underlying5 Try.underlying9 h

theorem num4_le4 (n : Nat) (hn : n < 4294967296) : num4 (le4 n) = n := by
  show ((n % 256 : Nat) : Int).toNat + ((n / 256 % 256 : Nat) : Int).toNat * 256 + ((n / 65536 % 256 : Nat) : Int).toNat * 65536 + ((n / 16777216 % 256 : Nat) : Int).toNat * 16777216 = n
  simp only [Int.toNat_natCast]
  omega

theorem seal_take (xs : List Int) : (crcSeal xs).take xs.length = xs := by simp [crcSeal]
theorem fits_seal {xs : List Int} (h : Bytes xs) : fits (crcSeal xs) = true := by
  rw [fits, crcSeal_length, show xs.length + 4 - 4 = xs.length by omega, seal_take, decide_eq_true (by omega), Bool.true_and, show (crcSeal xs).drop xs.length = le4 (crcSum xs) from by simp [crcSeal], num4_le4 _ (crcSum_lt h)]
  simp

theorem rests (xs : List Int) (h : Bytes xs) : crcStep 4294967295 (crcSeal xs) = bitN 32 4294967295 := by
  rw [crcSeal, crcStep_append, crcStep_le4 _ _ (crcSum_lt h), crcSum]
  congr 1
  rw [Nat.xor_comm 4294967295, ← Nat.xor_assoc, Nat.xor_self, Nat.zero_xor]

theorem rests_sum (xs : List Int) (h : Bytes xs) : crcSum (crcSeal xs) = 558161692 := by
  rw [crcSum, rests xs h]
  decide +kernel

end Go.Proofs.Ytjbhcmkloamcmaa
