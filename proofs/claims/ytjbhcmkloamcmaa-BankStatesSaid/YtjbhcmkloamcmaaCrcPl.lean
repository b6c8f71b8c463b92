/- The check of bytes on plain numbers: a register that is shifted bit by bit; that it is linear, and can be turned back. -/
import Derived.Laws.BitsAllLaws
namespace Go.Proofs.Ytjbhcmkloamcmaa

/-- One bit further. -/
def bit (r : Nat) : Nat := if r % 2 = 1 then r / 2 ^^^ 3988292384 else r / 2
def bitN : Nat → Nat → Nat
  | 0, r => r
  | n + 1, r => bit (bitN n r)
/-- The register behind bytes. -/
def crcStep (r : Nat) (xs : List Int) : Nat := xs.foldl (fun r x => bitN 8 (r ^^^ x.toNat)) r
/-- The check of bytes. -/
def crcSum (xs : List Int) : Nat := 4294967295 ^^^ crcStep 4294967295 xs
/-- Each is a byte. -/
def Bytes (xs : List Int) : Prop := ∀ x ∈ xs, 0 ≤ x ∧ x ≤ 255
/-- A number's four bytes, the lowest first. -/
def le4 (n : Nat) : List Int := [(n % 256 : Nat), (n / 256 % 256 : Nat), (n / 65536 % 256 : Nat), (n / 16777216 % 256 : Nat)]
/-- Bytes, and behind them their check. -/
def crcSeal (xs : List Int) : List Int := xs ++ le4 (crcSum xs)

theorem xor_lt {a b : Nat} (ha : a < 4294967296) (hb : b < 4294967296) : a ^^^ b < 4294967296 := Nat.xor_lt_two_pow (n := 32) ha hb
theorem bit_lt {r : Nat} (h : r < 4294967296) : bit r < 4294967296 := by
  unfold bit
  split
  · exact xor_lt (by omega) (by decide)
  · omega
theorem bitN_lt (n : Nat) {r : Nat} (h : r < 4294967296) : bitN n r < 4294967296 := by
  induction n with
  | zero => exact h
  | succ n ih => exact bit_lt ih
theorem byte_lt {x : Int} (h : 0 ≤ x ∧ x ≤ 255) : x.toNat < 256 := by omega
theorem crcStep_cons (r : Nat) (x : Int) (xs : List Int) : crcStep r (x :: xs) = crcStep (bitN 8 (r ^^^ x.toNat)) xs := by
  unfold crcStep
  rw [List.foldl_cons]
theorem crcStep_nil (r : Nat) : crcStep r [] = r := by
  unfold crcStep
  rw [List.foldl_nil]
theorem crcStep_lt (xs : List Int) : ∀ {r : Nat}, r < 4294967296 → Bytes xs → crcStep r xs < 4294967296 := by
  induction xs with
  | nil => intro r h _; rw [crcStep_nil]; exact h
  | cons x xs ih =>
    intro r h hx
    rw [crcStep_cons]
    exact ih (bitN_lt 8 (xor_lt h (by have := byte_lt (hx x (List.mem_cons_self ..)); omega))) (fun y hy => hx y (List.mem_cons_of_mem _ hy))
theorem crcSum_lt {xs : List Int} (h : Bytes xs) : crcSum xs < 4294967296 := xor_lt (by decide) (crcStep_lt xs (by decide) h)
theorem crcStep_append (r : Nat) (xs ys : List Int) : crcStep r (xs ++ ys) = crcStep (crcStep r xs) ys := by simp [crcStep]
theorem crcStep_one (r : Nat) (x : Int) : crcStep r [x] = bitN 8 (r ^^^ x.toNat) := by rw [crcStep_cons, crcStep_nil]
theorem crcStep_take (r : Nat) (xs : List Int) (k : Nat) (hk : k < xs.length) : crcStep r (xs.take (k + 1)) = bitN 8 (crcStep r (xs.take k) ^^^ (xs.getD k 0).toNat) := by
  rw [List.take_add_one, crcStep_append, List.getElem?_eq_getElem hk, List.getD_eq_getElem?_getD, List.getElem?_eq_getElem hk, Option.toList_some, crcStep_one, Option.getD_some]

theorem bytes_take {xs : List Int} (h : Bytes xs) (n : Nat) : Bytes (xs.take n) := fun x hx => h x (List.mem_of_mem_take hx)
theorem bytes_drop {xs : List Int} (h : Bytes xs) (n : Nat) : Bytes (xs.drop n) := fun x hx => h x (List.mem_of_mem_drop hx)
theorem bytes_append {xs ys : List Int} (h : Bytes xs) (k : Bytes ys) : Bytes (xs ++ ys) := fun x hx => (List.mem_append.1 hx).elim (h x) (k x)
theorem bytes_get {xs : List Int} (h : Bytes xs) (k : Nat) : 0 ≤ xs.getD k 0 ∧ xs.getD k 0 ≤ 255 := by
  rw [List.getD_eq_getElem?_getD]
  rcases Nat.lt_or_ge k xs.length with hk | hk
  · rw [List.getElem?_eq_getElem hk]; exact h _ (List.getElem_mem hk)
  · rw [List.getElem?_eq_none hk]; exact ⟨Int.le_refl _, by decide⟩
theorem le4_bytes (n : Nat) : Bytes (le4 n) := by
  intro x hx
  simp only [le4, List.mem_cons, List.not_mem_nil, or_false] at hx
  omega
theorem crcSeal_bytes {xs : List Int} (h : Bytes xs) : Bytes (crcSeal xs) := bytes_append h (le4_bytes _)
theorem crcSeal_length (xs : List Int) : (crcSeal xs).length = xs.length + 4 := by simp [crcSeal, le4]

/-! ### linear -/
theorem bit_xor (a b : Nat) : bit (a ^^^ b) = bit a ^^^ bit b := by
  have h2 : (a ^^^ b) / 2 = a / 2 ^^^ b / 2 := by
    have := Nat.shiftRight_xor_distrib (a := a) (b := b) (i := 1)
    simpa [Nat.shiftRight_eq_div_pow] using this
  have h1 : (a ^^^ b) % 2 = (a % 2 + b % 2) % 2 := by
    have := Nat.xor_mod_two_pow (a := a) (b := b) (n := 1)
    rw [Nat.pow_one] at this
    rw [this]
    rcases Nat.mod_two_eq_zero_or_one a with ha | ha <;> rcases Nat.mod_two_eq_zero_or_one b with hb | hb <;> rw [ha, hb] <;> rfl
  unfold bit
  rw [h2, h1]
  rcases Nat.mod_two_eq_zero_or_one a with ha | ha <;> rcases Nat.mod_two_eq_zero_or_one b with hb | hb <;> rw [ha, hb] <;> simp <;>
    refine Nat.eq_of_testBit_eq fun i => ?_ <;> simp only [Nat.testBit_xor] <;>
    cases (a / 2).testBit i <;> cases (b / 2).testBit i <;> cases Nat.testBit 3988292384 i <;> rfl

theorem xor_zero_eq {a b : Nat} (h : a ^^^ b = 0) : a = b := by
  have h2 : a ^^^ b ^^^ b = b := by rw [h, Nat.zero_xor]
  rwa [Nat.xor_assoc, Nat.xor_self, Nat.xor_zero] at h2

theorem bitN_xor (n : Nat) (a b : Nat) : bitN n (a ^^^ b) = bitN n a ^^^ bitN n b := by
  induction n with
  | zero => rfl
  | succ n ih => rw [bitN, ih, bit_xor]; rfl

theorem bit_zero : bit 0 = 0 := rfl
theorem bitN_zero (n : Nat) : bitN n 0 = 0 := by
  induction n with
  | zero => rfl
  | succ n ih => rw [bitN, ih, bit_zero]
theorem bitN_add (m n r : Nat) : bitN (m + n) r = bitN m (bitN n r) := by
  induction m with
  | zero => rw [Nat.zero_add]; rfl
  | succ m ih => rw [Nat.succ_add, bitN, ih]; rfl

/-- A step can be turned back: the highest bit tells which way it went. -/
theorem bit_ne {r : Nat} (h : r < 4294967296) (h0 : r ≠ 0) : bit r ≠ 0 := by
  unfold bit
  split
  · intro e
    have hb : (r / 2 ^^^ 3988292384).testBit 31 = true := by
      rw [Nat.testBit_xor, Nat.testBit_lt_two_pow (show r / 2 < 2 ^ 31 by omega)]; decide
    rw [e] at hb
    simp at hb
  · omega
theorem bitN_ne (n : Nat) {r : Nat} (h : r < 4294967296) (h0 : r ≠ 0) : bitN n r ≠ 0 := by
  induction n with
  | zero => exact h0
  | succ n ih => exact bit_ne (bitN_lt n h) ih
theorem bitN_inj (n : Nat) {a b : Nat} (ha : a < 4294967296) (hb : b < 4294967296) (h : bitN n a = bitN n b) : a = b := by
  rcases Nat.decEq a b with e | e
  · exfalso
    have h1 : a ^^^ b ≠ 0 := fun h => e (xor_zero_eq h)
    have := bitN_ne n (xor_lt ha hb) h1
    rw [bitN_xor, h, Nat.xor_self] at this
    exact this rfl
  · exact e

/-- What lies above the lowest n bits is only moved. -/
theorem bitN_shift (n : Nat) : ∀ x, bitN n (x * 2 ^ n) = x := by
  induction n with
  | zero => intro x; rw [Nat.pow_zero, Nat.mul_one]; rfl
  | succ n ih =>
    intro x
    rw [bitN_add n 1, bitN, bitN]
    have : bit (x * 2 ^ (n + 1)) = x * 2 ^ n := by
      unfold bit
      rw [Nat.pow_succ, ← Nat.mul_assoc, Nat.mul_mod_left, if_neg (by decide), Nat.mul_div_cancel _ (by decide)]
    rw [this, ih]

/-- Three of one length: linear. -/
theorem crcStep_xor3 : ∀ (a b c : List Int) (r s t : Nat), a.length = b.length → b.length = c.length → Bytes a → Bytes b → Bytes c →
    crcStep (r ^^^ s ^^^ t) ((a.zip (b.zip c)).map fun p => ((p.1.toNat ^^^ p.2.1.toNat ^^^ p.2.2.toNat : Nat) : Int)) = crcStep r a ^^^ crcStep s b ^^^ crcStep t c
  | [], [], [], r, s, t, _, _, _, _, _ => by simp only [List.zip_nil_left, List.map_nil, crcStep_nil]
  | x :: a, y :: b, z :: c, r, s, t, h1, h2, ha, hb, hc => by
    simp only [List.zip_cons_cons, List.map_cons]
    rw [crcStep_cons, crcStep_cons, crcStep_cons, crcStep_cons, ← crcStep_xor3 a b c _ _ _ (by simpa using h1) (by simpa using h2) (fun p hp => ha p (List.mem_cons_of_mem _ hp)) (fun p hp => hb p (List.mem_cons_of_mem _ hp)) (fun p hp => hc p (List.mem_cons_of_mem _ hp)), ← bitN_xor, ← bitN_xor, Int.toNat_natCast]
    congr 2
    have h : ∀ i, (r ^^^ s ^^^ t ^^^ (x.toNat ^^^ y.toNat ^^^ z.toNat)).testBit i = (r ^^^ x.toNat ^^^ (s ^^^ y.toNat) ^^^ (t ^^^ z.toNat)).testBit i := fun i => by
      simp only [Nat.testBit_xor]
      cases r.testBit i <;> cases s.testBit i <;> cases t.testBit i <;> cases x.toNat.testBit i <;> cases y.toNat.testBit i <;> cases z.toNat.testBit i <;> rfl
    exact Nat.eq_of_testBit_eq h

/-- Four bytes, the lowest first, are taken in as the number that they are. -/
theorem crcStep_le4 (r n : Nat) (hn : n < 4294967296) : crcStep r (le4 n) = bitN 32 (r ^^^ n) := by
  have e : ∀ a b c d : Nat, crcStep r [(a : Int), (b : Int), (c : Int), (d : Int)] = bitN 8 (bitN 8 (bitN 8 (bitN 8 (r ^^^ a) ^^^ b) ^^^ c) ^^^ d) := fun a b c d => by
    simp only [crcStep_cons, crcStep_nil, Int.toNat_natCast]
  have s8 : ∀ x, bitN 8 (x * 256) = x := fun x => bitN_shift 8 x
  have hx : ∀ a b : Nat, a < 256 → a ^^^ b * 256 = a + b * 256 := fun a b ha => by
    rw [Nat.xor_comm, Nat.add_comm, Nat.mul_comm]
    refine Nat.eq_of_testBit_eq fun i => ?_
    rw [show 256 = 2 ^ 8 from rfl, Nat.testBit_xor, Nat.testBit_two_pow_mul_add b ha, Nat.testBit_two_pow_mul]
    by_cases hi : i < 8
    · rw [if_pos hi, decide_eq_false (by omega), Bool.false_and, Bool.false_xor]
    · rw [if_neg hi, decide_eq_true (by omega), Bool.true_and, Nat.testBit_lt_two_pow (show a < 2 ^ i from Nat.lt_of_lt_of_le ha (show 2 ^ 8 ≤ 2 ^ i from Nat.pow_le_pow_right (by omega) (by omega))), Bool.xor_false]
  have st : ∀ q a m : Nat, a < 256 → bitN 8 (q ^^^ a) ^^^ m = bitN 8 (q ^^^ (a + m * 256)) := fun q a m ha => by
    rw [← hx a m ha, ← Nat.xor_assoc, bitN_xor 8 (q ^^^ a), s8]
  rw [le4, e]
  rw [show n % 256 = n % 256 from rfl]
  have h3 := st (bitN 8 (bitN 8 (r ^^^ (n % 256)) ^^^ (n / 256 % 256))) (n / 65536 % 256) (n / 16777216 % 256) (by omega)
  rw [h3]
  have h2 := st (bitN 8 (r ^^^ (n % 256))) (n / 256 % 256) (n / 65536 % 256 + n / 16777216 % 256 * 256) (by omega)
  rw [h2]
  have h1 := st r (n % 256) (n / 256 % 256 + (n / 65536 % 256 + n / 16777216 % 256 * 256) * 256) (by omega)
  rw [h1]
  have hn2 : n % 256 + (n / 256 % 256 + (n / 65536 % 256 + n / 16777216 % 256 * 256) * 256) * 256 = n := by omega
  rw [hn2, ← bitN_add, ← bitN_add, ← bitN_add]

end Go.Proofs.Ytjbhcmkloamcmaa
