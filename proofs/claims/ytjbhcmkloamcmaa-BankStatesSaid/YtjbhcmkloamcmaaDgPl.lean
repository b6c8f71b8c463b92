/- The digest in plain Lean: words of 32 bits, the schedule, the rounds, the padding. -/
import Derived.Test.YtjbhcmkloamcmaaBase
namespace Go.Proofs.Ytjbhcmkloamcmaa
open Go.RowKit

abbrev W32 := BitVec 32
def u32v (x : W32) : Value := .int .u32 (x.toNat : Int)
/-- Turned right. -/
def rr (x : W32) (n : Nat) : W32 := x >>> n ||| x <<< (32 - n)
def sg0 (x : W32) : W32 := rr x 7 ^^^ rr x 18 ^^^ x >>> 3
def sg1 (x : W32) : W32 := rr x 17 ^^^ rr x 19 ^^^ x >>> 10
def bw (x : Int) : W32 := BitVec.ofInt 32 x
def wordAt (bs : List Int) (t : Nat) : W32 := bw (bs.getD (4 * t) 0) <<< 24 ||| bw (bs.getD (4 * t + 1) 0) <<< 16 ||| bw (bs.getD (4 * t + 2) 0) <<< 8 ||| bw (bs.getD (4 * t + 3) 0)
def nextW (bs : List Int) (ws : List W32) : W32 :=
  if ws.length < 16 then wordAt bs ws.length else ws.getD (ws.length - 16) 0 + sg0 (ws.getD (ws.length - 15) 0) + ws.getD (ws.length - 7) 0 + sg1 (ws.getD (ws.length - 2) 0)
def sched (bs : List Int) : Nat → List W32
  | 0 => []
  | t + 1 => sched bs t ++ [nextW bs (sched bs t)]
theorem sched_len (bs : List Int) : ∀ t, (sched bs t).length = t
  | 0 => rfl
  | t + 1 => by rw [sched, List.length_append, sched_len bs t]; rfl
/-- One round: the eight words behind it. -/
def tOf (v : List W32) (k w : W32) : W32 := v.getD 7 0 + (rr (v.getD 4 0) 6 ^^^ rr (v.getD 4 0) 11 ^^^ rr (v.getD 4 0) 25) + (v.getD 4 0 &&& v.getD 5 0 ^^^ ~~~v.getD 4 0 &&& v.getD 6 0) + k + w
def uOf (v : List W32) : W32 := (rr (v.getD 0 0) 2 ^^^ rr (v.getD 0 0) 13 ^^^ rr (v.getD 0 0) 22) + (v.getD 0 0 &&& v.getD 1 0 ^^^ v.getD 0 0 &&& v.getD 2 0 ^^^ v.getD 1 0 &&& v.getD 2 0)
def rnd (v : List W32) (k w : W32) : List W32 := [tOf v k w + uOf v, v.getD 0 0, v.getD 1 0, v.getD 2 0, v.getD 3 0 + tOf v k w, v.getD 4 0, v.getD 5 0, v.getD 6 0]
def rnds (ks ws v : List W32) : Nat → List W32
  | 0 => v
  | t + 1 => rnd (rnds ks ws v t) (ks.getD t 0) (ws.getD t 0)
def comp (ks h : List W32) (bs : List Int) : List W32 := List.zipWith (· + ·) h (rnds ks (sched bs 64) h 64)
theorem rnds_len {ks ws v : List W32} (h : v.length = 8) : ∀ t, (rnds ks ws v t).length = 8
  | 0 => h
  | _ + 1 => rfl
theorem comp_len {ks h : List W32} (hh : h.length = 8) (bs : List Int) : (comp ks h bs).length = 8 := by simp [comp, hh, rnds_len hh]
/-- So many blocks of 64 bytes. -/
def blocks (ks : List W32) (h : List W32) (bs : List Int) : Nat → List W32
  | 0 => h
  | n + 1 => comp ks (blocks ks h bs n) ((bs.drop (64 * n)).take 64)
theorem blocks_len {ks h : List W32} (hh : h.length = 8) (bs : List Int) : ∀ n, (blocks ks h bs n).length = 8
  | 0 => hh
  | n + 1 => comp_len (blocks_len hh bs n) _
/-- The bytes behind: how many zeros. -/
def zerosN (n : Nat) : Nat := (119 - n % 64) % 64
theorem zerosN_lt (n : Nat) : zerosN n < 64 := by unfold zerosN; omega
theorem zerosN_eq (n : Nat) : (n + 1 + zerosN n) % 64 = 56 := by unfold zerosN; omega
theorem zerosN_least (n z : Nat) (h : z < zerosN n) : (n + 1 + z) % 64 ≠ 56 := by unfold zerosN at h; omega
/-- The number of bits, from its highest byte on: the first k bytes. -/
def lenB (n : Nat) (k : Nat) : List Int := (List.range k).map fun j => ((8 * n / 2 ^ (56 - 8 * j) % 256 : Nat) : Int)
theorem lenB_len (n k : Nat) : (lenB n k).length = k := by simp [lenB]
theorem lenB_succ (n k : Nat) : lenB n (k + 1) = lenB n k ++ [((8 * n / 2 ^ (56 - 8 * k) % 256 : Nat) : Int)] := by simp [lenB, List.range_succ]
def padB (bs : List Int) : List Int := bs ++ [128] ++ List.replicate (zerosN bs.length) 0 ++ lenB bs.length 8
def nblk (n : Nat) : Nat := (n + 1 + zerosN n + 8) / 64
theorem padB_len (bs : List Int) : (padB bs).length = 64 * nblk bs.length := by
  have := zerosN_eq bs.length
  simp only [padB, List.length_append, List.length_replicate, lenB_len, List.length_cons, List.length_nil, nblk]
  omega
def ivs : List W32 := [0x6a09e667, 0xbb67ae85, 0x3c6ef372, 0xa54ff53a, 0x510e527f, 0x9b05688c, 0x1f83d9ab, 0x5be0cd19]
def kays : List W32 := [0x428a2f98, 0x71374491, 0xb5c0fbcf, 0xe9b5dba5, 0x3956c25b, 0x59f111f1, 0x923f82a4, 0xab1c5ed5,
  0xd807aa98, 0x12835b01, 0x243185be, 0x550c7dc3, 0x72be5d74, 0x80deb1fe, 0x9bdc06a7, 0xc19bf174,
  0xe49b69c1, 0xefbe4786, 0x0fc19dc6, 0x240ca1cc, 0x2de92c6f, 0x4a7484aa, 0x5cb0a9dc, 0x76f988da,
  0x983e5152, 0xa831c66d, 0xb00327c8, 0xbf597fc7, 0xc6e00bf3, 0xd5a79147, 0x06ca6351, 0x14292967,
  0x27b70a85, 0x2e1b2138, 0x4d2c6dfc, 0x53380d13, 0x650a7354, 0x766a0abb, 0x81c2c92e, 0x92722c85,
  0xa2bfe8a1, 0xa81a664b, 0xc24b8b70, 0xc76c51a3, 0xd192e819, 0xd6990624, 0xf40e3585, 0x106aa070,
  0x19a4c116, 0x1e376c08, 0x2748774c, 0x34b0bcb5, 0x391c0cb3, 0x4ed8aa4a, 0x5b9cca4f, 0x682e6ff3,
  0x748f82ee, 0x78a5636f, 0x84c87814, 0x8cc70208, 0x90befffa, 0xa4506ceb, 0xbef9a3f7, 0xc67178f2]
def shaW (bs : List Int) : List W32 := blocks kays ivs (padB bs) (nblk bs.length)
theorem shaW_len (bs : List Int) : (shaW bs).length = 8 := blocks_len rfl _ _
/-- The bytes of words. -/
def byteOf (x : W32) (j : Nat) : Int := ((x.toNat / 2 ^ (24 - 8 * j) % 256 : Nat) : Int)
def outB (h : List W32) : List Int := h.flatMap fun x => [byteOf x 0, byteOf x 1, byteOf x 2, byteOf x 3]
def sha (bs : List Int) : List Int := outB (shaW bs)
theorem outB_len (h : List W32) : (outB h).length = 4 * h.length := by
  induction h with
  | nil => rfl
  | cons x h ih => simp only [outB, List.flatMap_cons, List.length_append, List.length_cons, List.length_nil] at ih ⊢; omega
theorem sha_len (bs : List Int) : (sha bs).length = 32 := by rw [sha, outB_len, shaW_len]
/-- A digest in base sixteen. -/
def hexD (n : Nat) : Int := if n < 10 then 48 + n else 87 + n
def hexB (d : List Int) : List Int := d.flatMap fun b => [hexD (b.toNat / 16), hexD (b.toNat % 16)]
set_option maxRecDepth 100000 in
theorem hex_nil : strOfNums (hexB (sha [])) = "e3b0c44298fc1c149afbf4c8996fb92427ae41e4649b934ca495991b7852b855".toUTF8 := by decide +kernel
set_option maxRecDepth 100000 in
theorem hex_abc : strOfNums (hexB (sha [97, 98, 99])) = "ba7816bf8f01cfea414140de5dae2223b00361a396177a9cb410ff61f20015ad".toUTF8 := by decide +kernel

/- The program's numbers as words. -/
theorem v_wrap (n : Nat) : IntKind.u32.wrap (n : Int) = ((BitVec.ofNat 32 n).toNat : Int) := by rw [IntKind.wrap_u32', BitVec.toNat_ofNat]; omega
theorem v_add (x y : W32) : IntKind.u32.wrap ((x.toNat : Int) + (y.toNat : Int)) = ((x + y).toNat : Int) := by rw [IntKind.wrap_u32', BitVec.toNat_add]; omega
theorem v_wrapI (x : Int) : IntKind.u32.wrap x = ((bw x).toNat : Int) := by
  rw [IntKind.wrap_u32', bw, BitVec.toNat_ofInt]
  omega
theorem v_self (x : W32) : IntKind.u32.wrap (x.toNat : Int) = (x.toNat : Int) := by rw [IntKind.wrap_u32']; have := x.isLt; omega
theorem v_of (x : W32) : BitVec.ofInt 32 (x.toNat : Int) = x := by rw [BitVec.ofInt_natCast, BitVec.ofNat_toNat]; simp
theorem v_and (x y : W32) : bits .and .u32 (x.toNat : Int) (y.toNat : Int) = ((x &&& y).toNat : Int) := by
  show IntKind.u32.wrap ((BitVec.ofInt 32 (x.toNat : Int) &&& BitVec.ofInt 32 (y.toNat : Int)).toNat : Int) = _
  rw [v_of, v_of, v_self]
theorem v_or (x y : W32) : bits .or .u32 (x.toNat : Int) (y.toNat : Int) = ((x ||| y).toNat : Int) := by
  show IntKind.u32.wrap ((BitVec.ofInt 32 (x.toNat : Int) ||| BitVec.ofInt 32 (y.toNat : Int)).toNat : Int) = _
  rw [v_of, v_of, v_self]
theorem v_xor (x y : W32) : bits .xor .u32 (x.toNat : Int) (y.toNat : Int) = ((x ^^^ y).toNat : Int) := by
  show IntKind.u32.wrap ((BitVec.ofInt 32 (x.toNat : Int) ^^^ BitVec.ofInt 32 (y.toNat : Int)).toNat : Int) = _
  rw [v_of, v_of, v_self]
theorem v_not (x : W32) : bits .xor .u32 IntKind.u32.max (x.toNat : Int) = ((~~~x).toNat : Int) := by
  show IntKind.u32.wrap ((BitVec.ofInt 32 IntKind.u32.max ^^^ BitVec.ofInt 32 (x.toNat : Int)).toNat : Int) = _
  rw [v_of, v_self, show BitVec.ofInt 32 IntKind.u32.max = BitVec.allOnes 32 from rfl, BitVec.allOnes_xor]
theorem v_not' (x : W32) : bits .xor .u32 (if IntKind.u32.signed = true then -1 else IntKind.u32.max) (x.toNat : Int) = ((~~~x).toNat : Int) := by
  rw [if_neg (by decide)]; exact v_not x
theorem v_shr (x : W32) (n : Nat) : ((x.toNat : Int) / ((2 ^ n : Nat) : Int)) = ((x >>> n).toNat : Int) := by
  rw [BitVec.toNat_ushiftRight, Nat.shiftRight_eq_div_pow]; exact (Int.natCast_ediv ..).symm
theorem v_shl (x : W32) (n : Nat) : IntKind.u32.wrap ((x.toNat : Int) * ((2 ^ n : Nat) : Int)) = ((x <<< n).toNat : Int) := by
  rw [IntKind.wrap_u32', BitVec.toNat_shiftLeft, Nat.shiftLeft_eq, ← Int.natCast_mul]
  rfl
theorem v_shr' (x : W32) (n : Nat) : ((x.toNat : Int) / 2 ^ n) = ((x >>> n).toNat : Int) := by
  rw [← v_shr, Int.natCast_pow]; rfl
theorem v_shl' (x : W32) (n : Nat) : (x.toNat : Int) * 2 ^ n % 4294967296 = ((x <<< n).toNat : Int) := by
  rw [← v_shl, IntKind.wrap_u32', Int.natCast_pow]; rfl
theorem v_shl8 (x : W32) : (x.toNat : Int) * 256 % 4294967296 = ((x <<< 8).toNat : Int) := v_shl' x 8
theorem v_shl16 (x : W32) : (x.toNat : Int) * 65536 % 4294967296 = ((x <<< 16).toNat : Int) := v_shl' x 16
theorem v_shl24 (x : W32) : (x.toNat : Int) * 16777216 % 4294967296 = ((x <<< 24).toNat : Int) := v_shl' x 24
theorem v_shl8w (x : W32) : IntKind.u32.wrap ((x.toNat : Int) * 256) = ((x <<< 8).toNat : Int) := v_shl x 8
theorem v_shl16w (x : W32) : IntKind.u32.wrap ((x.toNat : Int) * 65536) = ((x <<< 16).toNat : Int) := v_shl x 16
theorem v_shl24w (x : W32) : IntKind.u32.wrap ((x.toNat : Int) * 16777216) = ((x <<< 24).toNat : Int) := v_shl x 24
theorem v_shr3 (x : W32) : (x.toNat : Int) / (8 : Int) = ((x >>> 3).toNat : Int) := v_shr' x 3
theorem v_shr10 (x : W32) : (x.toNat : Int) / (1024 : Int) = ((x >>> 10).toNat : Int) := v_shr' x 10
theorem word_v (b0 b1 b2 b3 : W32) : bits .or .u32 (bits .or .u32 (bits .or .u32 (IntKind.u32.wrap ((b0.toNat : Int) * 16777216)) (IntKind.u32.wrap ((b1.toNat : Int) * 65536))) (IntKind.u32.wrap ((b2.toNat : Int) * 256))) (b3.toNat : Int) = ((b0 <<< 24 ||| b1 <<< 16 ||| b2 <<< 8 ||| b3).toNat : Int) := by
  rw [v_shl8w, v_shl16w, v_shl24w, v_or, v_or, v_or]
theorem sg0_v (c : W32) : bits .xor .u32 (bits .xor .u32 ((rr c 7).toNat : Int) ((rr c 18).toNat : Int)) ((c.toNat : Int) / (8 : Int)) = ((sg0 c).toNat : Int) := by rw [v_shr3, v_xor, v_xor]; rfl
theorem sg1_v (c : W32) : bits .xor .u32 (bits .xor .u32 ((rr c 17).toNat : Int) ((rr c 19).toNat : Int)) ((c.toNat : Int) / (1024 : Int)) = ((sg1 c).toNat : Int) := by rw [v_shr10, v_xor, v_xor]; rfl
theorem xor3_v (a b c : W32) : bits .xor .u32 (bits .xor .u32 (a.toNat : Int) (b.toNat : Int)) (c.toNat : Int) = ((a ^^^ b ^^^ c).toNat : Int) := by rw [v_xor, v_xor]
theorem add4_v (a b c d : W32) : IntKind.u32.wrap (IntKind.u32.wrap (IntKind.u32.wrap ((a.toNat : Int) + (b.toNat : Int)) + (c.toNat : Int)) + (d.toNat : Int)) = ((a + b + c + d).toNat : Int) := by rw [v_add, v_add, v_add]
theorem add3_v (a b c : W32) : IntKind.u32.wrap (IntKind.u32.wrap ((a.toNat : Int) + (b.toNat : Int)) + (c.toNat : Int)) = ((a + b + c).toNat : Int) := by rw [v_add, v_add]
theorem add5_v (a b c d e : W32) : IntKind.u32.wrap (IntKind.u32.wrap (IntKind.u32.wrap (IntKind.u32.wrap ((a.toNat : Int) + (b.toNat : Int)) + (c.toNat : Int)) + (d.toNat : Int)) + (e.toNat : Int)) = ((a + b + c + d + e).toNat : Int) := by rw [v_add, v_add, v_add, v_add]
theorem v_addm (x y : W32) : ((x.toNat : Int) + (y.toNat : Int)) % 4294967296 = ((x + y).toNat : Int) := by rw [← IntKind.wrap_u32', v_add]
theorem ch_v (a b c : W32) : bits .xor .u32 (bits .and .u32 (a.toNat : Int) (b.toNat : Int)) (bits .and .u32 (bits .xor .u32 IntKind.u32.max (a.toNat : Int)) (c.toNat : Int)) = ((a &&& b ^^^ ~~~a &&& c).toNat : Int) := by rw [v_not, v_and, v_and, v_xor]
theorem ch2_v (a b n c : W32) : bits .xor .u32 (bits .and .u32 (a.toNat : Int) (b.toNat : Int)) (bits .and .u32 (n.toNat : Int) (c.toNat : Int)) = ((a &&& b ^^^ n &&& c).toNat : Int) := by rw [v_and, v_and, v_xor]
theorem maj_v (a b c : W32) : bits .xor .u32 (bits .xor .u32 (bits .and .u32 (a.toNat : Int) (b.toNat : Int)) (bits .and .u32 (a.toNat : Int) (c.toNat : Int))) (bits .and .u32 (b.toNat : Int) (c.toNat : Int)) = ((a &&& b ^^^ a &&& c ^^^ b &&& c).toNat : Int) := by rw [v_and, v_and, v_and, v_xor, v_xor]
theorem wordAt_ref (bs : List Int) (t : Nat) : wordAt bs t = (((0#32 <<< 8 ||| bw (bs.getD (4 * t) 0)) <<< 8 ||| bw (bs.getD (4 * t + 1) 0)) <<< 8 ||| bw (bs.getD (4 * t + 2) 0)) <<< 8 ||| bw (bs.getD (4 * t + 3) 0) := by
  unfold wordAt
  simp only [BitVec.shiftLeft_or_distrib, ← BitVec.shiftLeft_add, BitVec.zero_shiftLeft, BitVec.zero_or]
end Go.Proofs.Ytjbhcmkloamcmaa
