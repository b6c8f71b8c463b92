/- Contracts of the sets of members: Of, Has, With, Without, Len, List; the reference's Has, Len, SameInts. -/
import Derived.Test.YtjejkmnlkmcckaaBytes
import Derived.Test.YtjejkmnlkmcckaaRes
import Derived.Test.YtjejkmnlkmcckaaReg
import Derived.Test.YtjejkmnlkmcckaaMix
import Derived.Laws.BitsAllLaws
namespace Go.Proofs.Ytjejkmnlkmcckaa
open Go.RowKit

def ofStep (s : Nat) (n : Int) : Nat := if 0 ≤ n ∧ n < 7 then s ||| 2 ^ n.toNat else s
/-- The set of a list. -/
def ofN (l : List Int) : Nat := l.foldl ofStep 0
theorem ofStep_lt {s : Nat} (h : s < 128) (n : Int) : ofStep s n < 128 := by
  unfold ofStep
  split
  · rename_i hn
    exact Nat.or_lt_two_pow (n := 7) h (Nat.pow_lt_pow_right (by decide) (by omega))
  · exact h
theorem foldl_lt : ∀ (l : List Int) (s : Nat), s < 128 → l.foldl ofStep s < 128
  | [], _, h => h
  | x :: l, _, h => foldl_lt l _ (ofStep_lt h x)
theorem ofN_lt (l : List Int) : ofN l < 128 := foldl_lt l 0 (by decide)
theorem ofN_take_succ {l : List Int} {i : Nat} {x : Int} (h : l[i]? = some x) : ofN (l.take (i + 1)) = ofStep (ofN (l.take i)) x := by
  unfold ofN
  rw [List.take_add_one, h, List.foldl_append]
  rfl
def hasN (s : Nat) (n : Int) : Bool := decide (0 ≤ n ∧ n < 7) && s.testBit n.toNat

theorem shr_bit (s k : Nat) (hs : s < 256) : bits .and .u8 ((s : Int) / 2 ^ k) 1 = if s.testBit k then 1 else 0 := by
  have e := u8_and_nat (s / 2 ^ k) 1 (Nat.lt_of_le_of_lt (Nat.div_le_self _ _) hs) (by decide)
  rw [Nat.and_one_is_mod, Int.natCast_ediv, Int.natCast_pow] at e
  rw [show ((1 : Nat) : Int) = 1 from rfl, show ((2 : Nat) : Int) = 2 from rfl] at e
  rw [e, Nat.testBit_eq_decide_div_mod_eq]
  have := Nat.mod_lt (s / 2 ^ k) (show 0 < 2 by decide)
  by_cases h : s / 2 ^ k % 2 = 1
  · simp [h]
  · have h0 : s / 2 ^ k % 2 = 0 := by omega
    simp [h0]

set_option maxRecDepth 100000 in
theorem of_any (A : Option Addr) (len cap : Nat) (l : List Int) (w : World) (hc : Cells w A (nums .i64 l)) (hl : l.length = len) (hm : len ≤ 1000000000) :
    Calls Try.prog 26 #[.slice A len cap] w fun e w' => e = .returned (.int .u8 (ofN l)) ∧ w = w' := by
  have HC := Hidd.mk hc
  have HL := Hidd.mk hl
  clear hc hl
  go_enter Try.func26, Try.ntmps26
  go_wp2
  go_loopw [8, 3] (fun v8 v3 wr => ∃ i : Nat, v8 = .int .i64 i ∧ i ≤ len ∧ v3 = .int .u8 (ofN (l.take i)) ∧ w = wr) (fun v8 _ _ => len - (intOf v8).toNat)
  case atStart => exact ⟨0, rfl, Nat.zero_le _, rfl, rfl⟩
  case round =>
    obtain ⟨i, rfl, hi, rfl, rfl⟩ := hrel
    by_cases hlt : i < len
    · obtain ⟨ad, rfl, hx⟩ := HC.out.at i (by rw [HL.out]; exact hlt)
      have hg : l[i]? = some (l.getD i 0) := by rw [List.getD_eq_getElem?_getD, List.getElem?_eq_getElem (by rw [HL.out]; exact hlt)]; rfl
      obtain ⟨x, hxe⟩ : ∃ x, l.getD i 0 = x := ⟨_, rfl⟩
      rw [hxe] at hx hg
      clear hxe
      have hs := Hidd.mk (ofN_take_succ hg)
      clear hg
      obtain ⟨s, hse⟩ : ∃ s, ofN (l.take i) = s := ⟨_, rfl⟩
      have hs128 : s < 128 := by rw [← hse]; exact ofN_lt _
      rw [hse] at hs ⊢
      clear hse
      by_cases h0 : 0 ≤ x
      · by_cases h7 : x < 7
        · have hst : Hidd (ofStep s x = s ||| 2 ^ x.toNat) := ⟨by unfold ofStep; rw [if_pos ⟨h0, h7⟩]⟩
          obtain ⟨k, rfl⟩ := Int.eq_ofNat_of_zero_le h0
          rw [Int.toNat_natCast] at hst
          have hk : k < 7 := by omega
          have hp : 2 ^ k < 128 := Nat.pow_lt_pow_right (n := 7) (by decide) hk
          have hor := u8_or_nat s (2 ^ k) (by omega) (by omega)
          have hc2 : ((2 ^ k : Nat) : Int) = (2 : Int) ^ k := by rw [Int.natCast_pow]; rfl
          rw [hc2] at hor
          have hpe : ((2 ^ k : Nat) : Int) % 256 = ((2 ^ k : Nat) : Int) := by rw [← show ((256 : Nat) : Int) = 256 from rfl, ← Int.natCast_emod, Nat.mod_eq_of_lt (by omega)]
          rw [hc2] at hpe
          clear hc2
          go_wp2
          go_roundw
          case rel => exact ⟨i + 1, by go_num, by omega, by rw [hs.out, hst.out], trivial⟩
          case measure => simp [intOf]; omega
        · have hst : Hidd (ofStep s x = s) := ⟨by unfold ofStep; rw [if_neg (by omega)]⟩
          have hd : decide (x < 7) = false := by simp; omega
          go_wp2
          go_roundw
          case rel => exact ⟨i + 1, by go_num, by omega, by rw [hs.out, hst.out], trivial⟩
          case measure => simp [intOf]; omega
      · have hst : Hidd (ofStep s x = s) := ⟨by unfold ofStep; rw [if_neg (by omega)]⟩
        have hd : decide (0 ≤ x) = false := by simp; omega
        go_wp2
        go_roundw
        case rel => exact ⟨i + 1, by go_num, by omega, by rw [hs.out, hst.out], trivial⟩
        case measure => simp [intOf]; omega
    · obtain rfl : i = len := by omega
      have ht : Hidd (l.take i = l) := ⟨by rw [← HL.out, List.take_length]⟩
      go_wp2
      go_ret
      exact ⟨ret_int (by rw [ht.out]), rfl⟩

theorem has_any (s : Nat) (hs : s < 256) (n : Int) (w : World) : Calls Try.prog 27 #[.int .u8 s, .int .i64 n] w fun e w' => e = .returned (.bool (hasN s n)) ∧ w = w' := by
  by_cases h0 : 0 ≤ n
  · by_cases h7 : n < 7
    · obtain ⟨k, rfl⟩ := Int.eq_ofNat_of_zero_le h0
      have e : Hidd (hasN s k = s.testBit k) := ⟨by unfold hasN; simp; omega⟩
      have hb := shr_bit s k hs
      by_cases ht : s.testBit k = true
      · rw [if_pos ht] at hb
        go_enter Try.func27, Try.ntmps27
        go_wp2
        go_ret
        exact ⟨ret_bool (e.out.trans ht).symm, rfl⟩
      · rw [if_neg ht] at hb
        replace ht := Hidd.mk ht
        go_enter Try.func27, Try.ntmps27
        go_wp2
        go_ret
        exact ⟨ret_bool (e.out.trans (Bool.eq_false_iff.2 ht.out)).symm, rfl⟩
    · have e : Hidd (hasN s n = false) := ⟨by unfold hasN; simp; omega⟩
      have hd : decide (n < 7) = false := by simp; omega
      go_enter Try.func27, Try.ntmps27
      go_wp2
      go_ret
      exact ⟨ret_bool e.out.symm, rfl⟩
  · have e : Hidd (hasN s n = false) := ⟨by unfold hasN; simp; omega⟩
    have hd : decide (0 ≤ n) = false := by simp; omega
    go_enter Try.func27, Try.ntmps27
    go_wp2
    go_ret
    exact ⟨ret_bool e.out.symm, rfl⟩

theorem refHas_any (s : Nat) (hs : s < 256) (n : Int) (w : World) : Calls Try.prog 28 #[.int .u8 s, .int .i64 n] w fun e w' => e = .returned (.bool (hasN s n)) ∧ w = w' := by
  by_cases h0 : 0 ≤ n
  · by_cases h7 : n < 7
    · obtain ⟨k, rfl⟩ := Int.eq_ofNat_of_zero_le h0
      have e : Hidd (hasN s k = s.testBit k) := ⟨by unfold hasN; simp; omega⟩
      have hb := shr_bit s k hs
      by_cases ht : s.testBit k = true
      · rw [if_pos ht] at hb
        go_enter Try.func28, Try.ntmps28
        go_wp2
        go_ret
        exact ⟨ret_bool (e.out.trans ht).symm, rfl⟩
      · rw [if_neg ht] at hb
        replace ht := Hidd.mk ht
        go_enter Try.func28, Try.ntmps28
        go_wp2
        go_ret
        exact ⟨ret_bool (e.out.trans (Bool.eq_false_iff.2 ht.out)).symm, rfl⟩
    · have e : Hidd (hasN s n = false) := ⟨by unfold hasN; simp; omega⟩
      have hd : decide (n < 7) = false := by simp; omega
      go_enter Try.func28, Try.ntmps28
      go_wp2
      go_ret
      exact ⟨ret_bool e.out.symm, rfl⟩
  · have e : Hidd (hasN s n = false) := ⟨by unfold hasN; simp; omega⟩
    have hd : decide (0 ≤ n) = false := by simp; omega
    go_enter Try.func28, Try.ntmps28
    go_wp2
    go_ret
    exact ⟨ret_bool e.out.symm, rfl⟩

theorem with_any (s : Nat) (hs : s < 256) (n : Int) (w : World) : Calls Try.prog 29 #[.int .u8 s, .int .i64 n] w fun e w' => e = .returned (.int .u8 (s ||| ofN [n] : Nat)) ∧ Below w.heap.size w w' := by
  have ho := u8_or_nat s (ofN [n]) hs (Nat.lt_of_lt_of_le (ofN_lt _) (by decide))
  go_enter Try.func29, Try.ntmps29
  go_wp2_with (go_at_call 26; refine (of_any _ 1 1 [n] _ (Cells.new _ _ _ _ rfl) rfl (by decide)).mono ?_; rintro e w1 ⟨rfl, rfl⟩)
  go_ret
  exact ⟨rfl, below_alloc (Below.refl _ _) _⟩
theorem without_any (s : Nat) (hs : s < 256) (n : Int) (w : World) : Calls Try.prog 30 #[.int .u8 s, .int .i64 n] w fun e w' => e = .returned (.int .u8 (s &&& (255 - ofN [n]) : Nat)) ∧ Below w.heap.size w w' := by
  have ho := u8_andNot_nat s (ofN [n]) hs (Nat.lt_of_lt_of_le (ofN_lt _) (by decide))
  go_enter Try.func30, Try.ntmps30
  go_wp2_with (go_at_call 26; refine (of_any _ 1 1 [n] _ (Cells.new _ _ _ _ rfl) rfl (by decide)).mono ?_; rintro e w1 ⟨rfl, rfl⟩)
  go_ret
  exact ⟨rfl, below_alloc (Below.refl _ _) _⟩

/-- The bits below i. -/
def bitsTo (s i : Nat) : List Nat := (List.range i).filter fun k => s.testBit k
theorem bitsTo_succ (s i : Nat) : bitsTo s (i + 1) = bitsTo s i ++ if s.testBit i then [i] else [] := by
  unfold bitsTo
  rw [List.range_succ, List.filter_append]
  by_cases h : s.testBit i <;> simp [h]
def lenN (s : Nat) : Nat := (bitsTo s 8).length
theorem bitsTo_len (s i : Nat) : (bitsTo s i).length ≤ i := by
  unfold bitsTo
  exact Nat.le_trans (List.length_filter_le ..) (by simp)
theorem refLen_any (s : Nat) (hs : s < 256) (w : World) : Calls Try.prog 31 #[.int .u8 s] w fun e w' => e = .returned (.int .i64 (lenN s)) ∧ w = w' := by
  go_enter Try.func31, Try.ntmps31
  go_wp2
  go_loopw [3, 4] (fun v3 v4 wr => ∃ i n : Nat, v4 = .int .i64 i ∧ i ≤ 8 ∧ v3 = .int .i64 n ∧ Hidd ((bitsTo s i).length = n) ∧ n ≤ 8 ∧ w = wr) (fun _ v4 _ => 8 - (intOf v4).toNat)
  case atStart => exact ⟨0, 0, rfl, by decide, rfl, ⟨rfl⟩, by decide, rfl⟩
  case round =>
    obtain ⟨i, n, rfl, hi, rfl, hn, hn8, rfl⟩ := hrel
    by_cases hlt : i < 8
    · have hb := shr_bit s i hs
      have hb2 := Hidd.mk (bitsTo_succ s i)
      have hle := bitsTo_len s i
      rw [hn.out] at hle
      by_cases ht : s.testBit i = true
      · rw [if_pos ht] at hb
        replace ht := Hidd.mk ht
        go_wp2
        go_roundw
        case rel => exact ⟨i + 1, n + 1, by go_num, by omega, by go_num, ⟨by rw [hb2.out, if_pos ht.out, List.length_append, hn.out]; rfl⟩, by omega, trivial⟩
        case measure => simp [intOf]; omega
      · rw [if_neg ht] at hb
        replace ht := Hidd.mk ht
        go_wp2
        go_roundw
        case rel => exact ⟨i + 1, n, by go_num, by omega, rfl, ⟨by rw [hb2.out, if_neg ht.out, List.append_nil, hn.out]⟩, hn8, trivial⟩
        case measure => simp [intOf]; omega
    · obtain rfl : i = 8 := by omega
      go_wp2
      go_ret
      exact ⟨ret_int (by unfold lenN; rw [hn.out]), rfl⟩
theorem bget (a : Array UInt8) (i : Nat) (h : i < (⟨a⟩ : ByteArray).size) : (⟨a⟩ : ByteArray)[i] = a.getD i 0 := by
  show a[i] = _
  rw [Array.getElem_eq_getD 0]
theorem ownsRow_zero {w : World} {base : Nat} {e : TypeId} {size n : Nat} {v : Value} {xs : List Value} (h : w.ownsRow base e size v n xs) : w.ownsRow 0 e size v n xs := by
  obtain ⟨h1, h2⟩ := h
  refine ⟨h1, ?_⟩
  rcases h2 with h2 | ⟨g, cap, cur, rfl, hg, r⟩
  · exact .inl h2
  · exact .inr ⟨g, cap, cur, rfl, Nat.zero_le _, r⟩
set_option maxRecDepth 100000 in
theorem ones_any (s : Nat) (hs : s < 256) (w : World) : Calls Try.prog 44 #[.int .u8 s] w fun e w' => e = .returned (.int .i64 (lenN s)) ∧ w = w' := by
  go_enter Try.func44, Try.ntmps44
  go_wp2
  go_ret
  refine ⟨ret_int ?_, rfl⟩
  rw [bget]
  revert s
  decide +kernel
theorem len_any (s : Nat) (hs : s < 256) (w : World) : Calls Try.prog 25 #[.int .u8 s] w fun e w' => e = .returned (.int .i64 (lenN s)) ∧ w = w' := by
  go_enter Try.func25, Try.ntmps25
  go_wp2_with (go_at_call 44; refine (ones_any s hs _).mono ?_; rintro e w1 ⟨rfl, rfl⟩)
  go_ret
  exact ⟨rfl, rfl⟩

theorem info_int : (Try.prog.info? 3).map (fun i => (i.zero, i.size, i.bytes)) = some (some (.int .i64 0), 1, 8) := by kernel_rfl
/-- append(v, x...) of whole numbers. -/
theorem app_int {w : World} {ops : Array Oper} {rest : List Oper} {o : Oper} {a : Act} {Q : Exit → Act → World → Prop} (hgd : o.guard = none) (s x : Operand)
    (ho : o.op = .call { callee := .builtin .append, args := #[s, x], argTypes := #[65, 65] })
    (base : Nat) (v : Value) (n : Nat) (xs : List Int) (hs : a.eval s = v) (hown : w.ownsRow base 3 1 v n (nums .i64 xs))
    (A : Option Addr) (m c : Nat) (ys : List Int) (hx : a.eval x = .slice A m c) (hl : ys.length = m) (hnews : Cells w A (nums .i64 ys))
    (h63 : n + m ≤ 17592186044000) (hbase : base ≤ w.heap.size)
    (h : ∀ A' c' w', n + m ≤ c' → w'.ownsRow base 3 1 (.slice A' (n + m) c') (n + m) (nums .i64 (xs ++ ys)) → w.grownBy w' v.ownBlock → Below base w w' →
      wpList Try.prog ops Q rest (a.put o.dst (.slice A' (n + m) c')) w') : wpList Try.prog ops Q (o :: rest) a w := by
  obtain ⟨i0, hi, hz0, hz1, hz2⟩ := info_parts info_int
  refine wpList_app hgd s x 65 ho base 3 i0 (.int .i64 0) 1 8 Try.underlying65 hi hz0 hz1 hz2 rfl (by decide) v n (nums .i64 xs) hs hown A m c (nums .i64 ys) hx (by rw [nums_length, hl, Nat.mul_one]) hnews (nums_one _ _) (by unfold maxLen; omega) (by omega) hbase ?_
  rw [← nums_append]
  intro v' w' h1 h2 h3
  obtain ⟨A', c', rfl, h4, _, _⟩ := Cells.of_own h1
  exact h A' c' w' h4 h1 h2 h3

def ints (l : List Nat) : List Int := l.map fun k : Nat => (k : Int)
theorem ints_length (l : List Nat) : (ints l).length = l.length := by simp [ints]
/-- List: the bits of a set, rising. -/
theorem list_any (s : Nat) (hs : s < 256) (w : World) : Calls Try.prog 33 #[.int .u8 s] w fun e w' => ∃ A cap, e = .returned (.slice A (bitsTo s 7).length cap) ∧
    Own w (fun _ => False) w' [row 3 1 (.slice A (bitsTo s 7).length cap) (bitsTo s 7).length (nums .i64 (ints (bitsTo s 7)))] := by
  go_enter Try.func33, Try.ntmps33
  go_wp2
  go_loopw [3, 5] (fun v3 v5 wr => ∃ (i : Nat) (A : Option Addr) (n cap : Nat) (xs : List Int), v5 = .int .i64 i ∧ i ≤ 7 ∧ v3 = .slice A n cap ∧ n ≤ i ∧ Hidd (xs = ints (bitsTo s i) ∧ n = (bitsTo s i).length) ∧ Hidd (wr.ownsRow w.heap.size 3 1 (.slice A n cap) n (nums .i64 xs)) ∧ Hidd (Below w.heap.size w wr)) (fun _ v5 _ => 7 - (intOf v5).toNat)
  case atStart => exact ⟨0, none, 0, 0, [], rfl, by decide, rfl, by decide, ⟨rfl, rfl⟩, ⟨rfl, .inl ⟨rfl, rfl⟩⟩, ⟨Below.refl _ _⟩⟩
  case round =>
    obtain ⟨i, A, n, cap, xs, rfl, hi, rfl, hni, hx, ho, hb⟩ := hrel
    by_cases hlt : i < 7
    · have hsu := Hidd.mk (bitsTo_succ s i)
      have hha : Hidd (hasN s i = s.testBit i) := ⟨by unfold hasN; simp; omega⟩
      obtain ⟨c, hc⟩ : ∃ c, s.testBit i = c := ⟨_, rfl⟩
      rw [hc] at hsu hha
      replace hc := Hidd.mk hc
      cases c
      · go_wp2_with (go_at_call 27; refine (has_any s hs i _).mono ?_; rintro e w1 ⟨rfl, rfl⟩; rw [hha.out])
        go_roundw
        case rel => exact ⟨i + 1, A, n, cap, xs, by go_num, by omega, rfl, by omega, ⟨by rw [hsu.out, if_neg (by simp), List.append_nil]; exact hx.out⟩, ho, hb⟩
        case measure => simp [intOf]; omega
      · go_wp2_with (first
          | (go_at_call 27; refine (has_any s hs i _).mono ?_; rintro e w1 ⟨rfl, rfl⟩; rw [hha.out])
          | (at_builtin; refine app_int rfl _ _ rfl w.heap.size _ n xs rfl (own_below ho.out (below_alloc (Below.refl _ _) _)) _ 1 1 [(i : Int)] rfl rfl (Cells.new _ _ _ _ rfl) (by omega) (by have := hb.out.size; simp; omega) ?_; intro A' c' w2 hc2 ho2 hg2 hb2; replace ho2 := Hidd.mk ho2; replace hb2 := Hidd.mk hb2))
        go_roundw
        case rel =>
          refine ⟨i + 1, A', n + 1, c', xs ++ [(i : Int)], by go_num, by omega, rfl, by omega, ⟨?_, ?_⟩, ho2, ⟨?_⟩⟩
          · rw [hsu.out, if_pos trivial, hx.out.1]; simp [ints]
          · rw [hsu.out, if_pos trivial, List.length_append, ← hx.out.2]; rfl
          · exact (below_alloc hb.out _).trans hb2.out
        case measure => simp [intOf]; omega
    · obtain rfl : i = 7 := by omega
      go_wp2
      go_ret
      obtain ⟨rfl, rfl⟩ := hx.out
      refine ⟨A, cap, rfl, Kept.below hb.out, ?_, by simp, ?_⟩
      · intro r hr
        obtain rfl := List.mem_singleton.1 hr
        exact ownsRow_zero ho.out
      · intro r hr j hj
        obtain rfl := List.mem_singleton.1 hr
        exact .inr (ho.out.lt j hj).1
end Go.Proofs.Ytjejkmnlkmcckaa
