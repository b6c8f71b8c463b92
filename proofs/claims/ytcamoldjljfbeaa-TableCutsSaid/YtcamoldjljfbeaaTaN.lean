/- The wire's reference: numbers and texts as bytes; the writer's Bytes as a row. -/
import Derived.Test.YtcamoldjljfbeaaWirA
import Derived.Test.YtcamoldjljfbeaaAppR
namespace Go.Proofs.Ytcamoldjljfbeaa
open Go.RowKit

theorem wputN_get (v : Nat) : ∀ (m k : Nat), k < m → (wputN v m)[k]? = some (((v / 256 ^ (m - 1 - k) % 256 : Nat) : Nat) : Int)
  | 0, _, h => by omega
  | m + 1, 0, _ => by rw [wputN]; rfl
  | m + 1, k + 1, h => by
    rw [wputN, List.getElem?_cons_succ, wputN_get v m k (by omega)]
    rw [show m + 1 - 1 - (k + 1) = m - 1 - k by omega]
theorem wputN_take (v m k : Nat) (h : k < m) : (wputN v m).take (k + 1) = (wputN v m).take k ++ [((v / 256 ^ (m - 1 - k) % 256 : Nat) : Int)] := by
  rw [List.take_add_one, wputN_get v m k h]; rfl

theorem byte0 (v : Nat) : ((v / 256 ^ 0 % 256 : Nat) : Int) = (v : Int) % 256 := by rw [Nat.pow_zero, Nat.div_one]; rfl
theorem byte3 (v : Nat) (h : v < 4294967296) : ((v / 256 ^ 3 % 256 : Nat) : Int) = (v : Int) / 16777216 := by
  rw [show (256 : Nat) ^ 3 = 16777216 from rfl]; omega

set_option maxRecDepth 100000 in
set_option maxHeartbeats 4000000 in
theorem num_own (v : Nat) (size : Int) (w : World) (hv : v < 4294967296) (h1 : 1 ≤ size) (_ : size ≤ 9223372036854775807) (m : Nat) (hm : wsz size = m) :
    Calls Try.prog 82 #[.int .u32 v, .int .i64 size] w fun e w' => ∃ A c, e = .returned (.slice A m c) ∧ Own w (fun _ => False) w' [row 5 1 (.slice A m c) m (nums .u8 (wputN v m))] := by
  have ho0 := Hidd.mk (row_nil (Own.nil w (fun _ => False)) 5 1)
  by_cases h4 : size ≤ 4
  · obtain ⟨s, rfl⟩ : ∃ s : Nat, size = s := ⟨size.toNat, by omega⟩
    obtain rfl : s = m := by rw [← hm]; unfold wsz; rw [if_pos (by omega), Int.toNat_natCast]
    clear hm
    go_enter Try.func82, Try.ntmps82
    go_wp2
    go_loopw [5, 6] (fun v5 v6 wr => ∃ (k : Nat) (i : Int) (A : Option Addr) (c : Nat), v5 = .slice A k c ∧ v6 = .int .i64 i ∧ i + k + 1 = s ∧ k ≤ s ∧ Hidd (Own w (fun _ => False) wr [row 5 1 (.slice A k c) k (nums .u8 ((wputN v s).take k))])) (fun _ v6 _ => (intOf v6 + 1).toNat)
    case atStart => exact ⟨0, _, none, 0, rfl, rfl, by omega, by omega, ho0⟩
    case round =>
      clear ho0
      obtain ⟨k, i, A, c, rfl, rfl, hi, hk, ho⟩ := hrel
      by_cases hlt : k < s
      · have hs := wputN_take v s k hlt
        obtain ⟨q, hq⟩ : ∃ q, s - 1 - k = q := ⟨_, rfl⟩
        rw [hq] at hs
        replace hs := Hidd.mk hs
        obtain rfl : i = q := by omega
        have hq4 : q = 0 ∨ q = 1 ∨ q = 2 ∨ q = 3 := by omega
        clear hq h1
        rcases hq4 with rfl | rfl | rfl | rfl
        all_goals
          go_wp2_with (at_builtin; refine appb rfl _ _ rfl (ho.out.alloc _) 1 A k c _ rfl rfl _ 1 1 [_] rfl rfl (Cells.new _ _ _ _ rfl) (by omega) ?_; intro A2 c2 w2 ho2; replace ho2 := Hidd.mk ho2.tail; clear ho)
          go_roundw
          case rel =>
            refine ⟨k + 1, _, A2, c2, rfl, rfl, by omega, by omega, ⟨?_⟩⟩
            have h := ho2.out
            rw [hs.out]
            first | exact h | (rw [byte0]; exact h) | (rw [byte3 v hv]; exact h)
          case measure => (simp [intOf]; try omega)
      · obtain rfl : i = -1 := by omega
        obtain rfl : k = s := by omega
        go_wp2
        go_ret
        have h := ho.out
        rw [List.take_of_length_le (by rw [wputN_length]; exact Nat.le_refl _)] at h
        exact ⟨A, c, rfl, h⟩
  · obtain rfl : 0 = m := by rw [← hm]; unfold wsz; rw [if_neg (by omega)]
    go_enter Try.func82, Try.ntmps82
    go_wp2
    go_loopw [5, 6] (fun v5 v6 wr => v5 = .slice none 0 0 ∧ v6 = .int .i64 (size - 1) ∧ Hidd (Own w (fun _ => False) wr [row 5 1 (.slice none 0 0) 0 []])) (fun _ _ _ => 0)
    case atStart => exact ⟨rfl, rfl, ho0⟩
    case round =>
      clear ho0
      obtain ⟨rfl, rfl, ho⟩ := hrel
      go_wp2
      go_ret
      exact ⟨none, 0, rfl, ho.out⟩

end Go.Proofs.Ytcamoldjljfbeaa
