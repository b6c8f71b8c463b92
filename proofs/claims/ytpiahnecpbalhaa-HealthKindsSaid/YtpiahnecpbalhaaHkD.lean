/- New, Wrap of whatever place; the reference's Over. -/
import Derived.Test.YtpiahnecpbalhaaHkC
namespace Go.Proofs.Ytpiahnecpbalhaa
open Go.RowKit
def clipA (a : Int) : Int := if a < 0 then -1 else a
theorem atB_clip (c a : Int) : atB c (clipA a) = atB c a := by
  unfold atB clipA
  by_cases h : a < 0
  · rw [if_pos h, if_pos (by decide)]
  · rw [if_neg h, if_neg h]
theorem clip_max (a : Int) : (if a < -1 then -1 else a) = clipA a := by unfold clipA; split <;> split <;> omega
theorem newK_any (c a : Int) (w : World) (hc : c ≠ 0) : Calls Try.prog 30 #[.int .i64 c, .int .i64 a] w fun e w' => ∃ b, e = .returned (.iface 94 (.pointer (some ⟨b, 0, none⟩))) ∧ IsErr w' [(c, clipA a)] none (.iface 94 (.pointer (some ⟨b, 0, none⟩))) ∧ Below w.heap.size w w' := by
  have hcd : (c == 0) = false := by rw [beq_eq_false_iff_ne]; exact hc
  have hob := Hidd.mk ((Own.nil w (fun _ => False)).alloc (.cells #[.int .i64 c, .int .i64 (clipA a), .nilIface] 96))
  by_cases ha : a < -1
  · obtain ⟨z, hz⟩ : ∃ z, z = clipA a := ⟨_, rfl⟩
    obtain rfl : z = -1 := by rw [hz, clipA, if_pos (by omega)]
    rw [← hz] at hob ⊢
    have d1 : decide (a < -1) = true := decide_eq_true ha
    have d2 : max a (-1) = -1 := by omega
    have d3 : decide (-1 < a) = false := decide_eq_false (by omega)
    clear hz
    go_enter Try.func30, Try.ntmps30
    go_wp2
    go_ret
    have hB := hob.out.below fun _ => id
    exact ⟨_, rfl, ⟨_, _, rfl, hob.out.get 0 rfl, rfl⟩, hB⟩
  · have hz : clipA a = a := by unfold clipA; split <;> omega
    rw [hz] at hob ⊢
    have d1 : decide (a < -1) = false := decide_eq_false ha
    have d2 : max a (-1) = a := by omega
    clear hz
    go_enter Try.func30, Try.ntmps30
    go_wp2
    go_ret
    have hB := hob.out.below fun _ => id
    exact ⟨_, rfl, ⟨_, _, rfl, hob.out.get 0 rfl, rfl⟩, hB⟩
theorem wrapK_any (c a : Int) (t : TypeId) (p : Value) (l : List (Int × Int)) (w : World) (hc : c ≠ 0) (hl : IsErr w l none (.iface t p)) : Calls Try.prog 32 #[.int .i64 c, .int .i64 a, .iface t p] w fun e w' => ∃ b, e = .returned (.iface 94 (.pointer (some ⟨b, 0, none⟩))) ∧ IsErr w' ((c, clipA a) :: l) none (.iface 94 (.pointer (some ⟨b, 0, none⟩))) ∧ Below w.heap.size w w' := by
  have hcd : (c == 0) = false := by rw [beq_eq_false_iff_ne]; exact hc
  have hob := Hidd.mk ((Own.nil w (fun _ => False)).alloc (.cells #[.int .i64 c, .int .i64 (clipA a), .iface t p] 96))
  replace hl := Hidd.mk hl
  by_cases ha : a < -1
  · obtain ⟨z, hz⟩ : ∃ z, z = clipA a := ⟨_, rfl⟩
    obtain rfl : z = -1 := by rw [hz, clipA, if_pos (by omega)]
    rw [← hz] at hob ⊢
    have d1 : decide (a < -1) = true := decide_eq_true ha
    have d2 : max a (-1) = -1 := by omega
    clear hz
    go_enter Try.func32, Try.ntmps32
    go_wp2
    go_ret
    have hB := hob.out.below fun _ => id
    exact ⟨_, rfl, ⟨_, _, rfl, hob.out.get 0 rfl, hl.out.below hB⟩, hB⟩
  · have hz : clipA a = a := by unfold clipA; split <;> omega
    rw [hz] at hob ⊢
    have d1 : decide (a < -1) = false := decide_eq_false ha
    have d2 : max a (-1) = a := by omega
    clear hz
    go_enter Try.func32, Try.ntmps32
    go_wp2
    go_ret
    have hB := hob.out.below fun _ => id
    exact ⟨_, rfl, ⟨_, _, rfl, hob.out.get 0 rfl, hl.out.below hB⟩, hB⟩
theorem refOverK_any (c a : Int) (t : ByteArray) (w : World) (hc1 : -9223372036854775808 < c) (hc2 : c ≤ 9223372036854775807) (ha1 : -9223372036854775808 ≤ a) (ha2 : a ≤ 9223372036854775807) (ht : 0 < t.size) (ht2 : t.size ≤ 1000) :
    Calls Try.prog 33 #[.int .i64 c, .int .i64 a, .string t] w fun e w' => e = .returned (.string (atB c a ++ ⟨#[62]⟩ ++ t)) ∧ Below w.heap.size w w' := by
  have hne := ne_emptyK ht
  have hsz := atB_size c a
  go_enter Try.func33, Try.ntmps33
  go_wp2_with (go_at_call 31; refine (at_any c a _ (by omega) (by omega) (by omega) (by omega)).mono ?_; rintro e w1 ⟨rfl, hb⟩; replace hb := Hidd.mk hb)
  go_ret
  exact ⟨rfl, hb.out⟩
end Go.Proofs.Ytpiahnecpbalhaa
