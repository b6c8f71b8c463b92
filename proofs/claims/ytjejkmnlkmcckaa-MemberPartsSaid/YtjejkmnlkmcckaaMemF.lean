/- MemberParts walked. -/
import Derived.Test.YtjejkmnlkmcckaaMemE
namespace Go.Proofs.Ytjejkmnlkmcckaa
open Go.RowKit

def partsB (x k : Nat) : Bool :=
  let W := x ||| ofN [(k : Int)]; let V := x &&& (255 - ofN [(k : Int)])
  hasN W k && !hasN V k && (W &&& (255 - ofN [(k : Int)])) == V && ofN (ints (bitsTo x 7)) == x && (bitsTo x 7).length == lenN x && lenN W == lenN V + 1 && (W == x) == hasN x k && decide (W < 256) && decide (V < 256)
theorem parts_all : ∀ x, x < 128 → ∀ k, k < 7 → partsB x k = true := by decide +kernel

set_option maxRecDepth 100000 in
set_option maxHeartbeats 4000000 in
theorem memberParts_walk (a0 a1 : Int) (w : World) (h0 : (Lit.int .u8 a0).wf = true) (_ : (Lit.int .i64 a1).wf = true) :
    Calls Try.prog 9 #[.int .u8 a0, .int .i64 a1] w fun e w' => e = .returned (.bool true) ∧ Below w.heap.size w w' := by
  obtain ⟨s, rfl, hs⟩ := wf_u8 h0
  clear h0
  obtain ⟨x, hx, hxl⟩ : ∃ x : Nat, s &&& 127 = x ∧ x < 128 := ⟨_, rfl, Nat.and_lt_two_pow (n := 7) _ (by decide)⟩
  have hand := u8_and_nat s 127 hs (by decide)
  rw [hx, show ((127 : Nat) : Int) = 127 from rfl] at hand
  have hu0 : 0 ≤ IntKind.u64.wrap a1 := by rw [IntKind.wrap]; simp only [IntKind.signed, IntKind.bits]; exact Int.emod_nonneg _ (by decide)
  obtain ⟨k, hk, hk7⟩ : ∃ k : Nat, (IntKind.u64.wrap a1).tmod 7 = k ∧ k < 7 := by
    rw [Int.tmod_eq_emod_of_nonneg hu0]
    exact ⟨(IntKind.u64.wrap a1 % 7).toNat, by omega, by omega⟩
  clear hu0
  have hwk : wrap64 (k : Int) = k := by unfold wrap64; omega
  have hp := parts_all x hxl k hk7
  unfold partsB at hp
  obtain ⟨W, hW⟩ : ∃ W, x ||| ofN [(k : Int)] = W := ⟨_, rfl⟩
  obtain ⟨V, hV⟩ : ∃ V, x &&& (255 - ofN [(k : Int)]) = V := ⟨_, rfl⟩
  simp only [hW, hV, Bool.and_eq_true, beq_iff_eq, Bool.not_eq_true', decide_eq_true_eq] at hp
  obtain ⟨⟨⟨⟨⟨⟨⟨⟨q1, q2⟩, q3⟩, q4⟩, q5⟩, q6⟩, q7⟩, q8⟩, q9⟩ := hp
  obtain ⟨nv, hnv⟩ : ∃ nv, lenN V = nv := ⟨_, rfl⟩
  have hnv8 : nv ≤ 8 := by rw [← hnv]; exact bitsTo_len V 8
  rw [hnv] at q6
  replace hnv := Hidd.mk hnv
  replace hW := Hidd.mk hW
  replace hV := Hidd.mk hV
  replace q1 := Hidd.mk q1
  replace q2 := Hidd.mk q2
  replace q3 := Hidd.mk q3
  replace q4 := Hidd.mk q4
  replace q5 := Hidd.mk q5
  replace q6 := Hidd.mk q6
  replace q7 := Hidd.mk q7
  clear hs hx
  have ho := Hidd.mk (Own.nil w (fun _ => False))
  have hxx : x < 256 := by omega
  have hgo : ∀ G : Prop, (W = x → Hidd (hasN x k = true) → G) → (((W : Int) == (x : Int)) = false → Hidd (hasN x k = false) → G) → G := fun G g1 g2 => by
    have h7 := q7.out
    by_cases h : W = x
    · exact g1 h ⟨by rw [← h7, h]; simp⟩
    · exact g2 (by rw [beq_eq_false_iff_ne]; omega) ⟨by rw [← h7]; simpa using h⟩
  clear q7
  have hsub : wrap64 ((lenN W : Int) - (nv : Int)) = 1 := by rw [q6.out]; unfold wrap64; omega
  refine hgo _ (fun hWx hh => ?ca) (fun hWx hh => ?cb)
  case' ca => obtain rfl : x = W := hWx.symm
  all_goals
    clear hgo
    go_enter Try.func9, Try.ntmps9
    go_wp2_with (first
      | (go_at_call 20; refine (awake_any _).mono ?_; rintro e w1 ⟨rfl, hb1⟩; replace ho := Hidd.mk (ho.out.ext hb1); clear hb1)
      | (go_at_call 29; with_reducible refine (with_any x hxx k _).mono ?_; rintro e w1 ⟨rfl, hb1⟩; rw [hW.out]; replace ho := Hidd.mk (ho.out.ext hb1); clear hb1)
      | (go_at_call 27; with_reducible refine (has_any W q8 k _).mono ?_; rintro e w1 ⟨rfl, rfl⟩; rw [q1.out])
      | (go_at_call 27; with_reducible refine (has_any V q9 k _).mono ?_; rintro e w1 ⟨rfl, rfl⟩; rw [q2.out])
      | (go_at_call 27; with_reducible refine (has_any x hxx k _).mono ?_; rintro e w1 ⟨rfl, rfl⟩; rw [hh.out])
      | (go_at_call 30; with_reducible refine (without_any x hxx k _).mono ?_; rintro e w1 ⟨rfl, hb1⟩; rw [hV.out]; replace ho := Hidd.mk (ho.out.ext hb1); clear hb1)
      | (go_at_call 30; with_reducible refine (without_any W q8 k _).mono ?_; rintro e w1 ⟨rfl, hb1⟩; rw [q3.out]; replace ho := Hidd.mk (ho.out.ext hb1); clear hb1)
      | (go_at_call 33; refine (list_any x hxx _).mono ?_; rintro e w1 ⟨A, cap, rfl, ho1⟩; rw [q5.out] at ho1 ⊢; have hcs := Hidd.mk (own_cells (show w1.ownsRow 0 3 1 (.slice A (lenN x) cap) (lenN x) (nums .i64 (ints (bitsTo x 7))) from ho1.get 0 rfl)); replace ho := Hidd.mk (ho.out.made ho1); clear ho1)
      | (go_at_call 26; refine (of_any _ _ _ (ints (bitsTo x 7)) _ hcs.out (by rw [ints_length]; exact q5.out) (by rw [← q5.out]; exact Nat.le_trans (bitsTo_len _ _) (by decide))).mono ?_; rintro e w1 ⟨rfl, rfl⟩; rw [q4.out]; clear hcs)
      | (go_at_call 25; with_reducible refine (len_any x hxx _).mono ?_; rintro e w1 ⟨rfl, rfl⟩)
      | (go_at_call 25; with_reducible refine (len_any W q8 _).mono ?_; rintro e w1 ⟨rfl, rfl⟩; rw [q6.out])
      | (go_at_call 25; with_reducible refine (len_any V q9 _).mono ?_; rintro e w1 ⟨rfl, rfl⟩; rw [hnv.out]))
    go_ret
    exact ⟨rfl, ho.out.below fun _ => id⟩
end Go.Proofs.Ytjejkmnlkmcckaa
