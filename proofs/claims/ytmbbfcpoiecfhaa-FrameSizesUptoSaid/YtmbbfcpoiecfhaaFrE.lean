/- What is wrong with a frame, in plain words; errors over errors; the contract of command. -/
import Derived.Test.YtmbbfcpoiecfhaaFrA
import Derived.Test.YtmbbfcpoiecfhaaWirC
namespace Go.Proofs.Ytmbbfcpoiecfhaa
open Go.RowKit

def msgE : List (Int × List Int) → Nat → Option (Int × Int)
  | [], _ => none
  | m :: l, i => if m.1 < 0 ∨ 24 ≤ m.1 then some (2, (i : Int)) else if 16 < m.2.length then some (12, (i : Int)) else msgE l (i + 1)
def cmdE (k0 k1 k2 k3 : Nat) : Option (Int × Int) :=
  if 3 < k0 then some (7, -1) else if (k0 = 0 ∧ ¬ (k1 = 0 ∧ k2 = 0 ∧ k3 = 0)) ∨ 8 ≤ k1 ∨ (k0 ≠ 3 ∧ k3 ≠ 0) ∨ (k0 = 2 ∧ k2 ≠ 0) then some (8, -1) else none
def recE : List Rec5 → Nat → Option (Int × Int)
  | [], _ => none
  | x :: l, i => if 7 ≤ x.n ∨ 12 ≤ x.p ∨ 3 < x.k ∨ 3 < x.d then some (50, (i : Int)) else recE l (i + 1)
def chkE (s : Nat) (ms : List (Int × List Int)) (k0 k1 k2 k3 : Nat) (rs : List Rec5) : Option (Int × Int) :=
  if 7 ≤ s then some (2, -1) else if 96 < ms.length ∨ 4 < rs.length then some (3, -1) else
    match msgE ms 0 with
    | some q => some q
    | none => match cmdE k0 k1 k2 k3 with
      | some q => some q
      | none => recE rs 0
theorem drop_at {α : Type} {l : List α} {i : Nat} {x : α} (h : l[i]? = some x) : l.drop i = x :: l.drop (i + 1) := by
  obtain ⟨h1, rfl⟩ := List.getElem?_eq_some_iff.1 h
  exact List.drop_eq_getElem_cons h1
theorem IsE.below {w w' : World} {er : Option (Int × Int)} {v : Value} (h : IsE w er v) (hB : Below w.heap.size w w') : IsE w' er v := by
  rcases er with _ | ⟨c, a⟩
  · exact h
  · obtain ⟨b, e, hb⟩ := h
    exact ⟨b, e, (hB.block b (Array.getElem?_eq_some_iff.1 hb).1).trans hb⟩
theorem new_any (c a : Int) (w : World) (hc : c ≠ 0) (ha : -1 ≤ a) : Calls Try.prog 42 #[.int .i64 c, .int .i64 a] w fun e w' => ∃ b, e = .returned (.iface 86 (.pointer (some ⟨b, 0, none⟩))) ∧ IsE w' (some (c, a)) (.iface 86 (.pointer (some ⟨b, 0, none⟩))) ∧ Below w.heap.size w w' := by
  refine (newFault_any c a w hc ha).mono ?_
  rintro e w' ⟨v, rfl, ho, b, rfl⟩
  exact ⟨b, rfl, ho.get 0 rfl, ho.below fun _ => id⟩
/-- An error over an error. -/
theorem wrap_any (c a : Int) (t : TypeId) (p : Value) (l : List (Int × Int)) (w : World) (hc : c ≠ 0) (ha : -1 ≤ a) (hl : IsErr w l none (.iface t p)) : Calls Try.prog 45 #[.int .i64 c, .int .i64 a, .iface t p] w fun e w' => ∃ b, e = .returned (.iface 86 (.pointer (some ⟨b, 0, none⟩))) ∧ IsErr w' ((c, a) :: l) none (.iface 86 (.pointer (some ⟨b, 0, none⟩))) ∧ Below w.heap.size w w' := by
  have hcd : (c == 0) = false := by rw [beq_eq_false_iff_ne]; exact hc
  have hob := Hidd.mk ((Own.nil w (fun _ => False)).alloc (.cells #[.int .i64 c, .int .i64 a, .iface t p] 88))
  replace hl := Hidd.mk hl
  go_enter Try.func45, Try.ntmps45
  go_wp2
  go_ret
  have hB := hob.out.below fun _ => id
  exact ⟨_, rfl, ⟨_, _, rfl, hob.out.get 0 rfl, hl.out.below hB⟩, hB⟩

set_option maxRecDepth 100000 in
set_option maxHeartbeats 4000000 in
theorem command_any (k0 k1 k2 k3 : Nat) (w : World) (h0 : k0 < 256) (h1 : k1 < 256) (h2 : k2 < 65536) (h3 : k3 < 65536) (er : Option (Int × Int)) (her : cmdE k0 k1 k2 k3 = er) :
    Calls Try.prog 48 #[.agg #[.int .u8 k0, .int .u8 k1, .int .u16 k2, .int .u16 k3]] w fun e w' => ∃ v, e = .returned v ∧ IsE w' er v ∧ Below w.heap.size w w' := by
  replace her := Hidd.mk her
  go_enter Try.func48, Try.ntmps48
  go_wp2_with (first
    | (go_at_call 42; with_reducible refine (new_any 7 (-1) _ (by decide) (by decide)).mono ?_; rintro e w1 ⟨b, rfl, he, hb⟩; replace he := Hidd.mk he; replace hb := Hidd.mk (below_then (below_alloc (Below.refl _ _) _) hb))
    | (go_at_call 42; with_reducible refine (new_any 8 (-1) _ (by decide) (by decide)).mono ?_; rintro e w1 ⟨b, rfl, he, hb⟩; replace he := Hidd.mk he; replace hb := Hidd.mk (below_then (below_alloc (Below.refl _ _) _) hb)))
  all_goals go_ret
  all_goals simp only [bne_iff_ne, ne_eq, bne_eq_false_iff_eq] at *
  all_goals first
    | (refine ⟨_, rfl, ?_, hb.out⟩
       have e1 := her.out
       unfold cmdE at e1
       first
         | (rw [if_pos (by omega)] at e1; subst e1; exact he.out)
         | (rw [if_neg (by omega), if_pos (by omega)] at e1; subst e1; exact he.out))
    | (refine ⟨_, rfl, ?_, below_alloc (Below.refl _ _) _⟩
       have e1 := her.out
       unfold cmdE at e1
       rw [if_neg (by omega), if_neg (by omega)] at e1
       subst e1
       rfl)
end Go.Proofs.Ytmbbfcpoiecfhaa
