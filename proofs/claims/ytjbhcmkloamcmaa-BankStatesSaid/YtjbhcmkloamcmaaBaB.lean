/- The writer: Text, Bytes. -/
import Derived.Test.YtjbhcmkloamcmaaWirA
import Derived.Test.YtjbhcmkloamcmaaAppB
import Derived.Laws.BitsAllLaws
namespace Go.Proofs.Ytjbhcmkloamcmaa
open Go.RowKit

theorem WIn.below {w w' : World} {e : TypeId} {size n cap : Nat} {A : Option Addr} {xs : List Value} (h : WIn w e size A n cap xs) (hB : Below w.heap.size w w') : WIn w' e size A n cap xs :=
  (wres e size A n cap xs).loc w w' h fun i hi => hB.block i (h.lt i hi)
theorem nil_cells {w : World} {xs : List Value} (h : Cells w none xs) : xs = [] := by
  rcases xs with _ | ⟨u, us⟩
  · rfl
  · obtain ⟨ad, h', _⟩ := h 0 _ rfl
    cases h'
theorem ne_nil {w : World} {A : Option Addr} {k : IntKind} {xs : List Int} {n : Nat} (h : Cells w A (nums k xs)) (hl : xs.length = n) : 0 < n → A ≠ none := fun hn e => by
  subst e
  have := nil_cells h
  have h2 := nums_length k xs
  rw [this] at h2
  simp at h2
  omega

set_option maxRecDepth 100000 in
theorem bytes_own {w w0 : World} {S : Nat → Prop} {L : List Res} {b : Nat} {A : Option Addr} {n cap : Nat} {xs : List Int} (k : Nat) (hO : Own w0 S w L) (hk : L[k]? = some (wtr b A n cap xs)) (hn : n ≤ 1000000) :
    Calls Try.prog 41 #[.pointer (some ⟨b, 0, none⟩)] w fun e w' => ∃ A' cap', e = .returned (.slice A' n cap') ∧ Own w0 S w' (wres 5 1 A' n cap' (nums .u8 xs) :: L) := by
  have hW : WrIn w b A n cap xs := hO.get k hk
  have c0 := hW.open_.cell 0 rfl 0
  have hbs := hW.open_.lt 0 rfl
  simp at c0
  have hcs := Hidd.mk hW.hr.cells
  have hll : xs.length = n := by have := hW.hr.ll; rw [nums_length] at this; omega
  replace hll := Hidd.mk hll
  replace hO := Hidd.mk hO
  obtain ⟨i0, hi0⟩ := info_parts info_u8
  replace hi0 := Hidd.mk hi0
  clear hk hW
  go_enter Try.func41, Try.ntmps41
  go_wp2_with (at_builtin; refine wpList_any rfl _ _ 22 rfl 5 i0 (.int .u8 0) 1 1 Try.underlying22 hi0.out.1 hi0.out.2.1 hi0.out.2.2.1 hi0.out.2.2.2 (by rfl) (by decide) (own_empty hO.out 5 1 _) 0 _ 0 0 [] rfl rfl A n cap (nums .u8 xs) rfl (by rw [nums_length, hll.out, Nat.mul_one]) (hcs.out.below (below_alloc (Below.refl _ _) _)) (ne_nil hcs.out hll.out) (nums_one _ _) (by unfold maxLen; omega) (by omega) ?_; intro A' cap' w6 ho6; replace ho6 := Hidd.mk ho6)
  go_ret
  exact ⟨A', cap', by simp, by have h := ho6.out; rw [Nat.zero_add] at h; exact h⟩
end Go.Proofs.Ytjbhcmkloamcmaa
