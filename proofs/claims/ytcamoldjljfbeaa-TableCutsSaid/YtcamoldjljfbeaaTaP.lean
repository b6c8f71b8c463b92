/- The writer's Bytes as a new row. -/
import Derived.Test.YtcamoldjljfbeaaTaN
import Derived.Test.YtcamoldjljfbeaaTaB
namespace Go.Proofs.Ytcamoldjljfbeaa
open Go.RowKit

set_option maxRecDepth 100000 in
theorem bytes_new {w : World} {b : Nat} {A : Option Addr} {n cap : Nat} {xs : List Int} (hW : WrIn w b A n cap xs) (hn : n ≤ 1000000) :
    Calls Try.prog 61 #[.pointer (some ⟨b, 0, none⟩)] w fun e w' => ∃ A' cap', e = .returned (.slice A' n cap') ∧ Own w (fun _ => False) w' [row 5 1 (.slice A' n cap') n (nums .u8 xs)] := by
  have c0 := hW.open_.cell 0 rfl 0
  have hbs := hW.open_.lt 0 rfl
  simp at c0
  have hcs := Hidd.mk hW.hr.cells
  have hll : xs.length = n := by have := hW.hr.ll; rw [nums_length] at this; omega
  replace hll := Hidd.mk hll
  have hO := Hidd.mk (row_lit (Own.nil w (fun _ => False)) 5 1 0 #[] [] rfl rfl (by decide))
  clear hW
  go_enter Try.func61, Try.ntmps61
  go_wp2_with (at_builtin; refine appb rfl _ _ rfl hO.out 0 _ 0 0 [] rfl rfl A n cap xs rfl hll.out (hcs.out.below (below_alloc (Below.refl _ _) _)) (by omega) ?_; intro A' cap' w6 ho6; replace ho6 := Hidd.mk ho6)
  go_ret
  exact ⟨A', cap', by simp, by have h := ho6.out; rw [Nat.zero_add] at h; exact h⟩

end Go.Proofs.Ytcamoldjljfbeaa
