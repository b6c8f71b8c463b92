/- Same of two frames that say the same. -/
import Derived.Test.YtjejkmnlkmcckaaFrA
namespace Go.Proofs.Ytjejkmnlkmcckaa
open Go.RowKit

set_option maxRecDepth 100000 in
set_option maxHeartbeats 4000000 in
theorem same_any (s r m k0 k1 k2 k3 : Int) (A A' : Option Addr) (mn c c' : Nat) (B B' : Option Addr) (rn d d' : Nat) (ms : List (Int × List Int)) (rs : List Rec5) (w : World) (hA : MsgsAt w A mn ms) (hA' : MsgsAt w A' mn ms) (hB : RecsAt w B rn rs) (hB' : RecsAt w B' rn rs) (hmn : mn ≤ 1000000000000000) (hrn : rn ≤ 1000000000000000) :
    Calls Try.prog 39 #[.agg #[.int .u8 s, .int .u32 r, .int .u8 m, .slice A mn c, .int .u8 k0, .int .u8 k1, .int .u16 k2, .int .u16 k3, .slice B rn d],
      .agg #[.int .u8 s, .int .u32 r, .int .u8 m, .slice A' mn c', .int .u8 k0, .int .u8 k1, .int .u16 k2, .int .u16 k3, .slice B' rn d']] w fun e w' => e = .returned (.bool true) ∧ Below w.heap.size w w' := by
  have ho := Hidd.mk (((Own.nil w (fun _ => False)).alloc (.cells #[.int .u8 s, .int .u32 r, .int .u8 m, .slice A mn c, .int .u8 k0, .int .u8 k1, .int .u16 k2, .int .u16 k3, .slice B rn d] 59)).alloc (.cells #[.int .u8 s, .int .u32 r, .int .u8 m, .slice A' mn c', .int .u8 k0, .int .u8 k1, .int .u16 k2, .int .u16 k3, .slice B' rn d'] 59))
  have HA := Hidd.mk hA
  have HA' := Hidd.mk hA'
  have HB := Hidd.mk hB
  have HB' := Hidd.mk hB'
  clear hA hA' hB hB'
  go_enter Try.func39, Try.ntmps39
  go_wp2_with (first
    | (go_at_call 45; refine (sameMsgs_any A A' mn c c' ms _ (HA.out.below (ho.out.below fun _ => id)) (HA'.out.below (ho.out.below fun _ => id)) hmn).mono ?_; rintro e w1 ⟨rfl, hb1⟩; have ho1 := ho.out.ext hb1; have x0 := ho1.cell 1 rfl 8; have y0 := ho1.cell 0 rfl 8; simp at x0 y0; replace ho1 := Hidd.mk ho1; clear hb1 ho)
    | (go_at_call 46; refine (sameRecs_any B B' rn d d' rs _ (HB.out.below (ho1.out.below fun _ => id)) (HB'.out.below (ho1.out.below fun _ => id)) hrn).mono ?_; rintro e w2 ⟨rfl, hb2⟩; have ho2 := Hidd.mk (ho1.out.ext hb2); clear hb2 ho1))
  go_ret
  exact ⟨rfl, ho2.out.below fun _ => id⟩
end Go.Proofs.Ytjejkmnlkmcckaa
