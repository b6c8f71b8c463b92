/- The fixed facts of the wire's laws. -/
import Derived.Test.YtmbbfcpoiecfhaaWirF
import Derived.Test.YtmbbfcpoiecfhaaShp
import Derived.Lib.SlBytesConst
namespace Go.Proofs.Ytmbbfcpoiecfhaa
open Go.RowKit

theorem wtr_new {w w0 : World} {S : Nat → Prop} {L : List Res} (h : Own w0 S w L) : Own w0 S (w.alloc (.cells #[.slice none 0 0] 26)) (wtr w.heap.size none 0 0 [] :: L) := by
  have h1 := h.alloc (.cells #[.slice none 0 0] 26)
  have h2 := (h1.new (wres 5 1 none 0 0 []) (Below.refl _ _) (wres_nil _ _ _) (fun i hi => by cases hi)).perm (List.Perm.swap _ _ _)
  exact h2.join (wtr w.heap.size none 0 0 []) (fun a b c => ⟨a, b, fun k hk e => c k e hk⟩) (fun i hi => hi)
theorem conv_at {w : World} {A : Option Addr} {n c : Nat} {xs : List Int} (h : Cells w A (nums .u8 xs)) (hl : xs.length = n) : (convert 24 9 (.slice A n c)).run Try.prog w = .ok (.string (strOfNums xs)) w := by
  subst hl
  exact conv_str Try.underlying24 Try.underlying5 Try.underlying9 h
theorem aw_bytes : [] ++ wputN 74565 3 ++ [((2 : Nat) : Int)] ++ [97, 98].take 2 = [1, 35, 69, 2, 97, 98] := by decide +kernel
theorem aw_str : strOfNums [1, 35, 69, 2, 97, 98] = (⟨#[1, 35, 69, 2, 97, 98]⟩ : ByteArray) := rfl
theorem aw_ab : strOfNums [97, 98] = (⟨#[97, 98]⟩ : ByteArray) := rfl
theorem aw_take : takeR [1, 35, 69, 2, 97, 98] 6 0 none 3 = (74565, 3, none) := by decide +kernel
theorem aw_text : textR [1, 35, 69, 2, 97, 98] 6 3 none = ([97, 98], 6, none) := by decide +kernel
theorem aw_end : endE 6 6 none = none := by decide +kernel
theorem aw_range : ∀ x ∈ [(1 : Int), 35, 69, 2, 97, 98], 0 ≤ x ∧ x < 256 := by decide

set_option maxRecDepth 100000 in
theorem awake_any (w : World) : Calls Try.prog 14 #[] w fun e w' => e = .returned (.bool true) ∧ Below w.heap.size w w' := by
  have ho0 := Hidd.mk (wtr_new (Own.nil w (fun _ => False)))
  have hs1 := aw_str
  have hs2 := aw_ab
  have kc := fun (w : World) (C : Array Value) (n c : Nat) => Lib.run_convert_bytes_const (P := Try.prog) w 24 5 C n c Try.underlying24 Try.underlying5
  go_enter Try.func14, Try.ntmps14
  go_wp2_with (first
    | (go_at_call 17; refine (put_own 0 ho0.out rfl 74565 3 (by decide) (by decide) 3 rfl).mono ?_; rintro e w1 ⟨rfl, A1, c1, ho1⟩; replace ho1 := Hidd.mk (ho1.alloc (.cells #[.int .u8 97, .int .u8 98] 5 (2, 3))); clear ho0)
    | (go_at_call 15; refine (text_own 1 ho1.out rfl (by decide) (some ⟨w1.heap.size, 0, none⟩) 2 2 [97, 98] (Cells.new _ _ _ _ rfl) rfl (by decide) (fun ad h _ hf => by (injection h with h; subst h; exact ho1.out.apart 0 1 rfl rfl (by decide) _ rfl hf)) 2 rfl).mono ?_; rintro e w2 ⟨rfl, A2, c2, ho2⟩; rw [aw_bytes] at ho2; replace ho2 := Hidd.mk ho2; clear ho1)
    | (go_at_call 19; refine (bytes_own 1 ho2.out rfl (by decide)).mono ?_; rintro e w3 ⟨A3, c3, rfl, ho3⟩; have hc3 := Hidd.mk (show WIn w3 5 1 A3 _ c3 (nums .u8 [1, 35, 69, 2, 97, 98]) from ho3.get 0 rfl).cells; replace ho3 := Hidd.mk ho3; clear ho2)
    | (go_at_call 20; refine (read_own A3 _ c3 [1, 35, 69, 2, 97, 98] _ hc3.out rfl (by decide)).mono ?_; rintro e w4 ⟨b4, A4, c4, rfl, hn4⟩; have ho4 := Hidd.mk (ho3.out.made hn4); clear ho3 hn4 hc3)
    | (go_at_call 19; refine (bytes_own 3 ho4.out rfl (by decide)).mono ?_; rintro e w5 ⟨A5, c5, rfl, ho5⟩; have hcv := conv_at (n := 6) (c := c5) (show WIn w5 5 1 A5 _ c5 (nums .u8 [1, 35, 69, 2, 97, 98]) from ho5.get 0 rfl).cells rfl; replace ho5 := Hidd.mk ho5; clear ho4)
    | (go_at_call 22; refine (take_own 1 ho5.out rfl (by decide) (by decide) aw_range 3 _ _ _ aw_take).mono ?_; rintro e w6 ⟨rfl, ev6, ho6⟩; replace ho6 := Hidd.mk ho6; clear ho5 hcv)
    | (go_at_call 21; refine (rtext_own 1 ho6.out rfl (by decide) (by decide) aw_range _ _ _ aw_text).mono ?_; rintro e w7 ⟨A7, c7, rfl, ev7, ho7⟩; have hcv := conv_at (n := 2) (c := c7) (show WIn w7 5 1 A7 _ c7 (nums .u8 [97, 98]) from ho7.get 0 rfl).cells rfl; replace ho7 := Hidd.mk ho7; clear ho6)
    | (go_at_call 23; refine (end_own 2 ho7.out rfl _ aw_end).mono ?_; rintro e w8 ⟨v8, rfl, he8, ho8⟩; (obtain rfl : v8 = .nilIface := he8); replace ho8 := Hidd.mk ho8; clear ho7))
  go_ret
  exact ⟨rfl, ho8.out.below fun _ => id⟩
end Go.Proofs.Ytmbbfcpoiecfhaa
