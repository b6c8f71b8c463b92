/- The fixed facts of layer 17. -/
import Derived.Test.YtcamoldjljfbeaaSoW
import Derived.Test.YtcamoldjljfbeaaSoK
namespace Go.Proofs.Ytcamoldjljfbeaa
open Go.RowKit

def aw17 : List Pt := [⟨0, 30, 20, 0, 0, 0, 0, 0, 0⟩, ⟨0, 10, 20, 0, 0, 0, 0, 0, 0⟩]
theorem aw17_in : ∀ p ∈ aw17, PtIn p := by
  intro p hp
  simp [aw17] at hp
  rcases hp with rfl | rfl <;> exact ⟨by decide, by decide, by decide, by decide⟩
theorem aw17_get {i : Nat} {p : Pt} (h : aw17[i]? = some p) : (i = 0 ∧ p = ⟨0, 30, 20, 0, 0, 0, 0, 0, 0⟩) ∨ (i = 1 ∧ p = ⟨0, 10, 20, 0, 0, 0, 0, 0, 0⟩) := by
  have hi := (List.getElem?_eq_some_iff.1 h).1
  simp only [aw17, List.length_cons, List.length_nil] at hi
  rcases i with _ | _ | i
  · exact .inl ⟨rfl, by injection h with h; exact h.symm⟩
  · exact .inr ⟨rfl, by injection h with h; exact h.symm⟩
  · omega
theorem aw17_dis : Dis aw17 := by
  intro i k p q hp hq hik
  rcases aw17_get hp with ⟨rfl, rfl⟩ | ⟨rfl, rfl⟩ <;> rcases aw17_get hq with ⟨rfl, rfl⟩ | ⟨rfl, rfl⟩
  · exact absurd rfl hik
  · decide
  · decide
  · exact absurd rfl hik
theorem aw17_ord : ordL aw17 0 = [1, 0] := by decide +kernel
theorem aw17_next {b : Int} {fd : Bool} (h : NextOf (EndOf aw17 0) 10 b fd) : b = 30 ∧ fd = true := by
  refine h.uniq (.inl ⟨rfl, ⟨0, by decide, by decide, .inl (by decide)⟩, by decide, ?_⟩)
  rintro e ⟨i, h1, h2, h3⟩ h4
  have hi : i = 0 ∨ i = 1 := by simp only [aw17, List.length_cons, List.length_nil] at h1; omega
  rcases hi with rfl | rfl
  · have e1 : stOf aw17 0 = 30 := rfl
    have e2 : lnOf aw17 0 = 20 := rfl
    rw [e1, e2] at h3
    omega
  · have e1 : stOf aw17 1 = 10 := rfl
    have e2 : lnOf aw17 1 = 20 := rfl
    rw [e1, e2] at h3
    omega
theorem aw17_at1 {r : Int} (h : AtIs aw17 0 30 r) : r = 0 := h.uniq aw17_dis (.inl ⟨0, by decide, by decide, by unfold inW; decide, rfl⟩)
theorem aw17_at2 {r : Int} (h : AtIs aw17 0 50 r) : r = -1 := h.uniq aw17_dis (.inr ⟨fun i h1 _ h3 => by
  have hi : i = 0 ∨ i = 1 := by simp only [aw17, List.length_cons, List.length_nil] at h1; omega
  unfold inW at h3
  rcases hi with rfl | rfl
  · revert h3; decide
  · revert h3; decide, rfl⟩)
theorem aw17_cells : (aw17.flatMap Pt.cells) = (#[.int .i64 0, .int .i64 30, .int .i64 20, .int .i64 0, .int .i64 0, .int .u8 0, .int .u8 0, .int .u8 0, .int .u8 0, .int .i64 0, .int .i64 10, .int .i64 20, .int .i64 0, .int .i64 0, .int .u8 0, .int .u8 0, .int .u8 0, .int .u8 0] : Array Value).toList := rfl
set_option maxRecDepth 100000
set_option maxHeartbeats 8000000
theorem awake17_any (w : World) : Calls Try.prog 34 #[] w fun e w' => e = .returned (.bool true) ∧ Below w.heap.size w w' := by
  go_enter Try.func34, Try.ntmps34
  go_upto_region 2 with (go_at_call 48; refine (one_any _).mono ?_; rintro e w1 ⟨rfl, hb⟩; have ho1 := Hidd.mk (((Own.nil w (fun _ => False)).ext hb).alloc (.cells #[.int .i64 1, .int .i64 0, .int .i64 1000, .int .i64 500, .int .i64 0, .int .i64 0, .int .i64 0, .int .i64 98, .slice none 0 0, .slice none 0 0, .slice none 0 0] 26)); clear hb)
  generalize World.alloc w1 _ = W1 at ho1 ⊢
  generalize w1.heap.size = p1 at ho1 ⊢
  have ho2 := ho1.out.set 0 rfl 8 (.slice (some ⟨W1.heap.size, 0, none⟩) 2 2)
  simp only [List.set_cons_zero, List.set_cons_succ, List.setIfInBounds_toArray] at ho2
  have hsz : (World.setCell W1 ⟨p1, 8, none⟩ (.slice (some ⟨W1.heap.size, 0, none⟩) 2 2)).heap.size = W1.heap.size := by simp [World.setCell]
  have ho3 := ho2.alloc (.cells #[.int .i64 0, .int .i64 30, .int .i64 20, .int .i64 0, .int .i64 0, .int .u8 0, .int .u8 0, .int .u8 0, .int .u8 0, .int .i64 0, .int .i64 10, .int .i64 20, .int .i64 0, .int .i64 0, .int .u8 0, .int .u8 0, .int .u8 0, .int .u8 0] 38)
  rw [hsz] at ho3
  obtain ⟨x0, x1, x2, x3, x4, x5, x6, x7, x8, x9, xA⟩ := cells11 ho1.out 0 rfl
  have hf := ho1.out.frozen 0 rfl 8
  have hpl := ho1.out.lt 0 rfl
  have hne : ¬ W1.heap.size = p1 := by omega
  clear ho2 hsz
  replace ho3 := Hidd.mk ho3
  clear ho1
  go_upto_region 3 with fail
  clear x0 x1 x2 x3 x4 x5 x6 x7 x8 x9 xA hf hpl hne
  generalize World.alloc (World.setCell W1 _ _) _ = W2 at ho3 ⊢
  generalize W1.heap.size = g at ho3 ⊢
  obtain ⟨x0, x1, x2, x3, x4, x5, x6, x7, x8, x9, xA⟩ := cells11 ho3.out 1 rfl
  have hP : ∀ W L, Own w (fun _ => False) W (blk g (.cells #[.int .i64 0, .int .i64 30, .int .i64 20, .int .i64 0, .int .i64 0, .int .u8 0, .int .u8 0, .int .u8 0, .int .u8 0, .int .i64 0, .int .i64 10, .int .i64 20, .int .i64 0, .int .i64 0, .int .u8 0, .int .u8 0, .int .u8 0, .int .u8 0] 38) :: L) → At Pt.cells W (some ⟨g, 0, none⟩) 2 aw17 := fun W L h => ⟨rfl, by rw [aw17_cells]; exact Cells.of_block (h.get 0 rfl)⟩
  replace hP := Hidd.mk hP
  have hin := Hidd.mk aw17_in
  have hdi := Hidd.mk aw17_dis
  have hor := Hidd.mk aw17_ord
  go_wp2_with (first
    | (go_at_call 35; have hq := ho3.out; clear hq; refine (frNext_any 1 0 1000 500 0 0 0 98 (some ⟨g, 0, none⟩) 2 2 none 0 0 none 0 0 aw17 0 10 _ (hP.out _ _ ho3.out) (by decide) hin.out hdi.out).mono ?_; rintro e w4 ⟨b, fd, rfl, hnx, hb⟩; obtain ⟨rfl, rfl⟩ := aw17_next hnx; have ho4 := Hidd.mk (ho3.out.ext hb); clear hb hnx ho3 x0 x1 x2 x3 x4 x5 x6 x7 x8 x9 xA; obtain ⟨x0, x1, x2, x3, x4, x5, x6, x7, x8, x9, xA⟩ := cells11 ho4.out 1 rfl)
    | (go_at_call 37; have hq := ho4.out; clear hq; refine (wins_any 1 0 1000 500 0 0 0 98 (some ⟨g, 0, none⟩) 2 2 none 0 0 none 0 0 aw17 0 [1, 0] _ (hP.out _ _ ho4.out) (by decide) hin.out hdi.out hor.out 2 rfl).mono ?_; rintro e w5 ⟨A, c, rfl, hn⟩; obtain ⟨h, rfl, _⟩ := head_any (show w5.ownsRow 0 62 3 (.slice A 2 c) 2 _ from hn.get 0 rfl) (by decide); have hk := row_cells hn 0 rfl; have z0 := cells_at (v := .int .i64 1) (j := 0) hk rfl; have z1 := cells_at (v := .int .i64 10) (j := 1) hk rfl; have z2 := cells_at (v := .int .i64 30) (j := 2) hk rfl; have ho5 := Hidd.mk (ho4.out.ext (hn.below fun _ => id)); clear hn hk ho4 x0 x1 x2 x3 x4 x5 x6 x7 x8 x9 xA; obtain ⟨x0, x1, x2, x3, x4, x5, x6, x7, x8, x9, xA⟩ := cells11 ho5.out 1 rfl)
    | (go_at_call 36; have hq := ho5.out; clear hq; refine (frAt_any 1 0 1000 500 0 0 0 98 (some ⟨g, 0, none⟩) 2 2 none 0 0 none 0 0 aw17 0 30 _ (hP.out _ _ ho5.out) (by decide) hin.out hdi.out).mono ?_; rintro e w6 ⟨r, rfl, ha, hb⟩; obtain rfl := aw17_at1 ha; have ho6 := Hidd.mk (ho5.out.ext hb); clear hb ha ho5 x0 x1 x2 x3 x4 x5 x6 x7 x8 x9 xA; obtain ⟨x0, x1, x2, x3, x4, x5, x6, x7, x8, x9, xA⟩ := cells11 ho6.out 1 rfl)
    | (go_at_call 36; have hq := ho6.out; clear hq; refine (frAt_any 1 0 1000 500 0 0 0 98 (some ⟨g, 0, none⟩) 2 2 none 0 0 none 0 0 aw17 0 50 _ (hP.out _ _ ho6.out) (by decide) hin.out hdi.out).mono ?_; rintro e w7 ⟨r, rfl, ha, hb⟩; obtain rfl := aw17_at2 ha; have ho7 := Hidd.mk (ho6.out.ext hb); clear hb ha ho6))
  go_ret
  exact ⟨rfl, ho7.out.below fun _ => id⟩
end Go.Proofs.Ytcamoldjljfbeaa
