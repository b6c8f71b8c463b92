/- The walk of the law CrcBack: it answers true, whatever it is given. -/
import Derived.Test.YtgdponkeceonkaaCrcL
namespace Go.Proofs.Ytgdponkeceonkaa
open Go.RowKit

theorem own_far {w : World} {base : Nat} {e : TypeId} {size n : Nat} {v : Value} {xs : List Value} (h : w.ownsRow base e size v n xs) {p : Addr} (hne : some p.block ≠ v.ownBlock) (u : Value) : (w.setCell p u).ownsRow base e size v n xs := by
  obtain ⟨h1, h2⟩ := h
  refine ⟨h1, ?_⟩
  rcases h2 with h2 | ⟨g, cap, cur, rfl, hg, hh, r⟩
  · exact .inl h2
  · exact .inr ⟨g, cap, cur, rfl, hg, by rw [Below.heap_setCell _ _ _ _ (fun e => hne (by rw [e]; rfl))]; exact hh, r⟩

/-- An own row with an element begins at the head of a block. -/
theorem own_head {w : World} {base : Nat} {e : TypeId} {n c : Nat} {A : Option Addr} {xs : List Value} (h : w.ownsRow base e 1 (.slice A n c) n xs) (hn : 0 < n) : ∃ g, A = some ⟨g, 0, none⟩ ∧ base ≤ g ∧ g < w.heap.size := by
  rcases h.2 with ⟨h', h0⟩ | ⟨g', cap', cur, h', hb, hg, _⟩
  · omega
  · injection h' with h1 _ _
    exact ⟨g', h1, hb, (Array.getElem?_eq_some_iff.1 hg).1⟩

theorem own_cells {w : World} {base : Nat} {e : TypeId} {size n c : Nat} {A : Option Addr} {xs : List Value} (h : w.ownsRow base e size (.slice A n c) n xs) : Cells w A xs := by
  obtain ⟨A', c', e1, _, _, h4⟩ := Cells.of_own h
  injection e1 with e1
  rw [e1]
  exact h4

theorem conv_at {w : World} {A : Option Addr} {n c : Nat} {xs : List Int} (h : Cells w A (nums .u8 xs)) (hl : xs.length = n) : (convert 32 9 (.slice A n c)).run Try.prog w = .ok (.string (strOfNums xs)) w := by
  subst hl
  exact conv_str Try.underlying32 Try.underlying5 Try.underlying9 h

theorem num4_le4 (n : Nat) (hn : n < 4294967296) : num4 (le4 n) = n := by
  show ((n % 256 : Nat) : Int).toNat + ((n / 256 % 256 : Nat) : Int).toNat * 256 + ((n / 65536 % 256 : Nat) : Int).toNat * 65536 + ((n / 16777216 % 256 : Nat) : Int).toNat * 16777216 = n
  simp only [Int.toNat_natCast]
  omega

theorem seal_take (xs : List Int) : (crcSeal xs).take xs.length = xs := by simp [crcSeal]
theorem fits_seal {xs : List Int} (h : Bytes xs) : fits (crcSeal xs) = true := by
  rw [fits, crcSeal_length, show xs.length + 4 - 4 = xs.length by omega, seal_take, decide_eq_true (by omega), Bool.true_and, show (crcSeal xs).drop xs.length = le4 (crcSum xs) from by simp [crcSeal], num4_le4 _ (crcSum_lt h)]
  simp

set_option maxHeartbeats 1000000 in
theorem crcBack_walk (a0 : Option Addr) (len0 cap0 : Nat) (z0 : List Int) (w : World) (h0 : IsRow .u8 w a0 len0 cap0 z0) (_ : len0 * 1 ≤ 140737488351232) :
    Calls Try.prog 9 #[.slice a0 len0 cap0] w fun e w' => e = .returned (.bool true) ∧ Below w.heap.size w w' := by
  obtain ⟨xs, hl, hc, _, hA, hwf⟩ := h0.open_
  have hb := wf_bytes hwf
  have HA := Hidd.mk hA
  have HB := Hidd.mk hb
  have HL := Hidd.mk hl
  have HF := Hidd.mk (fits_seal hb)
  have HS := Hidd.mk (crcSeal_bytes hb)
  have HT := Hidd.mk (show (crcSeal xs).take len0 = xs by rw [← hl]; exact seal_take xs)
  have HN := Hidd.mk (show (crcSeal xs).length = len0 + 4 by rw [crcSeal_length, hl])
  clear hA hwf hb hl h0
  by_cases hlong : 5000 < len0
  · go_enter Try.func9, Try.ntmps9
    go_wp2_with (go_at_call 19; refine (awake_any _).mono ?_; rintro e w1 ⟨rfl, hb1⟩)
    go_ret
    exact ⟨rfl, hb1⟩
  · go_enter Try.func9, Try.ntmps9
    go_wp2_with (first | (go_at_call 19; refine (awake_any _).mono ?_; rintro e w1 ⟨rfl, hb1⟩) | (go_at_call 29; refine (seal_at a0 len0 cap0 xs _ (HA.out.below hb1) HB.out (by omega) HL.out).mono ?_; rintro e w2 ⟨A2, c2, rfl, hc2, ho2, hA2, hb2⟩; have hlt2 := Hidd.mk (own_lt ho2); replace ho2 := Hidd.mk ho2; replace hA2 := Hidd.mk hA2) | (go_at_call 26; refine (open_yes A2 c2 len0 (crcSeal xs) _ hA2.out HS.out (by omega) HN.out hc2 HF.out).mono ?_; rintro e w3 ⟨A3, c3, rfl, hc3, ho3, _, hb3⟩; rw [HT.out] at ho3; replace ho3 := Hidd.mk ho3; replace ho2 := Hidd.mk (own_below ho2.out hb3); clear hA2))
    go_loopw [23] (fun v23 wr => ∃ (k : Nat) (ys : List Int), v23 = .int .i64 k ∧ k ≤ len0 ∧ Hidd (ys.length = len0) ∧ Hidd (wr.ownsRow w2.heap.size 5 1 (.slice A3 len0 c3) len0 (nums .u8 ys)) ∧ Hidd (wr.ownsRow w1.heap.size 5 1 (.slice A2 (len0 + 4) c2) (len0 + 4) (nums .u8 (crcSeal xs))) ∧ Below w.heap.size w wr ∧ w2.heap.size ≤ wr.heap.size) (fun v23 _ => len0 - (intOf v23).toNat)
    case atStart => exact ⟨0, xs, rfl, Nat.zero_le _, HL, ho3, ho2, below_then (below_then hb1 hb2) hb3, hb3.size⟩
    case round =>
      clear ho3 ho2
      obtain ⟨k, ys, rfl, hk, hys, ho3, ho2, hbr, hzr⟩ := hrel
      by_cases hlt : k < len0
      · obtain ⟨g, rfl, hg1, hg2⟩ := own_head ho3.out (by omega)
        have hcell : wr.cell? ⟨g, k, none⟩ = some (.int .u8 (ys.getD k 0)) := by
          obtain ⟨ad, e, h⟩ := (own_cells ho3.out).at k (by rw [hys.out]; exact hlt)
          injection e with e
          subst e
          rwa [add_plain] at h
        have hfr := ho3.out.frozenAt k
        generalize ys.getD k 0 = y at hcell
        go_wp2
        go_roundw
        case rel =>
          refine ⟨k + 1, ys.set k (bits .xor .u8 y 85), by go_num, by omega, ⟨by rw [List.length_set]; exact hys.out⟩, ⟨?_⟩, ⟨own_far ho2.out ?_ _⟩, hbr.setCell (Nat.le_trans (Nat.le_trans hb1.size hb2.size) hg1) _, by simp; omega⟩
          · rw [nums, List.map_set]
            exact (ho3.out.stored k _).1
          · intro e
            rcases own_apart ho3.out hlt2.out with h | h
            · cases h
            · exact h e
        case measure => simp [intOf]; omega
      · go_wp2_with (go_at_call 26; refine (open_yes A2 c2 len0 (crcSeal xs) _ (own_cells ho2.out) HS.out (by omega) HN.out hc2 HF.out).mono ?_; rintro e w3 ⟨A5, c5, rfl, hc5, _, hA5, hb5⟩; rw [HT.out] at hA5; have hcv1 := conv_at (c := c5) hA5 HL.out; have hcv2 := conv_at (c := cap0) (HA.out.below (below_then hbr hb5)) HL.out)
        go_ret
        exact ⟨ret_true (by simp), below_then hbr hb5⟩

end Go.Proofs.Ytgdponkeceonkaa
