/- The walks of the laws CrcRests and CrcParts: each answers true, whatever it is given. -/
import Derived.Test.YtgdponkeceonkaaCrc
namespace Go.Proofs.Ytgdponkeceonkaa
open Go.RowKit

/-- 'Seal' and 'Open' once more, what they answer written out as slices. -/
theorem seal_at (A : Option Addr) (n c : Nat) (xs : List Int) (w : World) (hA : Cells w A (nums .u8 xs)) (hb : Bytes xs) (hn : n ≤ 140737488355000) (hl : xs.length = n) :
    Calls Try.prog 29 #[.slice A n c] w fun e w' => ∃ A' c', e = .returned (.slice A' (n + 4) c') ∧ n + 4 ≤ c' ∧ w'.ownsRow w.heap.size 5 1 (.slice A' (n + 4) c') (n + 4) (nums .u8 (crcSeal xs)) ∧ Cells w' A' (nums .u8 (crcSeal xs)) ∧ Below w.heap.size w w' := by
  subst hl
  refine (seal_any A c xs w hA hb hn).mono ?_
  rintro e w' ⟨v, rfl, h1, h2⟩
  obtain ⟨A', c', rfl, h3, _, h4⟩ := Cells.of_own h1
  exact ⟨A', c', rfl, h3, h1, h4, h2⟩

theorem open_yes (A : Option Addr) (c n : Nat) (xs : List Int) (w : World) (hA : Cells w A (nums .u8 xs)) (hb : Bytes xs) (hn : n ≤ 140737488355000) (hl : xs.length = n + 4) (hc : n + 4 ≤ c) (hf : fits xs = true) :
    Calls Try.prog 26 #[.slice A (n + 4) c] w fun e w' => ∃ A' c', e = .returned (.tuple #[.slice A' n c', .bool true]) ∧ n ≤ c' ∧ w'.ownsRow w.heap.size 5 1 (.slice A' n c') n (nums .u8 (xs.take n)) ∧ Cells w' A' (nums .u8 (xs.take n)) ∧ Below w.heap.size w w' := by
  refine (open_long A c n xs w hA hb hn hl hc).mono ?_
  rintro e w' ⟨h, _⟩
  obtain ⟨v, rfl, h1, h2⟩ := h hf
  obtain ⟨A', c', rfl, h3, _, h4⟩ := Cells.of_own h1
  exact ⟨A', c', rfl, h3, h1, h4, h2⟩

theorem open_no (A : Option Addr) (c n : Nat) (xs : List Int) (w : World) (hA : Cells w A (nums .u8 xs)) (hb : Bytes xs) (hn : n ≤ 140737488355000) (hl : xs.length = n) (hc : n ≤ c) (hf : fits xs = false) :
    Calls Try.prog 26 #[.slice A n c] w fun e w' => e = .returned (.tuple #[.slice none 0 0, .bool false]) ∧ Below w.heap.size w w' := by
  by_cases h : n < 4
  · exact (open_short A c n w h).mono fun e w' ⟨h1, h2⟩ => ⟨h1, by subst h2; exact Below.refl _ _⟩
  · obtain ⟨m, rfl⟩ : ∃ m, n = m + 4 := ⟨n - 4, by omega⟩
    exact (open_long A c m xs w hA hb (by omega) hl hc).mono fun e w' ⟨_, h2⟩ => h2 hf

theorem sum_nil : crcSum [] = 0 := by decide +kernel
theorem sum_nine : crcSum [49, 50, 51, 52, 53, 54, 55, 56, 57] = 3421780262 := by decide +kernel
theorem bytes_nine : Bytes [49, 50, 51, 52, 53, 54, 55, 56, 57] := by intro x hx; simp at hx; omega
theorem bytes_nil : Bytes [] := by intro x hx; cases hx

set_option maxRecDepth 10000 in
theorem awake_any (w : World) :
    Calls Try.prog 19 #[] w fun e w' => e = .returned (.bool true) ∧ Below w.heap.size w w' := by
  have kc := Lib.run_convert_bytes_const (P := Try.prog) (w.alloc (.cells #[.int .u8 0] 5)) 32 5 #[.int .u8 49, .int .u8 50, .int .u8 51, .int .u8 52, .int .u8 53, .int .u8 54, .int .u8 55, .int .u8 56, .int .u8 57] 9 9 Try.underlying32 Try.underlying5
  rw [World.size_alloc] at kc
  go_enter Try.func19, Try.ntmps19
  go_wp2_with (first | (go_at_call 26; refine (open_short _ _ _ _ (by decide)).mono ?_; rintro e w' ⟨rfl, rfl⟩) | (go_at_call 20; first | ((with_reducible refine (sum_at none 0 0 0 [] _ (Cells.nil _ _) bytes_nil (by decide) rfl sum_nil).mono ?_); rintro e w' ⟨rfl, rfl⟩) | (refine (sum_at _ 9 9 3421780262 [49, 50, 51, 52, 53, 54, 55, 56, 57] _ (Cells.new1 _ _ _ _ _ rfl) bytes_nine (by decide) rfl sum_nine).mono ?_; rintro e w' ⟨rfl, rfl⟩)))
  go_ret
  exact ⟨rfl, below_alloc (below_alloc (Below.refl _ _) _) _⟩

theorem wf_bytes {xs : List Int} (h : ∀ n ∈ xs, (Lit.int .u8 n).wf = true) : Bytes xs := fun x hx => bounds_u8 (h x hx)

/-- The check of sealed bytes is one number. -/
theorem rests (xs : List Int) (h : Bytes xs) : crcStep 4294967295 (crcSeal xs) = bitN 32 4294967295 := by
  rw [crcSeal, crcStep_append, crcStep_le4 _ _ (crcSum_lt h), crcSum]
  congr 1
  rw [Nat.xor_comm 4294967295, ← Nat.xor_assoc, Nat.xor_self, Nat.zero_xor]

theorem rests_sum (xs : List Int) (h : Bytes xs) : crcSum (crcSeal xs) = 558161692 := by
  rw [crcSum, rests xs h]
  decide +kernel

theorem crcRests_walk (a0 : Option Addr) (len0 cap0 : Nat) (z0 : List Int) (w : World) (h0 : IsRow .u8 w a0 len0 cap0 z0) (_ : len0 * 1 ≤ 140737488351232) :
    Calls Try.prog 11 #[.slice a0 len0 cap0] w fun e w' => e = .returned (.bool true) ∧ Below w.heap.size w w' := by
  obtain ⟨xs, hl, hc, _, hA, hwf⟩ := h0.open_
  have hb := wf_bytes hwf
  by_cases hlong : 5000 < len0
  · go_enter Try.func11, Try.ntmps11
    go_wp2_with (go_at_call 19; refine (awake_any _).mono ?_; rintro e w1 ⟨rfl, hb1⟩)
    go_ret
    exact ⟨rfl, hb1⟩
  · have HA := Hidd.mk hA
    have HB := Hidd.mk hb
    have HL := Hidd.mk hl
    clear hA hwf hb hl
    go_enter Try.func11, Try.ntmps11
    go_wp2_with (first | (go_at_call 19; refine (awake_any _).mono ?_; rintro e w1 ⟨rfl, hb1⟩) | (go_at_call 29; refine (seal_at a0 len0 cap0 xs _ (HA.out.below hb1) HB.out (by omega) HL.out).mono ?_; rintro e w2 ⟨A2, c2, rfl, hc2, _, hA2, hb2⟩; replace hA2 := Hidd.mk hA2) | (go_at_call 20; refine (sum_at A2 _ c2 558161692 (crcSeal xs) _ hA2.out (crcSeal_bytes HB.out) (by omega) (by rw [crcSeal_length, HL.out]) (rests_sum xs HB.out)).mono ?_; rintro e w' ⟨rfl, rfl⟩))
    go_ret
    exact ⟨rfl, below_then hb1 hb2⟩

theorem parts_sum (xs ms : List Int) (h : Bytes xs) : crcSum (crcSeal xs ++ ms) = 4294967295 ^^^ crcStep (bitN 32 4294967295) ms := by
  rw [crcSum, crcStep_append, rests xs h]

set_option maxHeartbeats 1000000 in
theorem crcParts_walk (a0 : Option Addr) (len0 cap0 : Nat) (z0 : List Int) (a1 : Option Addr) (len1 cap1 : Nat) (z1 : List Int) (a2 : Option Addr) (len2 cap2 : Nat) (z2 : List Int) (w : World)
    (h0 : IsRow .u8 w a0 len0 cap0 z0) (_ : len0 * 1 ≤ 140737488351232) (h1 : IsRow .u8 w a1 len1 cap1 z1) (_ : len1 * 1 ≤ 140737488351232) (h2 : IsRow .u8 w a2 len2 cap2 z2) (_ : len2 * 1 ≤ 140737488351232) :
    Calls Try.prog 12 #[.slice a0 len0 cap0, .slice a1 len1 cap1, .slice a2 len2 cap2] w fun e w' => e = .returned (.bool true) ∧ Below w.heap.size w w' := by
  obtain ⟨xs, hl0, hc0, _, hA0, hwf0⟩ := h0.open_
  obtain ⟨ys, hl1, hc1, _, hA1, hwf1⟩ := h1.open_
  obtain ⟨ms, hl2, hc2, _, hA2, hwf2⟩ := h2.open_
  have HB0 := Hidd.mk (wf_bytes hwf0)
  have HB1 := Hidd.mk (wf_bytes hwf1)
  have HB2 := Hidd.mk (wf_bytes hwf2)
  have HA0 := Hidd.mk hA0
  have HA1 := Hidd.mk hA1
  have HA2 := Hidd.mk hA2
  have HL0 := Hidd.mk hl0
  have HL1 := Hidd.mk hl1
  have HL2 := Hidd.mk hl2
  clear hwf0 hwf1 hwf2 hA0 hA1 hA2 hl0 hl1 hl2 h0 h1 h2
  by_cases g0 : 2000 < len0
  · go_enter Try.func12, Try.ntmps12
    go_wp2_with (go_at_call 19; refine (awake_any _).mono ?_; rintro e w1 ⟨rfl, hb1⟩)
    go_ret
    exact ⟨rfl, hb1⟩
  · by_cases g1 : 2000 < len1
    · go_enter Try.func12, Try.ntmps12
      go_wp2_with (go_at_call 19; refine (awake_any _).mono ?_; rintro e w1 ⟨rfl, hb1⟩)
      go_ret
      exact ⟨rfl, hb1⟩
    · by_cases g2 : 2000 < len2
      · go_enter Try.func12, Try.ntmps12
        go_wp2_with (go_at_call 19; refine (awake_any _).mono ?_; rintro e w1 ⟨rfl, hb1⟩)
        go_ret
        exact ⟨rfl, hb1⟩
      · obtain ⟨s, hs⟩ : ∃ s, 4294967295 ^^^ crcStep (bitN 32 4294967295) ms = s := ⟨_, rfl⟩
        have HS := Hidd.mk hs
        clear hs
        go_enter Try.func12, Try.ntmps12
        go_wp2_with (first | (go_at_call 19; refine (awake_any _).mono ?_; rintro e w1 ⟨rfl, hb1⟩) | (go_at_call 29; first | ((with_reducible refine (seal_at a0 len0 cap0 xs _ (HA0.out.below hb1) HB0.out (by omega) HL0.out).mono ?_); rintro e w2 ⟨A2, c2, rfl, hc2, ho2, _, hb2⟩; replace ho2 := Hidd.mk ho2) | ((with_reducible refine (seal_at a1 len1 cap1 ys _ (HA1.out.below (below_then hb1 hb2)) HB1.out (by omega) HL1.out).mono ?_); rintro e w3 ⟨A3, c3, rfl, hc3, ho3, _, hb3⟩; replace ho3 := Hidd.mk ho3)) | (at_builtin; refine app_sl rfl (.tmp 28) (.tmp 29) rfl w1.heap.size (.slice A2 (len0 + 4) c2) _ _ rfl (own_below ho2.out hb3) a2 len2 cap2 ms rfl HL2.out (HA2.out.below (below_then (below_then hb1 hb2) hb3)) (by omega) (Nat.le_trans hb2.size hb3.size) ?_; intro A4 c4 w4 hc4 ho4 hA4 hg4 hb4; replace hA4 := Hidd.mk hA4; replace ho3 := Hidd.mk (ho3.out.kept hg4 (own_apart ho3.out (own_lt ho2.out))); have hz4 := Nat.le_trans hb3.size hg4.size; replace hb4 := below_grow (below_then (below_then hb1 hb2) hb3) hb4 hb1.size; clear ho4 hg4 ho2) | (go_at_call 20; first | ((with_reducible refine (sum_at A4 _ c4 s (crcSeal xs ++ ms) _ hA4.out (bytes_append (crcSeal_bytes HB0.out) HB2.out) (by omega) (by rw [List.length_append, crcSeal_length, HL0.out, HL2.out]) (by rw [parts_sum xs ms HB0.out]; exact HS.out)).mono ?_); rintro e w' ⟨rfl, rfl⟩) | ((with_reducible refine (sum_at A5 _ c5 s (crcSeal ys ++ ms) _ hA5.out (bytes_append (crcSeal_bytes HB1.out) HB2.out) (by omega) (by rw [List.length_append, crcSeal_length, HL1.out, HL2.out]) (by rw [parts_sum ys ms HB1.out]; exact HS.out)).mono ?_); rintro e w' ⟨rfl, rfl⟩)) | (at_builtin; refine app_sl rfl (.tmp 32) (.tmp 33) rfl w2.heap.size (.slice A3 (len1 + 4) c3) _ _ rfl ho3.out a2 len2 cap2 ms rfl HL2.out (HA2.out.below hb4) (by omega) hz4 ?_; intro A5 c5 w5 hc5 ho5 hA5 hg5 hb5; replace hA5 := Hidd.mk hA5; clear ho5))
        go_ret
        exact ⟨ret_true (by simp), below_grow hb4 hb5 (Nat.le_trans hb1.size hb2.size)⟩

end Go.Proofs.Ytgdponkeceonkaa
