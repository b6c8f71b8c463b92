/- The walk of the law CrcSums: it answers true, whatever it is given. -/
import Derived.Test.YtgdponkeceonkaaRefOpen
import Derived.Test.YtgdponkeceonkaaCrcLin
import Derived.Room.AppendStr
import Derived.RegionTactic
import Derived.Deep.RegionHeld
namespace Go.Proofs.Ytgdponkeceonkaa
open Go.RowKit Go.Lib

/-- What Open hands out. -/
def inner (xs : List Int) : List Int := if fits xs = true then xs.take (xs.length - 4) else []

theorem fits_long {xs : List Int} (h : fits xs = true) : 4 ≤ xs.length := by
  unfold fits at h
  simp at h
  exact h.1

theorem open_all (A : Option Addr) (c n : Nat) (xs ys : List Int) (f : Bool) (w : World) (hA : Cells w A (nums .u8 xs)) (hb : Bytes xs) (hn : n ≤ 140737488355000) (hl : xs.length = n) (hc : n ≤ c) (hf : fits xs = f) (hy : inner xs = ys) :
    Calls Try.prog 26 #[.slice A n c] w fun e w' => ∃ A' m c', e = .returned (.tuple #[.slice A' m c', .bool f]) ∧ m ≤ c' ∧ ys.length = m ∧ Cells w' A' (nums .u8 ys) ∧ Below w.heap.size w w' := by
  subst hy
  cases f with
  | true =>
    have h4 := fits_long hf
    obtain ⟨m, rfl⟩ : ∃ m, n = m + 4 := ⟨n - 4, by omega⟩
    refine (open_yes A c m xs w hA hb (by omega) hl hc hf).mono ?_
    rintro e w' ⟨A', c', rfl, h1, h2, h3, h4⟩
    have e : inner xs = xs.take m := by rw [inner, if_pos hf, hl, Nat.add_sub_cancel]
    rw [e]
    exact ⟨A', m, c', rfl, h1, by rw [List.length_take, hl]; omega, h3, h4⟩
  | false =>
    refine (open_no A c n xs w hA hb hn hl hc hf).mono ?_
    rintro e w' ⟨rfl, h⟩
    have e : inner xs = [] := by rw [inner, if_neg (by rw [hf]; decide)]
    rw [e]
    exact ⟨none, 0, 0, rfl, Nat.le_refl _, rfl, Cells.nil _ _, h⟩

theorem refOpen_all (A : Option Addr) (c n : Nat) (xs ys : List Int) (f : Bool) (w : World) (hA : Cells w A (nums .u8 xs)) (hb : Bytes xs) (hn : n ≤ 140737488355000) (hl : xs.length = n) (hc : n ≤ c) (hf : fits xs = f) (hy : inner xs = ys) :
    Calls Try.prog 27 #[.slice A n c] w fun e w' => ∃ A' m c', e = .returned (.tuple #[.slice A' m c', .bool f]) ∧ m ≤ c' ∧ ys.length = m ∧ Cells w' A' (nums .u8 ys) ∧ Below w.heap.size w w' := by
  subst hy
  by_cases h4 : n < 4
  · have hf' : fits xs = false := by
      rw [Bool.eq_false_iff]
      intro h
      have := fits_long h
      omega
    refine (refOpen_short A c n w h4).mono ?_
    rintro e w' ⟨rfl, rfl⟩
    have e : inner xs = [] := by rw [inner, if_neg (by rw [hf']; decide)]
    rw [e, ← hf, hf']
    exact ⟨none, 0, 0, rfl, Nat.le_refl _, rfl, Cells.nil _ _, Below.refl _ _⟩
  · obtain ⟨m, rfl⟩ : ∃ m, n = m + 4 := ⟨n - 4, by omega⟩
    refine (refOpen_long A c m xs w hA hb (by omega) hl hc).mono ?_
    rintro e w' ⟨h1, h2⟩
    cases f with
    | true =>
      obtain ⟨v, rfl, h3, h5⟩ := h1 hf
      obtain ⟨A', c', rfl, h6, _, h7⟩ := Cells.of_own h3
      have e : inner xs = xs.take m := by rw [inner, if_pos hf, hl, Nat.add_sub_cancel]
      rw [e]
      exact ⟨A', m, c', rfl, h6, by rw [List.length_take, hl]; omega, h7, h5⟩
    | false =>
      obtain ⟨rfl, h5⟩ := h2 hf
      have e : inner xs = [] := by rw [inner, if_neg (by rw [hf]; decide)]
      rw [e]
      exact ⟨none, 0, 0, rfl, Nat.le_refl _, rfl, Cells.nil _ _, h5⟩

theorem run_make_room (w : World) (n : Nat) (hn : n ≤ 140737488355328) :
    (Instr.makeSlice 32 (.int .i64 0) (.int .i64 (n : Int))).run Try.prog w = .ok (.slice (some ⟨w.heap.size, 0, none⟩) 0 n) (w.alloc (.cells (madeCells #[.int .u8 0] n) 5)) := by
  obtain ⟨i0, hi, hz0, hz1, hz2⟩ := info_parts info_u8
  have hr := run_make (P := Try.prog) w 32 5 i0 (.int .u8 0) Try.underlying32 hi hz0 .i64 .i64 0 n (by omega) (by omega) (by rw [hz2]; omega) (by omega)
  rw [hz1] at hr
  simpa [Value.cells] using hr

def spare : List Int := [115, 112, 97, 114, 101]
theorem spare_cells : strCells ⟨#[115, 112, 97, 114, 101]⟩ = nums .u8 spare := by rfl
theorem strOfNums_append (xs ys : List Int) : strOfNums (xs ++ ys) = strOfNums xs ++ strOfNums ys := by
  unfold strOfNums
  apply ByteArray.ext
  simp

theorem app_spare {w : World} {ops : Array Oper} {rest : List Oper} {o : Oper} {a : Act} {Q : Exit → Act → World → Prop} (hgd : o.guard = none) (s x : Operand)
    (ho : o.op = .call { callee := .builtin .append, args := #[s, x], argTypes := #[32, 9] })
    (base : Nat) (v : Value) (n : Nat) (xs : List Int) (hs : a.eval s = v) (hx : a.eval x = .string ⟨#[115, 112, 97, 114, 101]⟩) (hown : w.ownsRow base 5 1 v n (nums .u8 xs))
    (h63 : n + 5 ≤ 140737488355328) (hbase : base ≤ w.heap.size)
    (h : ∀ A' c' w', n + 5 ≤ c' → w'.ownsRow base 5 1 (.slice A' (n + 5) c') (n + 5) (nums .u8 (xs ++ spare)) → Cells w' A' (nums .u8 (xs ++ spare)) → w.grownBy w' v.ownBlock → Below base w w' →
      wpList Try.prog ops Q rest (a.put o.dst (.slice A' (n + 5) c')) w') : wpList Try.prog ops Q (o :: rest) a w := by
  obtain ⟨i0, hi, hz0, hz1, hz2⟩ := info_parts info_u8
  refine wpList_append_own_string (P := Try.prog) (w := w) hgd s x 32 9 ho base 5 i0 Try.underlying32 Try.underlying9 hi hz0 hz1 hz2 v n (nums .u8 xs) hs hown ⟨#[115, 112, 97, 114, 101]⟩ hx ?_ ?_ hbase fun v' w' h1 h2 _ => ?_
  · show n + 5 ≤ maxLen
    unfold maxLen
    omega
  · show n + 5 ≤ 140737488355328
    omega
  · rw [spare_cells, ← nums_append] at h1
    have hr : ∀ k, v.ownBlock = some k → base ≤ k := fun k hk => (hown.lt k hk).1
    obtain ⟨A', c', rfl, h4, _, h5⟩ := Cells.of_own h1
    exact h A' c' w' h4 h1 h5 h2 ((Below.refl base w).grown h2 hbase hr)

set_option maxRecDepth 100000 in
set_option maxHeartbeats 100000000 in
theorem crcSums_walk (a0 : Option Addr) (len0 cap0 : Nat) (z0 : List Int) (w : World) (h0 : IsRow .u8 w a0 len0 cap0 z0) (_ : len0 * 1 ≤ 140737488351232) :
    Calls Try.prog 8 #[.slice a0 len0 cap0] w fun e w' => e = .returned (.bool true) ∧ Below w.heap.size w w' := by
  obtain ⟨xs, hl, hc, _, hA, hwf⟩ := h0.open_
  have hb := wf_bytes hwf
  have HA := Hidd.mk hA
  have HB := Hidd.mk hb
  have HL := Hidd.mk hl
  clear hA hwf hb hl h0
  by_cases hlong : 5000 < len0
  · go_enter Try.func8, Try.ntmps8
    go_wp2_with (go_at_call 19; refine (awake_any _).mono ?_; rintro e w1 ⟨rfl, hb1⟩)
    go_ret
    exact ⟨rfl, hb1⟩
  · obtain ⟨f, hf⟩ : ∃ f, fits xs = f := ⟨_, rfl⟩
    obtain ⟨ys, hy⟩ : ∃ ys, inner xs = ys := ⟨_, rfl⟩
    obtain ⟨s, hs⟩ : ∃ s, crcSum xs = s := ⟨_, rfl⟩
    replace hf := Hidd.mk hf
    replace hy := Hidd.mk hy
    replace hs := Hidd.mk hs
    have hmk : ∀ W : World, (Instr.makeSlice 32 (.int .i64 0) (.int .i64 ((len0 : Int) + 9))).run Try.prog W = .ok (.slice (some ⟨W.heap.size, 0, none⟩) 0 (len0 + 9)) (W.alloc (.cells (madeCells #[.int .u8 0] (len0 + 9)) 5)) := fun W => run_make_room W (len0 + 9) (by omega)
    go_enter Try.func8, Try.ntmps8
    go_wp2_with (first | (go_at_call 19; refine (awake_any _).mono ?_; rintro e w1 ⟨rfl, hb1⟩; have hown0 := World.ownsRow_made (base := w1.heap.size) (e := 5) (size := 1) w1 (madeCells #[.int .u8 0] (len0 + 9)) (len0 + 9) (Nat.le_refl _) (by unfold maxLen; omega) (by rw [size_madeCells, Nat.mul_one]); have hbm := below_alloc hb1 (.cells (madeCells #[.int .u8 0] (len0 + 9)) 5)) | (at_builtin; refine app_sl rfl (.tmp 16) (.tmp 17) rfl w1.heap.size _ 0 [] rfl hown0 a0 len0 cap0 xs rfl HL.out (HA.out.below hbm) (by omega) (by simp) ?_; intro A2 c2 w2 hc2 ho2 hA2 hg2 hb2; rw [List.nil_append] at ho2; have hsz2 : w1.heap.size ≤ w2.heap.size := Nat.le_trans (by simp) hb2.size; replace hb2 := hbm.trans (hb2.mono hb1.size); clear hown0 hg2 hA2 hbm) | (at_builtin; refine app_spare rfl (.tmp 18) (.const (.string ⟨#[115, 112, 97, 114, 101]⟩)) rfl w1.heap.size _ (0 + len0) xs rfl rfl ho2 (by omega) (by omega) ?_; intro A3 c3 w3 hc3 ho3 hA3 hg3 hb3; replace ho3 := Hidd.mk ho3; replace hA3 := Hidd.mk hA3; rw [Nat.zero_add] at hc3; replace hb3 := hb2.trans (hb3.mono hb1.size); clear ho2 hb2 hg3 ho3; have hA3x : Hidd (Cells w3 A3 (nums .u8 xs)) := ⟨by have h := hA3.out.take len0; rw [← nums_take, List.take_left' HL.out] at h; exact h⟩; have HL3 : Hidd ((xs ++ spare).length = len0 + 5) := ⟨by rw [List.length_append, HL.out]; rfl⟩) | (go_at_call 26; refine (open_all A3 c3 len0 xs ys f _ hA3x.out HB.out (by omega) HL.out (by omega) hf.out hy.out).mono ?_; rintro e w4 ⟨A4, m4, c4, rfl, hc4, hl4, hA4, hb4⟩; replace hA4 := Hidd.mk hA4; replace hl4 := Hidd.mk hl4) | (go_at_call 27; refine (refOpen_all a0 cap0 len0 xs ys f _ (HA.out.below (below_then hb3 hb4)) HB.out (by omega) HL.out (by omega) hf.out hy.out).mono ?_; rintro e w5 ⟨A5, m5, c5, rfl, hc5, hl5, hA5, hb5⟩; replace hA5 := Hidd.mk hA5; replace hl5 := Hidd.mk hl5))
    have hcvA : ∀ W, Below w5.heap.size w5 W → (convert 32 9 (.slice A4 m4 c4)).run Try.prog W = .ok (.string (strOfNums ys)) W := fun W h => conv_at ((hA4.out.below hb5).below h) hl4.out
    have hcvC : ∀ W, Below w5.heap.size w5 W → (convert 32 9 (.slice A5 m5 c5)).run Try.prog W = .ok (.string (strOfNums ys)) W := fun W h => conv_at (hA5.out.below h) hl5.out
    have hcvI : ∀ W, Below w5.heap.size w5 W → (convert 32 9 (.slice A3 (len0 + 5) c3)).run Try.prog W = .ok (.string (strOfNums (xs ++ spare))) W := fun W h => conv_at ((hA3.out.below (below_then hb4 hb5)).below h) HL3.out
    have hcvB : ∀ W, Below w5.heap.size w5 W → (convert 32 9 (.slice a0 len0 cap0)).run Try.prog W = .ok (.string (strOfNums xs)) W := fun W h => conv_at ((HA.out.below (below_then (below_then hb3 hb4) hb5)).below h) HL.out
    have hcatx : strOfNums xs ++ ⟨#[115, 112, 97, 114, 101]⟩ = strOfNums (xs ++ spare) := by rw [strOfNums_append]; rfl
    have hcat := Hidd.mk hcatx
    have hA3y : Hidd (Cells w5 A3 (nums .u8 xs)) := ⟨hA3x.out.below (below_then hb4 hb5)⟩
    have hA0y : Hidd (Cells w5 a0 (nums .u8 xs)) := ⟨HA.out.below (below_then (below_then hb3 hb4) hb5)⟩
    have hbz : Below w.heap.size w w5 := below_then (below_then hb3 hb4) hb5
    have hbd : Below w5.heap.size w5 w5.drew := (Below.refl _ _).drew
    clear hA3x hA3 HA hA4 hA5 hmk hb3 hb4 hb5 hl4 hl5 HL3
    have hi0 : (0 : Int) ≤ (len0 : Int) := by omega
    have hi1 : (len0 : Int) ≤ (len0 : Int) + 5 := by omega
    have hi2 : (len0 : Int) ≤ (c3 : Int) := by omega
    have hi3 : len0 ≤ c3 := by omega
    have hssz : (strOfNums xs).size = len0 := by have := HL.out; simp [strOfNums, ByteArray.size, this]
    have hspz : (⟨#[115, 112, 97, 114, 101]⟩ : ByteArray).size = 5 := rfl
    have hsum : len0 + 5 ≤ 9223372036854775807 := by omega
    go_region_held (fun W => Below w5.heap.size w5 W) (first | assumption | exact hbd) ((first | (go_at_call 20; refine (sum_at A3 len0 c3 s xs _ hA3y.out.drew HB.out (by omega) HL.out hs.out).mono ?_; rintro e w' ⟨rfl, rfl⟩) | (go_at_call 28; refine (refSum_any a0 len0 cap0 s xs _ hA0y.out.drew HB.out (by omega) HL.out hs.out).mono ?_; rintro e w' ⟨rfl, rfl⟩) | (go_at_call 29; first | (refine (seal_at A3 len0 c3 xs _ hA3y.out.drew HB.out (by omega) HL.out).mono ?_; rintro e w6 ⟨A6, c6, rfl, hc6, ho6, hA6, hb6⟩; replace hb6 : Below w5.heap.size w5 w6 := below_of_drew hb6; have hs6 := Hidd.mk ho6; have hA6 := Hidd.mk hA6; have hb66 := Below.refl w6.heap.size w6; have hcv6 : ∀ W, Below w6.heap.size w6 W → (convert 32 9 (.slice A6 (len0 + 4) c6)).run Try.prog W = .ok (.string (strOfNums (crcSeal xs))) W := fun W h => conv_own (own_below hs6.out h)) | (refine (seal_at A3 len0 c3 xs _ (hA3y.out.below hb7) HB.out (by omega) HL.out).mono ?_; rintro e w6 ⟨A6, c6, rfl, hc6, ho6, hA6, hb6⟩; have hs6 := Hidd.mk ho6; have hA6 := Hidd.mk hA6; have hcv6 := conv_own hs6.out; have hb67 := hb6; replace hb6 := hb7.trans (hb6.mono hb7.size))) | (go_at_call 30; first | (refine (refSeal_any a0 len0 cap0 xs _ hA0y.out.drew HB.out (by omega) HL.out).mono ?_; rintro e w7 ⟨v7, rfl, ho7, hb7⟩; replace hb7 : Below w5.heap.size w5 w7 := below_of_drew hb7; have hs7 := Hidd.mk ho7; have hb77 := Below.refl w7.heap.size w7; have hcv7 : ∀ W, Below w7.heap.size w7 W → (convert 32 9 v7).run Try.prog W = .ok (.string (strOfNums (crcSeal xs))) W := fun W h => conv_own (own_below hs7.out h)) | (refine (refSeal_any a0 len0 cap0 xs _ (hA0y.out.below hb6) HB.out (by omega) HL.out).mono ?_; rintro e w7 ⟨v7, rfl, ho7, hb7⟩; have hs7 := Hidd.mk ho7; have hcv7 := conv_own hs7.out; have hb67 := hb7; replace hb7 := hb6.trans (hb7.mono hb6.size)))))
    all_goals
      go_wp2
      go_ret
      exact ⟨by first | rfl | (refine ret_true ?_; simp [hcat.out]), below_then hbz hb7⟩
end Go.Proofs.Ytgdponkeceonkaa
