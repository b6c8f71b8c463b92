/- The reference's Has and Kind over a text. -/
import Derived.Test.YtpiahnecpbalhaaHkA
namespace Go.Proofs.Ytpiahnecpbalhaa
open Go.RowKit
theorem ne_emptyK {s : ByteArray} (h : 0 < s.size) : s.toList.isEmpty = false := by
  rw [ByteArray.toList_eq]
  cases hl : s.data.toList with
  | nil =>
    have h2 : s.size = s.data.toList.length := by rw [Array.length_toList]; rfl
    rw [hl, List.length_nil] at h2
    omega
  | cons _ _ => rfl
set_option maxRecDepth 100000
set_option maxHeartbeats 8000000
theorem refHas_any (s : List Int) (len : Nat) (hlen : s.length = len) (hmax : len ≤ 100000) (hb : ∀ x ∈ s, 0 ≤ x ∧ x < 256) (out : List Int) (h : trR (s ++ [62]) 0 false false = some out) (x : Int) (b : Bool) (hx : out.any (fun y => y == x) = b) (w : World) :
    Calls Try.prog 44 #[.string (strOfNums s), .int .i64 x] w fun e w' => e = .returned (.bool b) ∧ Below w.heap.size w w' := by
  replace hb := Hidd.mk hb
  replace hlen := Hidd.mk hlen
  replace h := Hidd.mk h
  replace hx := Hidd.mk hx
  obtain ⟨m, hm⟩ : ∃ m, out.length = m := ⟨_, rfl⟩
  go_enter Try.func44, Try.ntmps44
  go_wp2_with (go_at_call 49; refine (trail_any s len hlen.out hmax hb.out out h.out _).mono ?_; rintro e w1 ⟨A, c, rfl, ho⟩; rw [hm] at ho ⊢; replace ho := Hidd.mk ho)
  replace hm := Hidd.mk hm
  go_loopg [6] m (fun g v6 wr => ∃ (i : Nat), i + g = m ∧ v6 = .int .i64 i ∧ Hidd ((out.take i).any (fun y => y == x) = false) ∧ Hidd (Own w (fun _ => False) wr [row 3 1 (.slice A m c) m (nums .i64 out)]))
  case atStart => exact ⟨0, by omega, rfl, ⟨rfl⟩, ho⟩
  case round =>
    clear ho
    obtain ⟨i, hg, rfl, ha, ho⟩ := hrel
    cases gk with
    | zero =>
      obtain rfl : i = m := by omega
      have d1 : decide (i < i) = false := by simp
      have hbf : Hidd (b = false) := ⟨by
        have := ha.out
        rw [List.take_of_length_le (by rw [hm.out]; exact Nat.le_refl _), hx.out] at this
        exact this⟩
      go_wp2
      (try rw [Exit.noGoto_ret])
      go_ret
      exact ⟨by rw [hbf.out]; rfl, ho.out.below fun _ => id⟩
    | succ g =>
      have hi : i < m := by omega
      have hgp : i + 1 + g = m := by omega
      have d1 : decide (i < m) = true := decide_eq_true hi
      have hmx : m ≤ 9223372036854775807 := by
        have hcm := row_le ho.out 0 rfl
        unfold maxLen at hcm
        omega
      obtain ⟨y, hy⟩ : ∃ y, out[i]? = some y := ⟨_, List.getElem?_eq_getElem (by rw [hm.out]; exact hi)⟩
      obtain ⟨ad, rfl, hc⟩ : ∃ ad, A = some ad ∧ wr.cell? (ad.add i) = some (.int .i64 y) := by
        obtain ⟨ad, e, h⟩ := row_cells ho.out 0 rfl i (.int .i64 y) (by simp [nums, hy])
        exact ⟨ad, e, h⟩
      have bi0 : (0 : Int) ≤ (i : Int) := by omega
      have bi1 : (i : Int) < (m : Int) := by omega
      have ht : out.take (i + 1) = out.take i ++ [y] := by rw [List.take_add_one, hy]; rfl
      have hmem : y ∈ out := List.mem_of_getElem? hy
      by_cases hd : y = x
      · have d2 : (y == x) = true := by rw [beq_iff_eq]; exact hd
        have hbt : Hidd (b = true) := ⟨by rw [← hx.out]; exact List.any_eq_true.2 ⟨y, hmem, d2⟩⟩
        clear hd ht hy hmem hg hi
        go_wp2
        (try rw [Exit.noGoto_ret])
        go_ret
        exact ⟨by rw [hbt.out]; rfl, ho.out.below fun _ => id⟩
      · have d2 : (y == x) = false := by rw [beq_eq_false_iff_ne]; exact hd
        have ha2 : Hidd ((out.take (i + 1)).any (fun y => y == x) = false) := ⟨by rw [ht, List.any_append, ha.out]; simp [hd]⟩
        clear hd ht hy hmem hg hi
        go_wp2
        go_roundg g
        case rel => exact ⟨i + 1, hgp, by go_num, ha2, ho⟩
        case measure => omega
def kindR (s out : List Int) : Int :=
  if s = [] then -1 else if out.any (fun y => y == 151) then 0 else if out.any (fun y => y == 150) then 1 else if out.any (fun y => y == 17) || out.any (fun y => y == 13) || out.any (fun y => y == 12) then 3
  else if out.any (fun y => y == 10) || out.any (fun y => y == 11) || out.any (fun y => y == 14) then -1 else 2
theorem refKind_any (s : List Int) (len : Nat) (hlen : s.length = len) (hmax : len ≤ 100000) (hb : ∀ x ∈ s, 0 ≤ x ∧ x < 256) (out : List Int) (h : trR (s ++ [62]) 0 false false = some out) (k : Int) (hk : kindR s out = k) (w : World) :
    Calls Try.prog 35 #[.string (strOfNums s)] w fun e w' => e = .returned (.int .i64 k) ∧ Below w.heap.size w w' := by
  by_cases hs : s = []
  · subst hs
    rw [kindR, if_pos rfl] at hk
    subst hk
    clear hb
    go_enter Try.func35, Try.ntmps35
    have he : strOfNums [] = (⟨#[]⟩ : ByteArray) := rfl
    rw [he]
    go_wp2
    go_ret
    exact ⟨rfl, Below.refl _ _⟩
  · have hne := ne_emptyK (s := strOfNums s) (by rw [strOfNums_size]; exact List.length_pos_iff.2 hs)
    rw [kindR, if_neg hs] at hk
    clear hs
    replace hb := Hidd.mk hb
    replace hlen := Hidd.mk hlen
    replace h := Hidd.mk h
    have hW := Hidd.mk (Below.refl w.heap.size w)
    rcases h1 : out.any (fun y => y == 151) with _ | _
    rcases h2 : out.any (fun y => y == 150) with _ | _
    rcases h3 : out.any (fun y => y == 17) with _ | _
    rcases h4 : out.any (fun y => y == 13) with _ | _
    rcases h5 : out.any (fun y => y == 12) with _ | _
    rcases h6 : out.any (fun y => y == 10) with _ | _
    rcases h7 : out.any (fun y => y == 11) with _ | _
    rcases h8 : out.any (fun y => y == 14) with _ | _
    all_goals simp [*] at hk
    all_goals subst hk
    all_goals (try replace h1 := Hidd.mk h1)
    all_goals (try replace h2 := Hidd.mk h2)
    all_goals (try replace h3 := Hidd.mk h3)
    all_goals (try replace h4 := Hidd.mk h4)
    all_goals (try replace h5 := Hidd.mk h5)
    all_goals (try replace h6 := Hidd.mk h6)
    all_goals (try replace h7 := Hidd.mk h7)
    all_goals (try replace h8 := Hidd.mk h8)
    all_goals go_enter Try.func35, Try.ntmps35
    all_goals go_wp2_with (first
      | (go_at_call 44; with_reducible refine (refHas_any s len hlen.out hmax hb.out out h.out 151 _ h1.out _).mono ?_; rintro e w' ⟨rfl, hB⟩; have hB2 := Hidd.mk (below_then hW.out hB); clear hB hW; have hW := hB2; clear hB2)
      | (go_at_call 44; with_reducible refine (refHas_any s len hlen.out hmax hb.out out h.out 150 _ h2.out _).mono ?_; rintro e w' ⟨rfl, hB⟩; have hB2 := Hidd.mk (below_then hW.out hB); clear hB hW; have hW := hB2; clear hB2)
      | (go_at_call 44; with_reducible refine (refHas_any s len hlen.out hmax hb.out out h.out 17 _ h3.out _).mono ?_; rintro e w' ⟨rfl, hB⟩; have hB2 := Hidd.mk (below_then hW.out hB); clear hB hW; have hW := hB2; clear hB2)
      | (go_at_call 44; with_reducible refine (refHas_any s len hlen.out hmax hb.out out h.out 13 _ h4.out _).mono ?_; rintro e w' ⟨rfl, hB⟩; have hB2 := Hidd.mk (below_then hW.out hB); clear hB hW; have hW := hB2; clear hB2)
      | (go_at_call 44; with_reducible refine (refHas_any s len hlen.out hmax hb.out out h.out 12 _ h5.out _).mono ?_; rintro e w' ⟨rfl, hB⟩; have hB2 := Hidd.mk (below_then hW.out hB); clear hB hW; have hW := hB2; clear hB2)
      | (go_at_call 44; with_reducible refine (refHas_any s len hlen.out hmax hb.out out h.out 10 _ h6.out _).mono ?_; rintro e w' ⟨rfl, hB⟩; have hB2 := Hidd.mk (below_then hW.out hB); clear hB hW; have hW := hB2; clear hB2)
      | (go_at_call 44; with_reducible refine (refHas_any s len hlen.out hmax hb.out out h.out 11 _ h7.out _).mono ?_; rintro e w' ⟨rfl, hB⟩; have hB2 := Hidd.mk (below_then hW.out hB); clear hB hW; have hW := hB2; clear hB2)
      | (go_at_call 44; with_reducible refine (refHas_any s len hlen.out hmax hb.out out h.out 14 _ h8.out _).mono ?_; rintro e w' ⟨rfl, hB⟩; have hB2 := Hidd.mk (below_then hW.out hB); clear hB hW; have hW := hB2; clear hB2))
    all_goals go_ret
    all_goals exact ⟨rfl, hW.out⟩
end Go.Proofs.Ytpiahnecpbalhaa
