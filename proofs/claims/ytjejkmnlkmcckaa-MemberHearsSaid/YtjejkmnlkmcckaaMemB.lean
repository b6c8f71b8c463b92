/- The contract of Most; the plain law of the majority. -/
import Derived.Test.YtjejkmnlkmcckaaMemA
namespace Go.Proofs.Ytjejkmnlkmcckaa
open Go.RowKit

/-- A step of the vote. -/
def voteStep (p : Int × Nat) (x : Int) : Int × Nat := if p.2 = 0 then (x, 1) else if x = p.1 then (p.1, p.2 + 1) else (p.1, p.2 - 1)
def vote (l : List Int) : Int × Nat := l.foldl voteStep (0, 0)
theorem vote_take {l : List Int} {i : Nat} {x : Int} (h : l[i]? = some x) : vote (l.take (i + 1)) = voteStep (vote (l.take i)) x := by
  unfold vote
  rw [List.take_add_one, h, List.foldl_append]
  rfl
theorem count_take {l : List Int} {i : Nat} {x b : Int} (h : l[i]? = some x) : (l.take (i + 1)).count b = (l.take i).count b + if x = b then 1 else 0 := by
  rw [List.take_add_one, h, List.count_append]
  by_cases hx : x = b
  · subst hx; simp
  · simp [hx]
/-- What stands in more than half of a list. -/
def mostV (l : List Int) : Int × Bool := if 2 * l.count (vote l).1 ≤ l.length then (0, false) else ((vote l).1, true)

set_option maxRecDepth 100000 in
theorem most_any (A : Option Addr) (len cap : Nat) (l : List Int) (w : World) (hc : Cells w A (nums .i64 l)) (hl : l.length = len) (hm : len ≤ 1000000000) :
    Calls Try.prog 43 #[.slice A len cap] w fun e w' => e = .returned (.tuple #[.int .i64 (mostV l).1, .bool (mostV l).2]) ∧ w = w' := by
  have HC := Hidd.mk hc
  have HL := Hidd.mk hl
  clear hc hl
  go_enter Try.func43, Try.ntmps43
  go_wp2
  go_loopw [12, 4, 5] (fun v12 v4 v5 wr => ∃ (i n : Nat) (b : Int), v12 = .int .i64 i ∧ i ≤ len ∧ v4 = .int .i64 b ∧ v5 = .int .i64 n ∧ n ≤ i ∧ Hidd (vote (l.take i) = (b, n)) ∧ w = wr) (fun v12 _ _ _ => len - (intOf v12).toNat)
  case atStart => exact ⟨0, 0, 0, rfl, Nat.zero_le _, rfl, rfl, Nat.le_refl _, ⟨rfl⟩, rfl⟩
  case round =>
    obtain ⟨i, n, b, rfl, hi, rfl, rfl, hn, hv, rfl⟩ := hrel
    by_cases hlt : i < len
    · obtain ⟨ad, rfl, hx⟩ := HC.out.at i (by rw [HL.out]; exact hlt)
      have hg : l[i]? = some (l.getD i 0) := by rw [List.getD_eq_getElem?_getD, List.getElem?_eq_getElem (by rw [HL.out]; exact hlt)]; rfl
      obtain ⟨x, hxe⟩ : ∃ x, l.getD i 0 = x := ⟨_, rfl⟩
      rw [hxe] at hx hg
      clear hxe
      have hs := vote_take hg
      rw [hv.out] at hs
      replace hs := Hidd.mk hs
      clear hg
      by_cases hn0 : n = 0
      · subst hn0
        go_wp2
        go_roundw
        case rel => exact ⟨i + 1, 1, x, by go_num, by omega, rfl, rfl, by omega, ⟨hs.out⟩, trivial⟩
        case measure => simp [intOf]; omega
      · have hnz : ((n : Int) == 0) = false := by simp [hn0]
        by_cases hxb : x = b
        · have hst : Hidd (voteStep (b, n) x = (b, n + 1)) := ⟨by unfold voteStep; rw [if_neg hn0, if_pos hxb]⟩
          go_wp2
          go_roundw
          case rel => exact ⟨i + 1, n + 1, b, by go_num, by omega, by first | rfl | rw [hxb], by go_num, by omega, ⟨hs.out.trans hst.out⟩, trivial⟩
          case measure => simp [intOf]; omega
        · have hst : Hidd (voteStep (b, n) x = (b, n - 1)) := ⟨by unfold voteStep; rw [if_neg hn0, if_neg hxb]⟩
          have hxe : (x == b) = false := by simp [hxb]
          obtain ⟨m, rfl⟩ : ∃ m, n = m + 1 := ⟨n - 1, by omega⟩
          go_wp2
          go_roundw
          case rel => exact ⟨i + 1, m, b, by go_num, by omega, rfl, by go_num, by omega, ⟨hs.out.trans hst.out⟩, trivial⟩
          case measure => simp [intOf]; omega
    · obtain rfl : i = len := by omega
      have ht : vote l = (b, n) := by rw [← hv.out, ← HL.out, List.take_length]
      have hb : Hidd ((vote l).1 = b) := ⟨by rw [ht]⟩
      clear ht hv
      go_wp2
      go_loopw [31, 5] (fun v31 v5 wr => ∃ (j n : Nat), v31 = .int .i64 j ∧ j ≤ i ∧ v5 = .int .i64 n ∧ n ≤ j ∧ Hidd ((l.take j).count b = n) ∧ w = wr) (fun v31 _ _ => i - (intOf v31).toNat)
      case atStart => exact ⟨0, 0, rfl, Nat.zero_le _, rfl, Nat.le_refl _, ⟨by simp⟩, rfl⟩
      case round =>
        obtain ⟨j, n, rfl, hj, rfl, hn, hv, rfl⟩ := hrel
        by_cases hlt : j < i
        · obtain ⟨ad, rfl, hx⟩ := HC.out.at j (by rw [HL.out]; exact hlt)
          have hg : l[j]? = some (l.getD j 0) := by rw [List.getD_eq_getElem?_getD, List.getElem?_eq_getElem (by rw [HL.out]; exact hlt)]; rfl
          obtain ⟨x, hxe⟩ : ∃ x, l.getD j 0 = x := ⟨_, rfl⟩
          rw [hxe] at hx hg
          clear hxe
          have hs := count_take (b := b) hg
          rw [hv.out] at hs
          replace hs := Hidd.mk hs
          clear hg
          by_cases hxb : x = b
          · have hst := Hidd.mk (hs.out.trans (by rw [if_pos hxb]))
            go_wp2
            go_roundw
            case rel => exact ⟨j + 1, n + 1, by go_num, by omega, by go_num, by omega, hst, trivial⟩
            case measure => simp [intOf]; omega
          · have hst := Hidd.mk (hs.out.trans (by rw [if_neg hxb]))
            have hxe : (x == b) = false := by simp [hxb]
            go_wp2
            go_roundw
            case rel => exact ⟨j + 1, n, by go_num, by omega, rfl, by omega, hst, trivial⟩
            case measure => simp [intOf]; omega
        · obtain rfl : j = i := by omega
          have ht : l.count b = n := by rw [← hv.out, ← HL.out, List.take_length]
          have hmv : Hidd (mostV l = if 2 * n ≤ j then (0, false) else (b, true)) := ⟨by unfold mostV; rw [hb.out, ht, HL.out]⟩
          clear ht
          by_cases h2 : 2 * n ≤ j
          · have h2' : decide (2 * (n : Int) ≤ (j : Int)) = true := by simp; omega
            have hmv2 := Hidd.mk (hmv.out.trans (by rw [if_pos h2]))
            clear hmv
            go_wp2
            go_ret2
            exact ⟨by rw [hmv2.out]; rfl, rfl⟩
          · have h2' : decide (2 * (n : Int) ≤ (j : Int)) = false := by simp; omega
            have hmv2 := Hidd.mk (hmv.out.trans (by rw [if_neg h2]))
            clear hmv
            go_wp2
            go_ret2
            exact ⟨by rw [hmv2.out]; rfl, rfl⟩

/-- The vote finds what stands in more than half. -/
theorem vote_count (l : List Int) (x : Int) : (if x = (vote l).1 then 2 * l.count x ≤ l.length + (vote l).2 else 2 * l.count x + (vote l).2 ≤ l.length) ∧ (vote l).2 ≤ l.length := by
  suffices h : ∀ (r m : List Int), (if x = (vote m).1 then 2 * m.count x ≤ m.length + (vote m).2 else 2 * m.count x + (vote m).2 ≤ m.length) ∧ (vote m).2 ≤ m.length →
      (if x = (vote (m ++ r)).1 then 2 * (m ++ r).count x ≤ (m ++ r).length + (vote (m ++ r)).2 else 2 * (m ++ r).count x + (vote (m ++ r)).2 ≤ (m ++ r).length) ∧ (vote (m ++ r)).2 ≤ (m ++ r).length by
    have := h l [] (by simp [vote])
    simpa using this
  intro r
  induction r with
  | nil => intro m hm; simpa using hm
  | cons y r ih =>
    intro m hm
    have e : m ++ y :: r = (m ++ [y]) ++ r := by simp
    rw [e]
    refine ih (m ++ [y]) ?_
    have hv : vote (m ++ [y]) = voteStep (vote m) y := by unfold vote; rw [List.foldl_append]; rfl
    rw [hv, List.count_append, List.length_append]
    obtain ⟨h1, h2⟩ := hm
    generalize vote m = p at h1 h2 ⊢
    obtain ⟨b, n⟩ := p
    simp only at h1 h2
    simp only [List.length_singleton]
    have hc : [y].count x = if y = x then 1 else 0 := by by_cases h : y = x <;> simp [h]
    rw [hc]
    unfold voteStep
    by_cases hn : n = 0
    · subst hn
      rw [if_pos rfl]
      have hle : 2 * m.count x ≤ m.length := by split at h1 <;> omega
      refine ⟨?_, Nat.le_add_left _ _⟩
      show if x = y then _ else _
      by_cases hxy : x = y
      · rw [if_pos hxy, if_pos hxy.symm]; show _ ≤ _ + 1; omega
      · rw [if_neg hxy, if_neg (Ne.symm hxy)]; show _ + 1 ≤ _; omega
    · rw [if_neg hn]
      by_cases hy : y = b
      · rw [if_pos hy]
        refine ⟨?_, by show n + 1 ≤ _; omega⟩
        show if x = b then _ else _
        by_cases hxb : x = b
        · rw [if_pos hxb] at h1 ⊢
          rw [if_pos (hy.trans hxb.symm)]; show _ ≤ _ + (n + 1); omega
        · rw [if_neg hxb] at h1 ⊢
          rw [if_neg (fun e => hxb (e.symm.trans hy))]; show _ + (n + 1) ≤ _; omega
      · rw [if_neg hy]
        refine ⟨?_, by show n - 1 ≤ _; omega⟩
        show if x = b then _ else _
        by_cases hxb : x = b
        · rw [if_pos hxb] at h1 ⊢
          rw [if_neg (fun e => hy (e.trans hxb))]; show _ ≤ _ + (n - 1); omega
        · rw [if_neg hxb] at h1 ⊢
          show _ + (n - 1) ≤ _
          split <;> omega
theorem most_spec (l : List Int) (x : Int) : mostV l = (x, true) ↔ l.length < 2 * l.count x := by
  unfold mostV
  constructor
  · intro h
    split at h
    · simp at h
    · injection h with h _
      subst h
      omega
  · intro h
    have hx : x = (vote l).1 := by
      have := (vote_count l x).1
      split at this
      · assumption
      · omega
    subst hx
    rw [if_neg (by omega)]
theorem most_none (l : List Int) (h : (mostV l).2 = false) : mostV l = (0, false) ∧ ∀ x, 2 * l.count x ≤ l.length := by
  have h1 : mostV l = (0, false) := by
    unfold mostV at h ⊢
    split
    · rfl
    · rename_i h'; simp [h'] at h
  refine ⟨h1, fun x => ?_⟩
  rcases Nat.lt_or_ge l.length (2 * l.count x) with h' | h'
  · have := (most_spec l x).2 h'
    rw [this] at h1
    injection h1 with _ h2
    cases h2
  · exact h'
end Go.Proofs.Ytjejkmnlkmcckaa
