/- The text of a chain of faults: its numbers are the chain's. -/
import Derived.Test.YtpiahnecpbalhaaHkB
namespace Go.Proofs.Ytpiahnecpbalhaa
open Go.RowKit
theorem str_app (xs ys : List Int) : strOfNums (xs ++ ys) = strOfNums xs ++ strOfNums ys := by
  apply ByteArray.ext
  rw [ByteArray.data_append]
  simp [strOfNums]
def decL : Nat → Nat → List Int
  | 0, _ => []
  | k + 1, m => if m < 10 then [48 + (m : Int)] else decL k (m / 10) ++ [48 + ((m % 10 : Nat) : Int)]
def numL (n : Int) : List Int := if n < 0 then [45] ++ decL 20 (-n).toNat else decL 20 n.toNat
theorem dec_list : ∀ k m, decF k m = strOfNums (decL k m)
  | 0, _ => rfl
  | k + 1, m => by
    unfold decF decL
    split
    · rfl
    · rw [dec_list k (m / 10), str_app]
      rfl
theorem num_list (n : Int) : numB n = strOfNums (numL n) := by
  unfold numB numL
  split
  · rw [dec_list, str_app]
    rfl
  · rw [dec_list]
theorem dec_rng : ∀ k m, ∀ x ∈ decL k m, 48 ≤ x ∧ x ≤ 57
  | 0, _, x, h => by simp [decL] at h
  | k + 1, m, x, h => by
    unfold decL at h
    split at h
    · simp at h
      omega
    · rcases List.mem_append.1 h with h | h
      · exact dec_rng k (m / 10) x h
      · simp only [List.mem_singleton] at h
        omega
theorem num_rng (n : Int) : ∀ x ∈ numL n, x = 45 ∨ (48 ≤ x ∧ x ≤ 57) := by
  intro x h
  unfold numL at h
  split at h
  · rcases List.mem_append.1 h with h | h
    · exact .inl (by simpa using h)
    · exact .inr (dec_rng _ _ x h)
  · exact .inr (dec_rng _ _ x h)
theorem tr_dec (d : Bool) : ∀ (k m : Nat) (rest : List Int), 0 < k → m < 10 ^ k → m ≤ 100000 → trR (decL k m ++ rest) 0 d false = trR rest m true false
  | 0, _, _, h, _, _ => by omega
  | k + 1, m, rest, _, hm, hs => by
    unfold decL
    split
    · rw [List.singleton_append, trR, if_neg (by omega), if_neg (by omega), if_pos ⟨rfl, by omega, by omega⟩, if_pos (by omega)]
      congr 1
      omega
    · have hk : 0 < k := by
        rcases k with _ | k
        · simp at hm
          omega
        · omega
      rw [List.append_assoc, tr_dec d k (m / 10) _ hk (by rw [Nat.pow_succ] at hm; omega) (by omega), List.singleton_append, trR, if_neg (by omega), if_neg (by omega), if_pos ⟨rfl, by omega, by omega⟩, if_pos (by omega)]
      congr 1
      omega
theorem tr_skip (n : Int) (d : Bool) : ∀ (l rest : List Int), (∀ x ∈ l, x ≠ 62 ∧ x ≠ 64) → trR (l ++ rest) n d true = trR rest n d true
  | [], _, _ => rfl
  | x :: l, rest, h => by
    have hx := h x (List.mem_cons_self ..)
    rw [List.cons_append, trR, if_neg hx.1, if_neg hx.2, if_neg (by intro h; cases h.1)]
    exact tr_skip n d l rest fun y hy => h y (List.mem_cons_of_mem _ hy)
theorem tr_num (c : Nat) (hc : c ≤ 100000) (d : Bool) (rest : List Int) : trR (numL (c : Int) ++ rest) 0 d false = trR rest c true false := by
  rw [numL, if_neg (by omega), Int.toNat_natCast]
  exact tr_dec d 20 c rest (by omega) (by omega) hc
def atL (c a : Int) : List Int := numL c ++ [64] ++ numL (if a < 0 then -1 else a)
theorem at_list (c a : Int) : atB c a = strOfNums (atL c a) := by
  rw [atB, atL, str_app, str_app, ← num_list, ← num_list]
  rfl
theorem tr_at (c : Nat) (hc : c ≤ 100000) (a : Int) (d : Bool) (rest : List Int) : trR (atL c a ++ rest) 0 d false = trR rest c true true := by
  rw [atL, List.append_assoc, List.append_assoc, tr_num c hc, List.singleton_append, trR, if_neg (by decide), if_pos rfl]
  refine tr_skip _ _ _ _ fun x hx => ?_
  have := num_rng _ x hx
  omega
/-- The text of a chain, the outermost first. -/
def chT : List (Int × Int) → List Int
  | [] => []
  | (c, a) :: l => [62] ++ atL c a ++ chT l
def chL : List (Int × Int) → List Int
  | [] => []
  | (c, a) :: l => atL c a ++ chT l
theorem tail_list : ∀ l : List (Int × Int), errTail l none = strOfNums (chT l)
  | [] => rfl
  | (c, a) :: l => by
    rw [errTail_cons, tail_list l, at_list, chT, str_app, str_app]
    rfl
theorem err_list : ∀ l : List (Int × Int), errB l none = strOfNums (chL l)
  | [] => rfl
  | (c, a) :: l => by
    show atB c a ++ errTail l none = _
    rw [tail_list l, at_list, chL, str_app]
theorem tr_tail : ∀ (l : List (Int × Int)) (n : Int) (p : Bool), (∀ q ∈ l, 0 ≤ q.1 ∧ q.1 ≤ 100000) → trR (chT l ++ [62]) n true p = some (n :: l.map (·.1))
  | [], n, p, _ => by simp [chT, trR]
  | (c, a) :: l, n, p, h => by
    have hc := h (c, a) (List.mem_cons_self ..)
    obtain ⟨k, rfl⟩ : ∃ k : Nat, c = (k : Int) := ⟨c.toNat, by have := hc.1; simp only at this; omega⟩
    have hk : k ≤ 100000 := by have := hc.2; simp only at this; omega
    rw [chT, List.append_assoc, List.append_assoc, List.singleton_append, trR, if_pos rfl, tr_at k hk, tr_tail l k true fun q hq => h q (List.mem_cons_of_mem _ hq)]
    simp
theorem tr_chain (l : List (Int × Int)) (h : ∀ q ∈ l, 0 ≤ q.1 ∧ q.1 ≤ 100000) : trR (chL l ++ [62]) 0 false false = some (l.map (·.1)) := by
  rcases l with _ | ⟨⟨c, a⟩, l⟩
  · simp [chL, trR]
  · have hc := h (c, a) (List.mem_cons_self ..)
    obtain ⟨k, rfl⟩ : ∃ k : Nat, c = (k : Int) := ⟨c.toNat, by have := hc.1; simp only at this; omega⟩
    have hk : k ≤ 100000 := by have := hc.2; simp only at this; omega
    rw [chL, List.append_assoc, tr_at k hk, tr_tail l k true fun q hq => h q (List.mem_cons_of_mem _ hq)]
    rfl
theorem at_rng (c a : Int) : ∀ x ∈ atL c a, 0 ≤ x ∧ x < 256 := by
  intro x h
  unfold atL at h
  rcases List.mem_append.1 h with h | h
  · rcases List.mem_append.1 h with h | h
    · have := num_rng _ x h
      omega
    · simp only [List.mem_singleton] at h
      omega
  · have := num_rng _ x h
    omega
theorem tail_rng : ∀ (l : List (Int × Int)), ∀ x ∈ chT l, 0 ≤ x ∧ x < 256
  | [], x, h => by simp [chT] at h
  | (c, a) :: l, x, h => by
    unfold chT at h
    rcases List.mem_append.1 h with h | h
    · rcases List.mem_append.1 h with h | h
      · simp only [List.mem_singleton] at h
        omega
      · exact at_rng c a x h
    · exact tail_rng l x h
theorem chain_rng (l : List (Int × Int)) : ∀ x ∈ chL l, 0 ≤ x ∧ x < 256 := by
  intro x h
  rcases l with _ | ⟨⟨c, a⟩, l⟩
  · simp [chL] at h
  · unfold chL at h
    rcases List.mem_append.1 h with h | h
    · exact at_rng c a x h
    · exact tail_rng l x h
theorem tail_len : ∀ (l : List (Int × Int)), (chT l).length ≤ 44 * l.length
  | [] => by simp [chT]
  | (c, a) :: l => by
    have h1 := atB_size c a
    rw [at_list, strOfNums_size] at h1
    have := tail_len l
    simp only [chT, List.length_append, List.length_cons, List.length_nil]
    omega
theorem chain_len (l : List (Int × Int)) : (chL l).length ≤ 44 * l.length := by
  rcases l with _ | ⟨⟨c, a⟩, l⟩
  · simp [chL]
  · have h1 := atB_size c a
    rw [at_list, strOfNums_size] at h1
    have := tail_len l
    simp only [chL, List.length_append, List.length_cons]
    omega
theorem chain_nil (l : List (Int × Int)) : chL l = [] ↔ l = [] := by
  rcases l with _ | ⟨⟨c, a⟩, l⟩
  · simp [chL]
  · simp [chL, atL]
/-- The reference's kind is the program's. -/
theorem kind_chain (l : List (Int × Int)) : kindR (chL l) (l.map (·.1)) = (if (kindC l none).2 = true then (kindC l none).1 else -1) := by
  have hc : ∀ x : Int, hasC l none x = (l.map (·.1)).any (fun y => y == x) := fun x => by
    simp [hasC, codes]
  unfold kindR kindC
  simp only [hc, chain_nil, and_true]
  repeat' split
  all_goals first | rfl | simp_all
end Go.Proofs.Ytpiahnecpbalhaa
