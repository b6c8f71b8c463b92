/- The heap, without the program. -/
import Derived.Test.YtjejkmnlkmcckaaQuT
namespace Go.Proofs.Ytjejkmnlkmcckaa

instance : Inhabited It := ⟨⟨0, 0, 0, 0⟩⟩
/-- b is not ahead of a. -/
def le (a b : It) : Prop := ahead b a = false
theorem ahead_iff (a b : It) : ahead a b = true ↔ a.at_ < b.at_ ∨ (a.at_ = b.at_ ∧ (a.rank < b.rank ∨ (a.rank = b.rank ∧ a.n < b.n))) := by
  unfold ahead
  split
  · simp; omega
  · split
    · simp; omega
    · simp; omega
theorem le_iff (a b : It) : le a b ↔ a.at_ < b.at_ ∨ (a.at_ = b.at_ ∧ (a.rank < b.rank ∨ (a.rank = b.rank ∧ a.n ≤ b.n))) := by
  unfold le
  rw [Bool.eq_false_iff, ne_eq, ahead_iff]
  omega
theorem le_of_ahead {a b : It} (h : ahead a b = true) : le a b := by rw [ahead_iff] at h; rw [le_iff]; omega
theorem le_trans' {a b c : It} (h : le a b) (k : le b c) : le a c := by rw [le_iff] at *; omega
theorem le_refl' (a : It) : le a a := by rw [le_iff]; omega

def gt (l : List It) (i : Nat) : It := l.getD i default
theorem gt_some {l : List It} {i : Nat} {x : It} (h : l[i]? = some x) : gt l i = x := by simp [gt, List.getD_eq_getElem?_getD, h]
theorem some_gt {l : List It} {i : Nat} (h : i < l.length) : l[i]? = some (gt l i) := by simp [gt, List.getD_eq_getElem?_getD, List.getElem?_eq_getElem h]
theorem gt_set (l : List It) (i j : Nat) (x : It) (h : j < l.length) : gt (l.set i x) j = if i = j then x else gt l j := by
  unfold gt
  rw [List.getD_eq_getElem?_getD, List.getD_eq_getElem?_getD, List.getElem?_set]
  split
  · subst_vars; simp [h]
  · rfl

def IsHeap (l : List It) : Prop := ∀ j, 0 < j → j < l.length → le (gt l ((j - 1) / 2)) (gt l j)

theorem swap_perm {l : List It} {i j : Nat} {x y : It} (hx : l[i]? = some x) (hy : l[j]? = some y) : ((l.set i y).set j x).Perm l := by
  obtain ⟨h1, rfl⟩ := List.getElem?_eq_some_iff.1 hx
  obtain ⟨h2, rfl⟩ := List.getElem?_eq_some_iff.1 hy
  exact List.set_set_perm h1 h2

theorem siftUp_heap : ∀ (i : Nat) (l : List It), i < l.length → (∀ j, 0 < j → j < l.length → j ≠ i → le (gt l ((j - 1) / 2)) (gt l j)) →
    (∀ j, 0 < j → j < l.length → (j - 1) / 2 = i → 0 < i → le (gt l ((i - 1) / 2)) (gt l j)) → IsHeap (siftUp l i) ∧ (siftUp l i).Perm l := by
  intro i
  induction i using Nat.strongRecOn with
  | ind i ih =>
    intro l hi h1 h2
    by_cases h0 : 0 < i
    · have hx := some_gt hi
      have hp : (i - 1) / 2 < l.length := by omega
      have hy := some_gt hp
      cases hc : ahead (gt l i) (gt l ((i - 1) / 2)) with
      | false =>
        rw [siftUp_stop h0 rfl hx hy hc]
        refine ⟨fun j hj hl => ?_, List.Perm.refl _⟩
        by_cases e : j = i
        · subst e; exact hc
        · exact h1 j hj hl e
      | true =>
        rw [siftUp_step h0 rfl hx hy hc]
        have hxy := le_of_ahead hc
        refine And.imp id (fun b => b.trans (swap_perm hx hy)) (ih ((i - 1) / 2) (by omega) ((l.set i (gt l ((i - 1) / 2))).set ((i - 1) / 2) (gt l i)) (by simp; omega) ?_ ?_)
        · intro j hj hl hne
          simp only [List.length_set] at hl
          rw [gt_set _ _ _ _ (by first | omega | (simp; omega)), gt_set _ _ _ _ (by first | omega | (simp; omega)), gt_set _ _ _ _ (by first | omega | (simp; omega)), gt_set _ _ _ _ (by first | omega | (simp; omega))]
          rw [if_neg (Ne.symm hne)]
          by_cases e1 : i = j
          · rw [if_pos e1, if_pos (by omega)]
            exact hxy
          · rw [if_neg e1]
            by_cases e2 : (i - 1) / 2 = (j - 1) / 2
            · rw [if_pos e2]
              have := h1 j hj hl (Ne.symm e1)
              rw [← e2] at this
              exact le_trans' hxy this
            · rw [if_neg e2]
              by_cases e3 : i = (j - 1) / 2
              · rw [if_pos e3]
                exact h2 j hj hl e3.symm h0
              · rw [if_neg e3]
                exact h1 j hj hl (Ne.symm e1)
        · intro j hj hl hpj hp0
          simp only [List.length_set] at hl
          rw [gt_set _ _ _ _ (by first | omega | (simp; omega)), gt_set _ _ _ _ (by first | omega | (simp; omega)), gt_set _ _ _ _ (by first | omega | (simp; omega)), gt_set _ _ _ _ (by first | omega | (simp; omega))]
          rw [if_neg (by omega), if_neg (by omega), if_neg (by omega)]
          have hq := h1 ((i - 1) / 2) hp0 hp (by omega)
          by_cases e1 : i = j
          · rw [if_pos e1]
            exact hq
          · rw [if_neg e1]
            have := h1 j hj hl (Ne.symm e1)
            rw [hpj] at this
            exact le_trans' hq this
    · obtain rfl : i = 0 := by omega
      rw [siftUp_zero]
      exact ⟨fun j hj hl => h1 j hj hl (by omega), List.Perm.refl _⟩

theorem put_heap {l : List It} (h : IsHeap l) (x : It) {n : Nat} (hn : n = l.length) : IsHeap (siftUp (l ++ [x]) n) ∧ (siftUp (l ++ [x]) n).Perm (x :: l) := by
  subst hn
  refine And.imp id (fun b => b.trans (List.perm_append_comm (l₁ := l) (l₂ := [x]))) (siftUp_heap l.length (l ++ [x]) (by simp) ?_ ?_)
  · intro j hj hl hne
    simp at hl
    have e : ∀ k, k < l.length → gt (l ++ [x]) k = gt l k := fun k hk => by
      unfold gt
      rw [List.getD_eq_getElem?_getD, List.getD_eq_getElem?_getD, List.getElem?_append_left hk]
    rw [e _ (by omega), e _ (by omega)]
    exact h j hj (by omega)
  · intro j hj hl hp
    simp at hl
    omega

theorem least_spec {l : List It} {m n k : Nat} (hm : m < l.length) (hn : n = l.length) : le (gt l (least l m n k)) (gt l m) ∧ (k < n → le (gt l (least l m n k)) (gt l k)) := by
  subst hn
  by_cases hk : k < l.length
  · rw [least_at (some_gt hk) (some_gt hm) hk]
    cases hc : ahead (gt l k) (gt l m) with
    | true => exact ⟨by simpa using le_of_ahead hc, fun _ => by simpa using le_refl' _⟩
    | false => exact ⟨by simpa using le_refl' _, fun _ => by rw [if_neg (by simp)]; exact hc⟩
  · rw [least_no hk]
    exact ⟨le_refl' _, fun h => absurd h hk⟩
theorem pick_spec {l : List It} {i : Nat} (hi : i < l.length) : le (gt l (pick l i)) (gt l i) ∧ (∀ j, 0 < j → j < l.length → (j - 1) / 2 = i → le (gt l (pick l i)) (gt l j)) := by
  have h1 := least_spec (l := l) (m := i) (k := 2 * i + 1) hi rfl
  have hm : least l i l.length (2 * i + 1) < l.length := by rcases least_le l i l.length (2 * i + 1) with e | e <;> omega
  have h2 := least_spec (l := l) (m := least l i l.length (2 * i + 1)) (k := 2 * i + 2) hm rfl
  refine ⟨le_trans' h2.1 h1.1, fun j hj hl hp => ?_⟩
  have : j = 2 * i + 1 ∨ j = 2 * i + 2 := by omega
  rcases this with rfl | rfl
  · exact le_trans' h2.1 (h1.2 hl)
  · exact h2.2 hl

theorem siftDown_heap (d : Nat) : ∀ (i : Nat) (l : List It), l.length - i ≤ d → (∀ j, 0 < j → j < l.length → (j - 1) / 2 ≠ i → le (gt l ((j - 1) / 2)) (gt l j)) →
    (∀ j, 0 < j → j < l.length → (j - 1) / 2 = i → 0 < i → le (gt l ((i - 1) / 2)) (gt l j)) → IsHeap (siftDown l i) ∧ (siftDown l i).Perm l := by
  induction d with
  | zero =>
    intro i l hd h1 h2
    have e : pick l i = i := by rcases pick_lt l i with e | e <;> omega
    rw [siftDown_stop e]
    exact ⟨fun j hj hl => h1 j hj hl (by omega), List.Perm.refl _⟩
  | succ d ih =>
    intro i l hd h1 h2
    rcases pick_lt l i with e | e
    · rw [siftDown_stop e]
      refine ⟨fun j hj hl => ?_, List.Perm.refl _⟩
      by_cases hp : (j - 1) / 2 = i
      · have := (pick_spec (l := l) (i := i) (by omega)).2 j hj hl hp
        rw [e] at this
        rw [hp]
        exact this
      · exact h1 j hj hl hp
    · obtain ⟨m, hm⟩ : ∃ m, pick l i = m := ⟨_, rfl⟩
      have hsp := pick_spec (l := l) (i := i) (by omega)
      rw [hm] at e hsp
      have hpm : (m - 1) / 2 = i := by
        rw [← hm]
        unfold pick
        rcases least_le l i l.length (2 * i + 1) with h | h <;> rcases least_le l (least l i l.length (2 * i + 1)) l.length (2 * i + 2) with h' | h'
        all_goals first | omega | skip
        all_goals
          have : pick l i = i := by unfold pick; rw [h', h]
          omega
      have hx := some_gt (l := l) (i := i) (by omega)
      have hy := some_gt e.2
      rw [siftDown_step hm (by omega) hx hy]
      refine And.imp id (fun b => b.trans (swap_perm hx hy)) (ih m ((l.set i (gt l m)).set m (gt l i)) (by simp; omega) ?_ ?_)
      · intro j hj hl hne
        simp only [List.length_set] at hl
        rw [gt_set _ _ _ _ (by first | omega | (simp; omega)), gt_set _ _ _ _ (by first | omega | (simp; omega)), gt_set _ _ _ _ (by first | omega | (simp; omega)), gt_set _ _ _ _ (by first | omega | (simp; omega))]
        rw [if_neg (Ne.symm hne)]
        by_cases e2 : i = (j - 1) / 2
        · rw [if_pos e2]
          by_cases e1 : m = j
          · rw [if_pos e1]
            exact hsp.1
          · rw [if_neg e1, if_neg (by omega)]
            exact hsp.2 j hj hl e2.symm
        · rw [if_neg e2, if_neg (by omega)]
          by_cases e3 : i = j
          · rw [if_pos e3]
            have := h2 m (by omega) e.2 hpm (by omega)
            rw [e3] at this
            exact this
          · rw [if_neg e3]
            exact h1 j hj hl (Ne.symm e2)
      · intro j hj hl hp h0
        simp only [List.length_set] at hl
        rw [gt_set _ _ _ _ (by first | omega | (simp; omega)), gt_set _ _ _ _ (by first | omega | (simp; omega)), gt_set _ _ _ _ (by first | omega | (simp; omega)), gt_set _ _ _ _ (by first | omega | (simp; omega))]
        rw [if_neg (by omega), if_pos (by omega), if_neg (by omega), if_neg (by omega)]
        have := h1 j hj hl (by omega)
        rw [hp] at this
        exact this

theorem heap_head {l : List It} (h : IsHeap l) : ∀ j, j < l.length → le (gt l 0) (gt l j) := by
  intro j
  induction j using Nat.strongRecOn with
  | ind j ih =>
    intro hl
    rcases Nat.eq_zero_or_pos j with rfl | hj
    · exact le_refl' _
    · exact le_trans' (ih ((j - 1) / 2) (by omega) (by omega)) (h j hj hl)

/-- What Take leaves. -/
theorem take_heap {l : List It} {last : Nat} {z y : It} (h : IsHeap l) (hl : l.length = last + 1) (hz : l[0]? = some z) (hy : l[last]? = some y) :
    IsHeap (siftDown ((l.set 0 y).take last) 0) ∧ (z :: siftDown ((l.set 0 y).take last) 0).Perm l ∧ ∀ x ∈ l, le z x := by
  have hlen : ((l.set 0 y).take last).length = last := by rw [List.length_take, List.length_set]; omega
  have hg : ∀ k, 0 < k → k < last → gt ((l.set 0 y).take last) k = gt l k := fun k h0 hk => by
    unfold gt
    rw [List.getD_eq_getElem?_getD, List.getD_eq_getElem?_getD, List.getElem?_take, if_pos hk, List.getElem?_set_ne (by omega)]
  obtain ⟨a, b⟩ := siftDown_heap last 0 ((l.set 0 y).take last) (by omega) (fun j hj hlj hp => by
    rw [hlen] at hlj
    rw [hg _ (by omega) (by omega), hg _ hj hlj]
    exact h j hj (by omega)) (fun j _ _ _ h0 => by omega)
  refine ⟨a, ?_, fun x hx => ?_⟩
  · refine (List.Perm.cons z b).trans ?_
    rcases l with _ | ⟨z', t⟩
    · simp at hl
    · injection hz with hz
      subst hz
      rcases last with _ | k
      · simp at hl
        subst hl
        simp
      · rw [List.set_cons_zero, List.take_succ_cons]
        simp only [List.getElem?_cons_succ] at hy
        simp only [List.length_cons] at hl
        have e : t = t.take k ++ [y] := by
          conv => lhs; rw [← List.take_append_drop k t]
          congr 1
          rw [List.drop_eq_getElem_cons (by omega)]
          rw [List.drop_eq_nil_of_le (by omega)]
          rw [List.getElem?_eq_getElem (by omega)] at hy
          injection hy with hy
          rw [hy]
        refine List.Perm.cons _ ?_
        conv => rhs; rw [e]
        simpa using (List.perm_append_comm (l₁ := [y]) (l₂ := t.take k))
  · obtain ⟨j, hj, rfl⟩ := List.getElem_of_mem hx
    have := heap_head h j hj
    rw [gt_some hz] at this
    rwa [gt_some (List.getElem?_eq_getElem hj)] at this
end Go.Proofs.Ytjejkmnlkmcckaa
