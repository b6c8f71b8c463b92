/- All nodes' orders together: what was seen. -/
import Derived.Test.YtcamoldjljfbeaaSoT
import Derived.Test.YtcamoldjljfbeaaSoP
namespace Go.Proofs.Ytcamoldjljfbeaa

def seenL (ps : List Pt) (m : Nat) (i : Int) (d : List Nat) : List Bool := (List.range m).map fun k => decide (ndOf ps k < i) || d.contains k
theorem seenL_len (ps : List Pt) (m : Nat) (i : Int) (d : List Nat) : (seenL ps m i d).length = m := by simp [seenL]
theorem seenL_get (ps : List Pt) (m : Nat) (i : Int) (d : List Nat) {k : Nat} (hk : k < m) : (seenL ps m i d)[k]? = some (decide (ndOf ps k < i) || d.contains k) := by
  unfold seenL
  rw [List.getElem?_map, List.getElem?_range hk]
  rfl
theorem ext_m {X Y : List Bool} {m : Nat} (hx : X.length = m) (hy : Y.length = m) (h : ∀ k, k < m → X[k]? = Y[k]?) : X = Y := by
  apply List.ext_getElem?
  intro k
  by_cases hk : k < m
  · exact h k hk
  · rw [List.getElem?_eq_none (by omega), List.getElem?_eq_none (by omega)]
theorem seenL_start (ps : List Pt) (m : Nat) (h : ∀ k, k < m → 0 ≤ ndOf ps k) : seenL ps m 0 [] = List.replicate m false := by
  refine ext_m (seenL_len ..) (by simp) fun k hk => ?_
  rw [seenL_get _ _ _ _ hk, List.getElem?_replicate, if_pos hk]
  have := h k hk
  rw [decide_eq_false (by omega)]
  rfl
theorem seenL_put (ps : List Pt) (m : Nat) (i : Int) (d : List Nat) (p : Nat) : (seenL ps m i d).set p true = seenL ps m i (d ++ [p]) := by
  refine ext_m (m := m) (by rw [List.length_set, seenL_len]) (seenL_len ..) fun k hk => ?_
  rw [List.getElem?_set, seenL_len, seenL_get _ _ _ _ hk, seenL_get _ _ _ _ hk]
  by_cases h : p = k
  · subst h
    rw [if_pos rfl, if_pos hk]
    simp
  · rw [if_neg h]
    congr 2
    rw [Bool.eq_iff_iff]
    simp [Ne.symm h]
theorem seenL_next (ps : List Pt) (i : Int) (l : List Nat) (hO : Ord ps i l) : seenL ps ps.length i l = seenL ps ps.length (i + 1) [] := by
  refine ext_m (seenL_len ..) (seenL_len ..) fun k hk => ?_
  rw [seenL_get _ _ _ _ hk, seenL_get _ _ _ _ hk]
  congr 1
  rw [Bool.eq_iff_iff]
  simp only [Bool.or_eq_true, decide_eq_true_eq, List.contains_iff_mem, hO.mem, List.not_mem_nil, or_false]
  omega
theorem cnt_put {X : List Bool} {p : Nat} (h : X[p]? = some false) : (X.set p true).count true = X.count true + 1 := by
  induction X generalizing p with
  | nil => simp at h
  | cons x X ih =>
    cases p with
    | zero => simp at h; subst h; simp
    | succ p =>
      rw [List.set_cons_succ, List.count_cons, List.count_cons, ih (by simpa using h)]
      omega
theorem seenL_all (ps : List Pt) (m : Nat) (i : Int) (h : ∀ k, k < m → ndOf ps k < i) : (seenL ps m i []).count true = m := by
  have : seenL ps m i [] = List.replicate m true := by
    refine ext_m (seenL_len ..) (by simp) fun k hk => ?_
    rw [seenL_get _ _ _ _ hk, List.getElem?_replicate, if_pos hk, decide_eq_true (h k hk)]
    rfl
  rw [this]
  simp
theorem cnt_le (X : List Bool) : X.count true ≤ X.length := List.count_le_length
theorem Ord.none {ps : List Pt} {i : Int} {l : List Nat} (hO : Ord ps i l) (h : ∀ k, k < ps.length → ndOf ps k < i) : l = [] := by
  rcases l with _ | ⟨x, l⟩
  · rfl
  · obtain ⟨h1, h2⟩ := hO.mem.1 List.mem_cons_self
    have := h x h1
    omega
theorem Ord.fresh {ps : List Pt} {i : Int} {l : List Nat} (hO : Ord ps i l) {j p : Nat} (hj : l[j]? = some p) : (seenL ps ps.length i (l.take j))[p]? = some false := by
  obtain ⟨h1, h2⟩ := hO.mem.1 (List.mem_of_getElem? hj)
  rw [seenL_get _ _ _ _ h1, h2]
  congr 1
  rw [decide_eq_false (by omega), Bool.false_or]
  rw [← Bool.not_eq_true, List.contains_iff_mem]
  intro hm
  obtain ⟨k, hk⟩ := List.getElem?_of_mem hm
  have hk' : k < j := by
    have := (List.getElem?_eq_some_iff.1 hk).1
    rw [List.length_take] at this
    omega
  rw [List.getElem?_take_of_lt hk'] at hk
  have nd := hO.nodup
  rw [List.nodup_iff_pairwise_ne, List.pairwise_iff_getElem] at nd
  obtain ⟨a1, e1⟩ := List.getElem?_eq_some_iff.1 hk
  obtain ⟨a2, e2⟩ := List.getElem?_eq_some_iff.1 hj
  exact nd k j a1 a2 hk' (e1.trans e2.symm)
theorem take_put {l : List Nat} {j p : Nat} (hj : l[j]? = some p) : l.take (j + 1) = l.take j ++ [p] := by
  rw [List.take_add_one, hj]
  rfl
/-- The next one does not begin earlier. -/
theorem Ord.up {ps : List Pt} {i : Int} {l : List Nat} (hO : Ord ps i l) {j p q : Nat} (hj : l[j]? = some p) (hq : l[j + 1]? = some q) : stOf ps p ≤ stOf ps q := by
  have h := hO.le
  rw [List.pairwise_iff_getElem] at h
  obtain ⟨a1, e1⟩ := List.getElem?_eq_some_iff.1 hj
  obtain ⟨a2, e2⟩ := List.getElem?_eq_some_iff.1 hq
  rw [← e1, ← e2]
  exact h j (j + 1) a1 a2 (by omega)
end Go.Proofs.Ytcamoldjljfbeaa
