/- Lists that are sorted by exchanges of neighbours: plain facts. -/
import Derived.Test.YtcamoldjljfbeaaSoA
namespace Go.Proofs.Ytcamoldjljfbeaa

/-- Two neighbours change places. -/
def swp2 (D : List Nat) (j : Nat) : List Nat := (D.set (j + 1) (D.getD j 0)).set j (D.getD (j + 1) 0)
theorem swp2_len (D : List Nat) (j : Nat) : (swp2 D j).length = D.length := by simp [swp2]
theorem swp2_perm : ∀ (D : List Nat) (j : Nat), j + 1 < D.length → (swp2 D j).Perm D
  | [], _, h => by simp at h
  | [_], _, h => by simp at h
  | a :: b :: D, 0, _ => by simpa [swp2] using List.Perm.swap a b D
  | a :: b :: D, j + 1, h => by
    have h1 := (swp2_perm (b :: D) j (by simpa using h)).cons a
    simpa [swp2] using h1
theorem swp2_get (D : List Nat) (j : Nat) (h : j + 1 < D.length) (a : Nat) : (swp2 D j).getD a 0 = if a = j then D.getD (j + 1) 0 else if a = j + 1 then D.getD j 0 else D.getD a 0 := by
  simp only [swp2, List.getD_eq_getElem?_getD, List.getElem?_set, List.length_set]
  by_cases h1 : a = j
  · subst h1
    rw [if_pos rfl, if_pos (by omega), if_pos rfl]
    rfl
  · rw [if_neg (Ne.symm h1), if_neg h1]
    by_cases h2 : a = j + 1
    · subst h2
      rw [if_pos rfl, if_pos (by omega), if_pos rfl]
      rfl
    · rw [if_neg (Ne.symm h2), if_neg h2]
/-- So far in order. -/
structure Srt (st : Nat → Int) (X D : List Nat) (i : Nat) : Prop where
  perm : D.Perm X
  le : ∀ a b, a < b → b < i → st (D.getD a 0) ≤ st (D.getD b 0)
/-- One goes down. -/
structure Mid (st : Nat → Int) (X D : List Nat) (i j : Nat) : Prop where
  perm : D.Perm X
  rest : ∀ a b, a < b → b ≤ i → a ≠ j → b ≠ j → st (D.getD a 0) ≤ st (D.getD b 0)
  up : ∀ b, j < b → b ≤ i → st (D.getD j 0) < st (D.getD b 0)
section
variable {st : Nat → Int} {X D : List Nat} {i j : Nat}
theorem Srt.one (X : List Nat) (h : i ≤ 1) : Srt st X X i := ⟨List.Perm.refl _, fun a b h1 h2 => by omega⟩
theorem Srt.start (h : Srt st X D i) : Mid st X D i i := ⟨h.perm, fun a b h1 h2 _ h4 => h.le a b h1 (by omega), fun b h1 h2 => by omega⟩
theorem Mid.stop0 (h : Mid st X D i 0) : Srt st X D (i + 1) := ⟨h.perm, fun a b h1 h2 => by
  by_cases ha : a = 0
  · subst ha
    exact Int.le_of_lt (h.up b h1 (by omega))
  · exact h.rest a b h1 (by omega) ha (by omega)⟩
theorem Mid.stop (h : Mid st X D i (j + 1)) (hs : ¬ st (D.getD (j + 1) 0) < st (D.getD j 0)) : Srt st X D (i + 1) := ⟨h.perm, fun a b h1 h2 => by
  by_cases ha : a = j + 1
  · subst ha
    exact Int.le_of_lt (h.up b h1 (by omega))
  · by_cases hb : b = j + 1
    · subst hb
      have h3 : st (D.getD a 0) ≤ st (D.getD j 0) := by
        by_cases haj : a = j
        · rw [haj]; exact Int.le_refl _
        · exact h.rest a j (by omega) (by omega) (by omega) (by omega)
      omega
    · exact h.rest a b h1 (by omega) ha hb⟩
theorem Mid.step (h : Mid st X D i (j + 1)) (hi : i < D.length) (hj : j + 1 ≤ i) (hs : st (D.getD (j + 1) 0) < st (D.getD j 0)) : Mid st X (swp2 D j) i j := by
  have hg := swp2_get D j (by omega)
  refine ⟨(swp2_perm D j (by omega)).trans h.perm, fun a b h1 h2 ha hb => ?_, fun b h1 h2 => ?_⟩
  · rw [hg a, hg b, if_neg ha, if_neg hb]
    by_cases h3 : a = j + 1
    · rw [if_pos h3, if_neg (by omega)]
      exact h.rest j b (by omega) h2 (by omega) (by omega)
    · rw [if_neg h3]
      by_cases h4 : b = j + 1
      · rw [if_pos h4]
        exact h.rest a j (by omega) (by omega) h3 (by omega)
      · rw [if_neg h4]
        exact h.rest a b h1 h2 h3 h4
  · rw [hg j, hg b, if_pos rfl, if_neg (by omega)]
    by_cases h4 : b = j + 1
    · rw [if_pos h4]; exact hs
    · rw [if_neg h4]
      exact h.up b (by omega) h2
theorem Srt.pairwise (h : Srt st X D i) (hi : D.length ≤ i) : D.Pairwise (fun a b => st a ≤ st b) := by
  rw [List.pairwise_iff_getElem]
  intro a b ha hb hab
  have := h.le a b hab (by omega)
  simpa [List.getD_eq_getElem?_getD, List.getElem?_eq_getElem ha, List.getElem?_eq_getElem hb] using this
end
/-- Where a list of parts begins. -/
def stOf (ps : List Pt) (i : Nat) : Int := (ps[i]?.map Pt.start).getD 0
theorem stOf_at {ps : List Pt} {i : Nat} {p : Pt} (h : ps[i]? = some p) : stOf ps i = p.start := by unfold stOf; rw [h]; rfl
def ndOf (ps : List Pt) (i : Nat) : Int := (ps[i]?.map Pt.node).getD 0
theorem ndOf_at {ps : List Pt} {i : Nat} {p : Pt} (h : ps[i]? = some p) : ndOf ps i = p.node := by unfold ndOf; rw [h]; rfl
/-- A node's partitions, as they stand in the tables. -/
def selL (ps : List Pt) (node : Int) (k : Nat) : List Nat := (List.range k).filter fun i => decide (ndOf ps i = node)
theorem selL_succ (ps : List Pt) (node : Int) (k : Nat) : selL ps node (k + 1) = if ndOf ps k = node then selL ps node k ++ [k] else selL ps node k := by
  unfold selL
  rw [List.range_succ, List.filter_append]
  by_cases h : ndOf ps k = node
  · rw [if_pos h]; simp [h]
  · rw [if_neg h]; simp [h]
theorem selL_len (ps : List Pt) (node : Int) (k : Nat) : (selL ps node k).length ≤ k := by
  unfold selL
  exact Nat.le_trans (List.length_filter_le ..) (by simp)
theorem mem_selL {ps : List Pt} {node : Int} {k i : Nat} : i ∈ selL ps node k ↔ i < k ∧ ndOf ps i = node := by
  unfold selL
  rw [List.mem_filter, List.mem_range, decide_eq_true_eq]
theorem selL_nodup (ps : List Pt) (node : Int) (k : Nat) : (selL ps node k).Nodup := (List.nodup_range).filter _
/-- A node's order. -/
structure Ord (ps : List Pt) (node : Int) (l : List Nat) : Prop where
  perm : l.Perm (selL ps node ps.length)
  le : l.Pairwise fun a b => stOf ps a ≤ stOf ps b
theorem Ord.mem {ps : List Pt} {node : Int} {l : List Nat} (h : Ord ps node l) {i : Nat} : i ∈ l ↔ i < ps.length ∧ ndOf ps i = node := by rw [h.perm.mem_iff, mem_selL]
theorem Ord.len {ps : List Pt} {node : Int} {l : List Nat} (h : Ord ps node l) : l.length ≤ ps.length := by
  rw [h.perm.length_eq]
  exact selL_len _ _ _
theorem Ord.nodup {ps : List Pt} {node : Int} {l : List Nat} (h : Ord ps node l) : l.Nodup := h.perm.nodup_iff.2 (selL_nodup _ _ _)
theorem Ord.at {ps : List Pt} {node : Int} {l : List Nat} (h : Ord ps node l) {k i : Nat} (hk : l[k]? = some i) : ∃ p, ps[i]? = some p ∧ p.node = node ∧ i < ps.length := by
  obtain ⟨h1, h2⟩ := h.mem.1 (List.mem_of_getElem? hk)
  refine ⟨_, List.getElem?_eq_getElem h1, ?_, h1⟩
  rw [ndOf_at (List.getElem?_eq_getElem h1)] at h2
  exact h2
/-- nums of naturals -/
def nats (l : List Nat) : List Int := l.map fun i : Nat => (i : Int)
theorem nats_len (l : List Nat) : (nats l).length = l.length := by simp [nats]
theorem nats_app (l m : List Nat) : nats (l ++ m) = nats l ++ nats m := by simp [nats]
theorem nats_get {l : List Nat} {k i : Nat} (h : l[k]? = some i) : (nums .i64 (nats l))[k]? = some (.int .i64 (i : Int)) := by simp [nums, nats, h]
end Go.Proofs.Ytcamoldjljfbeaa
