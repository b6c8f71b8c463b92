/- What is reached: the plain law. -/
import Derived.Test.YtcamoldjljfbeaaBase
namespace Go.Proofs.Ytcamoldjljfbeaa

def edge (out : List Bool) (e : Nat × Nat) : List Bool := if out[e.1]? = some true then out.set e.2 true else out
def passL (es : List (Nat × Nat)) (out : List Bool) : List Bool := es.foldl edge out
def passes (es : List (Nat × Nat)) : Nat → List Bool → List Bool
  | 0, out => out
  | k + 1, out => passL es (passes es k out)
def startL (n p : Nat) : List Bool := (List.replicate n false).set p true
def reachL (es : List (Nat × Nat)) (n p : Nat) : List Bool := passes es n (startL n p)
structure Le (X Y : List Bool) : Prop where
  len : X.length = Y.length
  le : ∀ k : Nat, X[k]? = some true → Y[k]? = some true
theorem Le.refl (X : List Bool) : Le X X := ⟨rfl, fun _ h => h⟩
theorem Le.trans {X Y Z : List Bool} (h : Le X Y) (g : Le Y Z) : Le X Z := ⟨h.len.trans g.len, fun k hk => g.le k (h.le k hk)⟩
theorem set_true {X : List Bool} {i k : Nat} (h : X[k]? = some true) : (X.set i true)[k]? = some true := by
  have hk : k < X.length := (List.getElem?_eq_some_iff.1 h).1
  rw [List.getElem?_set]
  split
  · rename_i e
    subst e
    rw [if_pos hk]
  · exact h
theorem edge_le (X : List Bool) (e : Nat × Nat) : Le X (edge X e) := by
  unfold edge
  split
  · exact ⟨by simp, fun k h => set_true h⟩
  · exact Le.refl X
theorem pass_le : ∀ (es : List (Nat × Nat)) (X : List Bool), Le X (passL es X)
  | [], X => Le.refl X
  | e :: es, X => (edge_le X e).trans (pass_le es (edge X e))
theorem passes_le (es : List (Nat × Nat)) (X : List Bool) : ∀ k, Le X (passes es k X)
  | 0 => Le.refl X
  | k + 1 => (passes_le es X k).trans (pass_le es _)
def ClosedL (es : List (Nat × Nat)) (X : List Bool) : Prop := ∀ e ∈ es, X[e.1]? = some true → e.2 < X.length → X[e.2]? = some true
theorem pass_edge : ∀ (es : List (Nat × Nat)) (X : List Bool) (e : Nat × Nat), e ∈ es → X[e.1]? = some true → e.2 < X.length → (passL es X)[e.2]? = some true
  | [], X, e, h, _, _ => by cases h
  | y :: es, X, e, h, h1, h2 => by
    rcases List.mem_cons.1 h with rfl | h
    · refine (pass_le es (edge X e)).le e.2 ?_
      unfold edge
      rw [if_pos h1, List.getElem?_set_self h2]
    · exact pass_edge es (edge X y) e h ((edge_le X y).le _ h1) (by rw [← (edge_le X y).len]; exact h2)
theorem count_le : ∀ (X Y : List Bool), Le X Y → X.count true ≤ Y.count true ∧ (X.count true = Y.count true → X = Y)
  | [], [], _ => ⟨Nat.le_refl _, fun _ => rfl⟩
  | [], _ :: _, h => by have := h.len; simp at this
  | _ :: _, [], h => by have := h.len; simp at this
  | x :: X, y :: Y, h => by
    have ih := count_le X Y ⟨by have := h.len; simpa using this, fun k hk => by have := h.le (k + 1) (by simpa using hk); simpa using this⟩
    have h0 := h.le 0
    simp only [List.getElem?_cons_zero, Option.some.injEq] at h0
    rcases x with _ | _
    · rcases y with _ | _
      · simp only [List.count_cons]
        refine ⟨by simpa using ih.1, fun e => ?_⟩
        rw [ih.2 (by simpa using e)]
      · simp only [List.count_cons]
        refine ⟨by have := ih.1; simp; omega, fun e => ?_⟩
        have := ih.1
        simp at e
        omega
    · obtain rfl := h0 rfl
      simp only [List.count_cons]
      refine ⟨by have := ih.1; simp; omega, fun e => ?_⟩
      rw [ih.2 (by simp at e; omega)]
theorem fix_or (es : List (Nat × Nat)) (X : List Bool) : ∀ k, passL es (passes es k X) = passes es k X ∨ X.count true + k ≤ (passes es k X).count true
  | 0 => .inr (Nat.le_refl _)
  | k + 1 => by
    by_cases e : passL es (passes es k X) = passes es k X
    · left
      show passL es (passL es (passes es k X)) = passL es (passes es k X)
      rw [e, e]
    · right
      have h1 := (fix_or es X k).resolve_left e
      have h2 := count_le _ _ (pass_le es (passes es k X))
      have h3 : (passes es k X).count true ≠ (passL es (passes es k X)).count true := fun h => e (h2.2 h).symm
      have h4 := h2.1
      show X.count true + (k + 1) ≤ (passL es (passes es k X)).count true
      omega
theorem start_get {n p : Nat} (hp : p < n) : (startL n p)[p]? = some true := List.getElem?_set_self (by simpa using hp)
theorem start_only {n p k : Nat} (h : (startL n p)[k]? = some true) : k = p := by
  unfold startL at h
  rw [List.getElem?_set] at h
  split at h
  · rename_i e; exact e.symm
  · rw [List.getElem?_replicate] at h
    split at h
    · cases h
    · cases h
theorem start_len (n p : Nat) : (startL n p).length = n := by simp [startL]
theorem passes_len (es : List (Nat × Nat)) (n p k : Nat) : (passes es k (startL n p)).length = n := by rw [← (passes_le es _ k).len, start_len]
theorem reach_len (es : List (Nat × Nat)) (n p : Nat) : (reachL es n p).length = n := passes_len es n p n
theorem reach_self (es : List (Nat × Nat)) {n p : Nat} (hp : p < n) : (reachL es n p)[p]? = some true := (passes_le es _ n).le p (start_get hp)
theorem reach_fix (es : List (Nat × Nat)) {n p : Nat} (hp : p < n) : passL es (reachL es n p) = reachL es n p := by
  refine (fix_or es (startL n p) n).resolve_right fun h => ?_
  have h1 : 0 < (startL n p).count true := List.count_pos_iff.2 (List.mem_of_getElem? (start_get hp))
  have h2 : (passes es n (startL n p)).count true ≤ n := by
    have := List.count_le_length (a := true) (l := passes es n (startL n p))
    rwa [passes_len] at this
  omega
theorem reach_closed (es : List (Nat × Nat)) {n p : Nat} (hp : p < n) : ClosedL es (reachL es n p) := fun e he h1 h2 => by
  have := pass_edge es _ e he h1 h2
  rwa [reach_fix es hp] at this
theorem pass_sub {es0 : List (Nat × Nat)} {A : List Bool} (hA : ClosedL es0 A) : ∀ (es : List (Nat × Nat)) (X : List Bool), (∀ e ∈ es, e ∈ es0) → Le X A → Le (passL es X) A
  | [], X, _, h => h
  | e :: es, X, hs, h => by
    refine pass_sub hA es (edge X e) (fun y hy => hs y (List.mem_cons_of_mem _ hy)) ?_
    unfold edge
    split
    · rename_i h1
      refine ⟨by rw [List.length_set]; exact h.len, fun k hk => ?_⟩
      rw [List.getElem?_set] at hk
      split at hk
      · rename_i e2
        subst e2
        split at hk
        · rename_i h3
          exact hA e (hs e (List.mem_cons_self ..)) (h.le _ h1) (by rw [← h.len]; exact h3)
        · cases hk
      · exact h.le k hk
    · exact h
theorem passes_sub {es : List (Nat × Nat)} {A X : List Bool} (hA : ClosedL es A) (h : Le X A) : ∀ k, Le (passes es k X) A
  | 0 => h
  | k + 1 => pass_sub hA es _ (fun _ h => h) (passes_sub hA h k)
theorem reach_tr {es : List (Nat × Nat)} {n p i k : Nat} (hp : p < n) (hi : (reachL es n p)[i]? = some true) (hk : (reachL es n i)[k]? = some true) : (reachL es n p)[k]? = some true :=
  (passes_sub (reach_closed es hp) ⟨by rw [start_len, reach_len], fun j hj => by rw [start_only hj]; exact hi⟩ n).le k hk
end Go.Proofs.Ytcamoldjljfbeaa
