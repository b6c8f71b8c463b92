/- A row cut short; lists without one; windows and routes of fewer. -/
import Derived.Test.YtcamoldjljfbeaaSoG
import Derived.Test.YtcamoldjljfbeaaAppR
namespace Go.Proofs.Ytcamoldjljfbeaa
open Go.RowKit

theorem row_cut {w w0 : World} {S : Nat → Prop} {L : List Res} {e : TypeId} {size n c : Nat} {g : Nat} {xs : List Value} (h : Own w0 S w L) (k : Nat) (hk : L[k]? = some (row e size (.slice (some ⟨g, 0, none⟩) n c) n xs)) (b : Nat) (hb : b ≤ n) :
    Own w0 S w (L.set k (row e size (.slice (some ⟨g, 0, none⟩) b c) b (xs.take (b * size)))) := by
  refine h.step k hk _ (Kept.refl _ _) ?_ fun i hi => .inl hi
  obtain ⟨h1, h2⟩ := show w.ownsRow 0 e size (.slice (some ⟨g, 0, none⟩) n c) n xs from h.get k hk
  have hm : b * size ≤ n * size := Nat.mul_le_mul_right _ hb
  refine ⟨by rw [List.length_take, h1]; exact Nat.min_eq_left hm, ?_⟩
  rcases h2 with ⟨h2, _⟩ | ⟨g', cap, cur, e2, h3, h4, h5, h6, h7, h8⟩
  · cases h2
  · injection e2 with e2 _ e3
    subst e3
    injection e2 with e2
    injection e2 with e2
    subst e2
    exact .inr ⟨g, c, cur, rfl, Nat.zero_le _, h4, by omega, h6, h7, by rw [← h8, List.take_take, Nat.min_eq_left hm]⟩
theorem flat_takeK {α : Type} {f : α → List Value} {k : Nat} (hk : ∀ x, (f x).length = k) : ∀ (l : List α) (i : Nat), (l.flatMap f).take (i * k) = (l.take i).flatMap f
  | [], i => by simp
  | x :: l, 0 => by simp
  | x :: l, i + 1 => by
    rw [List.flatMap_cons, List.take_succ_cons, List.flatMap_cons, Nat.succ_mul, Nat.add_comm, List.take_append, hk, List.take_of_length_le (by rw [hk]; omega), Nat.add_sub_cancel_left, flat_takeK hk l i]
theorem flat_dropK {α : Type} {f : α → List Value} {k : Nat} (hk : ∀ x, (f x).length = k) : ∀ (l : List α) (i : Nat), (l.flatMap f).drop (i * k) = (l.drop i).flatMap f
  | [], i => by simp
  | x :: l, 0 => by simp
  | x :: l, i + 1 => by
    rw [List.flatMap_cons, List.drop_succ_cons, Nat.succ_mul, Nat.add_comm, List.drop_append, hk, List.drop_of_length_le (by rw [hk]; omega), Nat.add_sub_cancel_left, List.nil_append, flat_dropK hk l i]
theorem cells_drop {w : World} {g o : Nat} {xs : List Value} (h : Cells w (some ⟨g, o, none⟩) xs) (m : Nat) : Cells w (some ⟨g, o + m, none⟩) (xs.drop m) := fun j v hj => by
  rw [List.getElem?_drop] at hj
  obtain ⟨ad, e, hc⟩ := h (m + j) v hj
  injection e with e
  subst e
  refine ⟨_, rfl, ?_⟩
  rw [← hc]
  have e0 : ∀ k, (⟨g, o, none⟩ : Addr).add k = ⟨g, o + k, none⟩ := fun k => by unfold Addr.add; split <;> simp_all
  have e1 : ∀ k, (⟨g, o + m, none⟩ : Addr).add k = ⟨g, o + m + k, none⟩ := fun k => by unfold Addr.add; split <;> simp_all
  rw [e0, e1, Nat.add_assoc]
theorem winF_sub {N : Int} : ∀ {l l' : List Pt}, l'.Sublist l → ∀ {pre pre' : List Pt} {i j : Nat}, pre'.Sublist pre → winF N pre l i = none → winF N pre' l' j = none := by
  intro l l' hs
  induction hs with
  | slnil => intros; rfl
  | cons y hs ih =>
    intro pre pre' i j hp h
    unfold winF at h
    split at h
    · cases h
    · exact ih (hp.trans (List.sublist_append_left _ _)) h
  | cons_cons y hs ih =>
    intro pre pre' i j hp h
    unfold winF at h ⊢
    split at h
    · cases h
    · rename_i hb
      rw [if_neg, ih (hp.append (List.Sublist.refl _)) h]
      intro hb'
      apply hb
      unfold winBad at hb' ⊢
      rw [Bool.or_eq_true] at hb' ⊢
      refine hb'.imp id fun h' => ?_
      rw [List.any_eq_true] at h' ⊢
      obtain ⟨x, hx, hx'⟩ := h'
      exact ⟨x, hp.subset hx, hx'⟩
theorem rouF_sub {qs : List Qt} : ∀ {l l' : List Rt}, l'.Sublist l → ∀ {pre pre' : List Rt} {i j : Nat}, pre'.Sublist pre → rouF qs pre l i = none → rouF qs pre' l' j = none := by
  intro l l' hs
  induction hs with
  | slnil => intros; rfl
  | cons y hs ih =>
    intro pre pre' i j hp h
    unfold rouF at h
    split at h
    · cases h
    · exact ih (hp.trans (List.sublist_append_left _ _)) h
  | cons_cons y hs ih =>
    intro pre pre' i j hp h
    unfold rouF at h ⊢
    split at h
    · cases h
    · rename_i hb
      rw [if_neg, ih (hp.append (List.Sublist.refl _)) h]
      intro hb'
      apply hb
      unfold rouBad at hb' ⊢
      rw [Bool.or_eq_true] at hb' ⊢
      refine hb'.imp id fun h' => ?_
      rw [List.any_eq_true] at h' ⊢
      obtain ⟨x, hx, hx'⟩ := h'
      exact ⟨x, hp.subset hx, hx'⟩
end Go.Proofs.Ytcamoldjljfbeaa
