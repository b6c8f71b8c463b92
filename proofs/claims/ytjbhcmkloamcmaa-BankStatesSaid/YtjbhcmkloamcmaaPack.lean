/- Several things as one, kept apart. -/
import Derived.Test.YtjbhcmkloamcmaaFlow
namespace Go.Proofs.Ytjbhcmkloamcmaa
open Go.RowKit

/-- Nothing. -/
def Res.emp : Res := ⟨fun _ => False, fun _ => True, fun _ _ _ h => h.elim, fun _ _ h _ => h⟩
/-- Two things, apart. -/
def Res.with (r1 r2 : Res) : Res := ⟨fun i => r1.foot i ∨ r2.foot i, fun w => r1.holds w ∧ r2.holds w ∧ ∀ i, r1.foot i → ¬ r2.foot i, fun w h i hi => hi.elim (r1.lt w h.1 i) (r2.lt w h.2.1 i),
  fun w w' h k => ⟨r1.loc w w' h.1 fun i hi => k i (.inl hi), r2.loc w w' h.2.1 fun i hi => k i (.inr hi), h.2.2⟩⟩
def Res.pack : List Res → Res
  | [] => .emp
  | r :: l => r.with (pack l)

section
variable {w0 w w' : World} {S : Nat → Prop} {L M : List Res}
theorem Own.with_in {r1 r2 : Res} (h : Own w0 S w (r1 :: r2 :: L)) : Own w0 S w (r1.with r2 :: L) := h.join _ (fun h1 h2 h3 => ⟨h1, h2, h3⟩) fun _ hi => hi
theorem Own.with_out {r1 r2 : Res} (h : Own w0 S w (r1.with r2 :: L)) : Own w0 S w (r1 :: r2 :: L) := by
  obtain ⟨h1, h2, h3⟩ := h.has _ List.mem_cons_self
  exact h.split h1 h2 (fun i => .inl) (fun i => .inr) h3
theorem Own.emp_in (h : Own w0 S w L) : Own w0 S w (Res.emp :: L) := h.new _ (Below.refl _ _) trivial fun _ hi => hi.elim
theorem Own.pack_out : ∀ {M L : List Res}, Own w0 S w (Res.pack M :: L) → Own w0 S w (M ++ L)
  | [], L, h => h.tail
  | r :: M, L, h => by
    have h1 := h.with_out
    have h2 : Own w0 S w (Res.pack M :: r :: L) := h1.perm (List.Perm.swap ..)
    have h3 := h2.pack_out
    exact h3.perm (by rw [List.cons_append]; exact List.perm_middle.symm)
theorem Own.pack_in : ∀ {M L : List Res}, Own w0 S w (M ++ L) → Own w0 S w (Res.pack M :: L)
  | [], L, h => h.emp_in
  | r :: M, L, h => by
    have h1 : Own w0 S w (M ++ r :: L) := h.perm (by rw [List.cons_append]; exact List.perm_middle)
    have h2 := h1.pack_in
    exact Own.with_in (h2.perm (List.Perm.swap ..))
/-- A packed thing, laid open, apart from all else. -/
theorem Own.open_ (h : Own w0 S w L) (k : Nat) (hk : L[k]? = some (Res.pack M)) : Own w (Res.pack M).foot w M := by
  have h1 := (Own.one (h.get k hk)).pack_out
  rwa [List.append_nil] at h1
/-- And shut again. -/
theorem Own.shut (h : Own w0 S w L) (k : Nat) (hk : L[k]? = some (Res.pack M)) {N : List Res} (h1 : Own w (Res.pack M).foot w' N) : Own w0 S w' (L.set k (Res.pack N)) :=
  h.call k hk (Own.pack_in (by rwa [List.append_nil]))
theorem Own.fresh (h1 : Own w (fun _ => False) w' M) : Own w (fun _ => False) w' [Res.pack M] := Own.pack_in (by rwa [List.append_nil])
/-- Several new things. -/
theorem Own.madeL (h : Own w0 S w L) (hc : Own w (fun _ => False) w' M) : Own w0 S w' (M ++ L) := (h.made (Own.fresh hc)).pack_out
/-- Some of the things, in another order. -/
theorem Own.reorder (h : Own w0 S w L) (ix : List Nat) (hM : ix.map (fun i => L[i]?) = M.map some) (nd : ix.Nodup) : Own w0 S w M := by
  have hlen : ix.length = M.length := by simpa using congrArg List.length hM
  have key : ∀ (i : Nat) (hi : i < M.length), L[ix[i]'(by omega)]? = some M[i] := fun i hi => by
    have h1 := congrArg (fun l => l[i]?) hM
    simp only [List.getElem?_map, List.getElem?_eq_getElem (show i < ix.length by omega), List.getElem?_eq_getElem hi, Option.map_some, Option.some.injEq] at h1
    exact h1
  have hin : ∀ r ∈ M, r ∈ L := fun r hr => by
    obtain ⟨i, hi, rfl⟩ := List.getElem_of_mem hr
    exact List.mem_of_getElem? (key i hi)
  refine ⟨h.kept, fun r hr => h.has r (hin r hr), ?_, fun r hr => h.own r (hin r hr)⟩
  rw [List.pairwise_iff_getElem]
  intro i j hi hj hij
  refine h.apart' _ _ (key i hi) (key j hj) fun e => ?_
  have := List.nodup_iff_pairwise_ne.1 nd
  rw [List.pairwise_iff_getElem] at this
  exact this i j (by omega) (by omega) hij e
theorem set_perm {α : Type} : ∀ (l : List α) (k : Nat) (x : α), k < l.length → (l.set k x).Perm (x :: l.eraseIdx k)
  | [], _, _, h => by simp at h
  | a :: l, 0, x, _ => List.Perm.refl _
  | a :: l, k + 1, x, h => ((set_perm l k x (by simpa using h)).cons a).trans (List.Perm.swap ..)
/-- A call on one thing that leaves a second one. -/
theorem Own.call2 {r r' s : Res} (h : Own w0 S w L) (k : Nat) (hk : L[k]? = some r) (hc : Own w r.foot w' [r', s]) : Own w0 S w' (s :: L.set k r') := by
  have h1 := h.frame k hk hc
  have hlt : k < L.length := (List.getElem?_eq_some_iff.1 hk).1
  refine h1.perm ?_
  exact (List.Perm.cons s (set_perm L k r' hlt)).trans (List.Perm.swap ..)
end
end Go.Proofs.Ytjbhcmkloamcmaa
