/- A set of ints that the call made; windows and routes at an index. -/
import Derived.Test.YtcamoldjljfbeaaSoG
import Derived.Test.YtcamoldjljfbeaaPack
import Derived.Maps.OwnSet
namespace Go.Proofs.Ytcamoldjljfbeaa
open Go.RowKit Go.Maps

set_option maxRecDepth 100000
theorem kInt : Try.prog.underlying 3 = some (.int .i64) := by kernel_rfl
theorem kBool : Try.prog.underlying 4 = some .bool := by kernel_rfl
theorem kMap : Try.prog.underlying 39 = some (.map 3 4) := by kernel_rfl
def SetAt (w : World) (b n : Nat) (f : Int → Bool) : Prop := ∃ D : DataW Unit, w.ownsMap Try.prog 3 (plainElem Try.prog 4) b n D ∧ ∀ t : Int, D.atKey (.int .i64 t) (.lit (.bool false)) = .lit (.bool (f t))
def setRes (b n : Nat) (f : Int → Bool) : Res := ⟨fun i => i = b, fun w => SetAt w b n f, fun w h i hi => by
    obtain ⟨D, h, _⟩ := h
    have := h.lt
    omega, fun w w' h k => by
    obtain ⟨D, ⟨es, clock, hb, F, hs, hD⟩, h2⟩ := h
    exact ⟨D, ⟨es, clock, (k b rfl).trans hb, F, hs, hD⟩, h2⟩⟩
theorem set_new {w w0 : World} {S : Nat → Prop} {L : List Res} (h : Own w0 S w L) : Own w0 S (w.alloc (.map #[] 0)) (setRes w.heap.size 0 (fun _ => false) :: L) :=
  h.new _ (below_alloc (Below.refl _ _) _) ⟨.map [], World.ownsMap_made w _ _ _, fun _ => rfl⟩ fun _ hi => Nat.le_of_eq (Eq.symm hi)
theorem set_look {w : World} {b n : Nat} {f : Int → Bool} (h : SetAt w b n f) (t : Int) (ht : (Lit.int .i64 t).wf = true) : (Instr.lookup 39 (.map (some b)) (.int .i64 t) false).run Try.prog w = .ok (.bool (f t)) w := by
  obtain ⟨D, h, h2⟩ := h
  obtain ⟨v, ps, hrun, hv⟩ := h.lookup (int_keyed kInt) kMap (z := .bool false) (zd := .lit (.bool false)) (zp := []) rfl (plainElem_bool kBool false) (keyOf_int_mk kInt ht)
  rw [h2 t] at hv
  rw [hrun]
  unfold plainElem at hv
  rw [kBool] at hv
  cases v <;> simp at hv
  rw [hv.1]
theorem set_put {w w0 : World} {S : Nat → Prop} {L : List Res} {b n k : Nat} {f : Int → Bool} (h : Own w0 S w L) (hk : L[k]? = some (setRes b n f)) (t : Int) (ht : (Lit.int .i64 t).wf = true) (hn : n < maxLen) :
    ∃ w', (Instr.mapUpdate 39 (.map (some b)) (.int .i64 t) (.bool true)).run Try.prog w = .ok () w' ∧ Own w0 S w' (L.set k (setRes b (n + 1) (fun q => f q || decide (q = t)))) := by
  obtain ⟨D, h1, h2⟩ := show SetAt w b n f from h.get k hk
  obtain ⟨w', hrun, hown, hg⟩ := h1.update (int_keyed kInt) kMap hn (keyOf_int_mk kInt ht) (plainElem_bool kBool true)
  refine ⟨w', hrun, h.step k hk _ (Kept.grown hg fun i hi => by injection hi with hi; exact hi.symm) ⟨_, hown, fun q => ?_⟩ fun i hi => .inl hi⟩
  by_cases e : q = t
  · subst e
    rw [atKey_put_same h1.isMap (by trivial)]
    simp
  · rw [atKey_put_other (by intro h; injection h with _ h; exact e h), h2 q]
    simp [e]
theorem winF_at {N : Int} {ps : List Pt} (h : winF N [] ps 0 = none) : ∀ i, i ≤ ps.length → winF N (ps.take i) (ps.drop i) i = none
  | 0, _ => h
  | i + 1, hi => by
    have ih := winF_at h i (by omega)
    rw [winF_step (List.getElem?_eq_getElem (show i < ps.length by omega))] at ih
    split at ih
    · cases ih
    · exact ih
theorem win_ok {N : Int} {ps : List Pt} (h : winF N [] ps 0 = none) {i : Nat} {p : Pt} (hp : ps[i]? = some p) : winBad N (ps.take i) p = false := by
  have hi := (List.getElem?_eq_some_iff.1 hp).1
  have := winF_at h i (by omega)
  rw [winF_step hp] at this
  split at this
  · cases this
  · rename_i hb
    simpa using hb
theorem rouF_at {qs : List Qt} {rs : List Rt} (h : rouF qs [] rs 0 = none) : ∀ i, i ≤ rs.length → rouF qs (rs.take i) (rs.drop i) i = none
  | 0, _ => h
  | i + 1, hi => by
    have ih := rouF_at h i (by omega)
    rw [rouF_step (List.getElem?_eq_getElem (show i < rs.length by omega))] at ih
    split at ih
    · cases ih
    · exact ih
theorem rou_ok {qs : List Qt} {rs : List Rt} (h : rouF qs [] rs 0 = none) {i : Nat} {p : Rt} (hp : rs[i]? = some p) : rouBad qs (rs.take i) p = false := by
  have hi := (List.getElem?_eq_some_iff.1 hp).1
  have := rouF_at h i (by omega)
  rw [rouF_step hp] at this
  split at this
  · cases this
  · rename_i hb
    simpa using hb
theorem win_end {N : Int} {ps : List Pt} (h : winF N [] ps 0 = none) {i : Nat} {p : Pt} (hp : ps[i]? = some p) : p.start + p.len ≤ N := by
  have := win_ok h hp
  unfold winBad at this
  rw [Bool.or_eq_false_iff] at this
  have := this.1
  rw [decide_eq_false_iff_not] at this
  omega
theorem win_apart {N : Int} {ps : List Pt} (h : winF N [] ps 0 = none) {i k : Nat} {p q : Pt} (hp : ps[i]? = some p) (hq : ps[k]? = some q) (hk : k < i) : clash p q = false := by
  have := win_ok h hp
  unfold winBad at this
  rw [Bool.or_eq_false_iff] at this
  have h2 := this.2
  rw [List.any_eq_false] at h2
  have := h2 q (List.mem_of_getElem? (i := k) (by rw [List.getElem?_take, if_pos hk]; exact hq))
  simpa using this
theorem win_two {N : Int} {ps : List Pt} (h : winF N [] ps 0 = none) {i k : Nat} {p q : Pt} (hp : ps[i]? = some p) (hq : ps[k]? = some q) (hk : i ≠ k) : ¬ (p.node = q.node ∧ p.start < q.start + q.len ∧ q.start < p.start + p.len) := by
  rintro ⟨h1, h2, h3⟩
  rcases Nat.lt_or_ge k i with h4 | h4
  · have := win_apart h hp hq h4
    simp [clash, h1, h2, h3] at this
  · have := win_apart h hq hp (by omega)
    simp [clash, h1, h2, h3] at this
end Go.Proofs.Ytcamoldjljfbeaa
