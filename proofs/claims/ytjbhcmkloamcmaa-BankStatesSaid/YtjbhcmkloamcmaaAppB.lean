/- append to a slice of the call's own, of whatever (also nothing): as a run, as an operation. -/
import Derived.Test.YtjbhcmkloamcmaaApp
namespace Go.Proofs.Ytjbhcmkloamcmaa
open Go.RowKit

section
variable {P : Program} {w : World}
theorem run_want (t ty e : TypeId) (i : TypeInfo) (z : Value) (size bytes : Nat) (ht : P.underlying t = some (.slice e)) (hi : P.info? e = some i) (hz : i.zero = some z)
    (hsize : i.size = size) (hby : i.bytes = bytes) (hzs : z.cells.size = size) (hsz : 0 < size)
    (A : Option Addr) (n cap : Nat) (xs : List Value) (hw : WIn w e size A n cap xs) (B : Option Addr) (m c : Nat) (news : List Value) (hl : news.length = m * size)
    (hnews : Cells w B news) (hB : 0 < m → B ≠ none) (h1 : ∀ u ∈ news, u.oneCell' = true) (h63 : n + m ≤ maxLen) (hbytes : (n + m) * bytes ≤ 140737488355328) :
    ∃ A' cap' w', (Builtin.append_ #[t, t] ty #[.slice A n cap, .slice B m c]).run P w = .ok (.slice A' (n + m) cap') w' ∧ WIn w' e size A' (n + m) cap' (xs ++ news) ∧
      Kept (fun k => (Value.slice A n cap).ownBlock = some k) w w' ∧ ∀ k, (Value.slice A' (n + m) cap').ownBlock = some k → (Value.slice A n cap).ownBlock = some k ∨ w.heap.size ≤ k := by
  rcases Nat.eq_zero_or_pos m with rfl | hm
  · obtain rfl : news = [] := List.length_eq_zero_iff.1 (by rw [hl, Nat.zero_mul])
    have hsrc : Src P i.size t (.slice B 0 c) 0 [] w := by
      rcases B with _ | ad
      · exact Src.ofNil w ht c
      · exact Src.ofSlice w ht ad 0 c [] (by simp) (by simp) (by simp)
    refine ⟨A, cap, w, run_append_nothing (P := P) w t t ty e i ht hi A n cap hw.le.1 (.slice B 0 c) hsrc, by rw [List.append_nil]; exact hw, Kept.refl _ _, fun k hk => .inl hk⟩
  · obtain ⟨ad, rfl⟩ : ∃ ad, B = some ad := Option.ne_none_iff_exists'.1 (hB hm)
    rcases hw.own with hown | rfl
    · obtain ⟨g, cap', w', hr, h2, h3, h4, _⟩ := run_append_lies (P := P) w t ty 0 e i z size bytes ht hi hz hsize hby hzs hsz (.slice A n cap) n xs hown ad m c news hl (fun j u hu => by
        obtain ⟨a', e', hc⟩ := hnews j u hu
        injection e' with e'
        subst e'
        exact hc) h1 hm h63 hbytes (Nat.zero_le _) w.heap.size rfl
      refine ⟨_, _, w', hr, WIn.of_own h2, Kept.grown h3 fun k h => h, fun k hk => ?_⟩
      have hk' : some g = some k := hk
      injection hk' with hk'
      subst hk'
      rcases h4 with h4 | h4
      · exact .inl h4
      · exact .inr (Nat.le_of_eq h4.symm)
    · obtain ⟨cap', w', hr, h2, h3⟩ := run_append_full (P := P) t ty e i z size bytes ht hi hz hsize hby hzs A cap xs hw.cells hw.ll ad m c news hl hnews h1 hm h63 hbytes
      refine ⟨_, _, w', hr, WIn.of_own h2, Kept.below h3, fun k hk => ?_⟩
      have hk' : some w.heap.size = some k := hk
      injection hk' with hk'
      exact .inr (Nat.le_of_eq hk')
/-- At the operation. -/
theorem wp_want {o : Oper} {a : Act} {K : Act → World → Prop} {Q : Exit → Act → World → Prop} (s x : Operand) (t : TypeId)
    (ho : o.op = .call { callee := .builtin .append, args := #[s, x], argTypes := #[t, t] })
    (e : TypeId) (i : TypeInfo) (z : Value) (size bytes : Nat) (ht : P.underlying t = some (.slice e)) (hi : P.info? e = some i) (hz : i.zero = some z)
    (hsize : i.size = size) (hby : i.bytes = bytes) (hzs : z.cells.size = size) (hsz : 0 < size)
    (A : Option Addr) (n cap : Nat) (xs : List Value) (hw : WIn w e size A n cap xs) (hs : a.eval s = .slice A n cap) (B : Option Addr) (m c : Nat) (news : List Value) (hx : a.eval x = .slice B m c) (hl : news.length = m * size)
    (hnews : Cells w B news) (hB : 0 < m → B ≠ none) (h1 : ∀ u ∈ news, u.oneCell' = true) (h63 : n + m ≤ maxLen) (hbytes : (n + m) * bytes ≤ 140737488355328)
    (h : ∀ A' cap' w', WIn w' e size A' (n + m) cap' (xs ++ news) → Kept (fun k => (Value.slice A n cap).ownBlock = some k) w w' → (∀ k, (Value.slice A' (n + m) cap').ownBlock = some k → (Value.slice A n cap).ownBlock = some k ∨ w.heap.size ≤ k) →
      K (a.put o.dst (.slice A' (n + m) cap')) w') : o.wp P a w K Q := by
  obtain ⟨A', cap', w', hr, h2, h3, h4⟩ := run_want (P := P) t o.type e i z size bytes ht hi hz hsize hby hzs hsz A n cap xs hw B m c news hl hnews hB h1 h63 hbytes
  unfold Oper.wp execOp
  simp only [ho, resolve, invoke, builtin, Sem.run_bind, Sem.run_pure, Result.andThen_ok, List.map_toArray, List.map_cons, List.map_nil, hs, hx, hr]
  exact h A' cap' w' h2 h3 h4
/-- At a list of operations. -/
theorem wpList_any {ops : Array Oper} {rest : List Oper} {o : Oper} {a : Act} {Q : Exit → Act → World → Prop} {w0 : World} {S : Nat → Prop} {L : List Res} (hgd : o.guard = none) (s x : Operand) (t : TypeId)
    (ho : o.op = .call { callee := .builtin .append, args := #[s, x], argTypes := #[t, t] })
    (e : TypeId) (i : TypeInfo) (z : Value) (size bytes : Nat) (ht : P.underlying t = some (.slice e)) (hi : P.info? e = some i) (hz : i.zero = some z)
    (hsize : i.size = size) (hby : i.bytes = bytes) (hzs : z.cells.size = size) (hsz : 0 < size)
    (hO : Own w0 S w L) (k : Nat) (A : Option Addr) (n cap : Nat) (xs : List Value) (hk : L[k]? = some (wres e size A n cap xs)) (hs : a.eval s = .slice A n cap)
    (B : Option Addr) (m c : Nat) (news : List Value) (hx : a.eval x = .slice B m c) (hl : news.length = m * size) (hnews : Cells w B news) (hB : 0 < m → B ≠ none) (h1 : ∀ u ∈ news, u.oneCell' = true)
    (h63 : n + m ≤ maxLen) (hbytes : (n + m) * bytes ≤ 140737488355328)
    (h : ∀ A' cap' w', Own w0 S w' (L.set k (wres e size A' (n + m) cap' (xs ++ news))) → wpList P ops Q rest (a.put o.dst (.slice A' (n + m) cap')) w') : wpList P ops Q (o :: rest) a w := by
  obtain ⟨A', cap', w', hr, h2, h3, h4⟩ := run_want (P := P) t o.type e i z size bytes ht hi hz hsize hby hzs hsz A n cap xs (hO.get k hk) B m c news hl hnews hB h1 h63 hbytes
  refine wpList_plain hgd fun K hK => ?_
  unfold Oper.wp
  simp only [execOp, ho, resolve, invoke, builtin, Sem.run_bind, Sem.run_pure, Result.andThen_ok, List.map_toArray, List.map_cons, List.map_nil, hs, hx, hr]
  exact hK _ _ (h _ _ _ (hO.step k hk (wres e size A' (n + m) cap' (xs ++ news)) h3 h2 h4))
/-- A slice without elements, made by the call. -/
theorem win_empty (w : World) (e : TypeId) (size : Nat) (fr : Nat × Nat) : WIn (w.alloc (.cells #[] e fr)) e size (some ⟨w.heap.size, 0, none⟩) 0 0 [] :=
  ⟨by simp, ⟨Nat.le_refl _, Nat.zero_le _⟩, Cells.nil _ _, fun k h => by (injection h with h; subst h; simp), .inr rfl⟩
theorem own_empty {w0 : World} {S : Nat → Prop} {L : List Res} (h : Own w0 S w L) (e : TypeId) (size : Nat) (fr : Nat × Nat) : Own w0 S (w.alloc (.cells #[] e fr)) (wres e size (some ⟨w.heap.size, 0, none⟩) 0 0 [] :: L) :=
  h.new _ (below_alloc (Below.refl _ _) _) (win_empty w e size fr) fun k h => by (injection h with h; exact Nat.le_of_eq h)
theorem Cells.kept {T : Nat → Prop} {w w' : World} {A : Option Addr} {xs : List Value} (h : Cells w A xs) (k : Kept T w w') (hA : ∀ ad, A = some ad → ¬ T ad.block) : Cells w' A xs := fun j v hj => by
  obtain ⟨a, rfl, hc⟩ := h j v hj
  have hb : (a.add j).block = a.block := by unfold Addr.add; split <;> rfl
  exact ⟨a, rfl, k.cells (by rw [hb]; exact hA a rfl) hc⟩
end
end Go.Proofs.Ytjbhcmkloamcmaa
