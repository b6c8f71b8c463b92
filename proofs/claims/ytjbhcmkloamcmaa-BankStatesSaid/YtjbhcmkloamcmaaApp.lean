/- append where there is no room: a new row; and append of nothing. -/
import Derived.Test.YtjbhcmkloamcmaaRes
import Derived.Deep.AppendSrc
import Derived.Deep.Upon
import Derived.Deep.AppendLies
namespace Go.Proofs.Ytjbhcmkloamcmaa
open Go.RowKit

section
variable {P : Program} {w : World}
theorem hold_cells {size n c : Nat} {A : Option Addr} {xs : List Value} (hx : Cells w A xs) (hl : xs.length = n * size) : (Builtin.firstCells size n (.slice A n c)).run P w = .ok xs.toArray w := by
  rcases A with _ | a
  · have : xs = [] := by
      rcases xs with _ | ⟨u, us⟩
      · rfl
      · obtain ⟨ad, h', _⟩ := hx 0 _ rfl
        cases h'
    subst this
    exact run_firstCells_none w size n n c
  · refine run_firstCells_some w size n a n c xs hl fun j v hv => ?_
    obtain ⟨a', e, h⟩ := hx j v hv
    injection e with e
    subst e
    exact h
/-- No room. -/
theorem run_append_full (t ty e : TypeId) (i : TypeInfo) (z : Value) (size bytes : Nat) (ht : P.underlying t = some (.slice e)) (hi : P.info? e = some i) (hz : i.zero = some z)
    (hsize : i.size = size) (hby : i.bytes = bytes) (hzs : z.cells.size = size)
    (A : Option Addr) (n : Nat) (xs : List Value) (hx : Cells w A xs) (hlx : xs.length = n * size) (ad : Addr) (m c : Nat) (news : List Value) (hl : news.length = m * size)
    (hnews : Cells w (some ad) news) (h1 : ∀ u ∈ news, u.oneCell' = true) (hm : 0 < m) (h63 : n + m ≤ maxLen) (hbytes : (n + m) * bytes ≤ 140737488355328) :
    ∃ cap w', (Builtin.append_ #[t, t] ty #[.slice A n n, .slice (some ad) m c]).run P w = .ok (.slice (some ⟨w.heap.size, 0, none⟩) (n + m) cap) w' ∧
      w'.ownsRow w.heap.size e size (.slice (some ⟨w.heap.size, 0, none⟩) (n + m) cap) (n + m) (xs ++ news) ∧ Below w.heap.size w w' := by
  subst hsize hby
  have hsrc : Src P i.size t (.slice (some ad) m c) m news w := Src.ofSlice w ht ad m c news hl (fun j u hu => by
    obtain ⟨a', e', h⟩ := hnews j u hu
    injection e' with e'
    subst e'
    exact h) h1
  have hr := run_append_grow_src (P := P) w t t ty e i z ht hi hz A n n xs (hold_cells hx.drew hlx) (.slice (some ad) m c) m news hsrc (by omega) (by unfold maxLen at h63; omega) (growslice_fits (by omega) hbytes)
  refine ⟨_, _, hr, ⟨by rw [List.length_append, hlx, hl, Nat.add_mul], .inr ⟨w.heap.size, _, _, rfl, Nat.le_refl _, heap_alloc_new w.drew _, grownCap_ge _ _ _ _, grownCap_le_maxLen _ _ _ _ h63, ?_, ?_⟩⟩, below_alloc (Below.refl _ _).drew _⟩
  · have := grownCap_ge w (n + m) n e
    rw [Array.size_append, size_zeroCells, hzs, List.size_toArray, List.length_append, hlx, hl, ← Nat.add_mul, ← Nat.add_mul]
    congr 1
    omega
  · simp only [Array.toList_append]
    rw [List.take_append_of_le_length (by rw [List.length_append, hlx, hl, Nat.add_mul]; exact Nat.le_refl _), List.take_of_length_le (by rw [List.length_append, hlx, hl, Nat.add_mul]; exact Nat.le_refl _)]
end

/-- A slice to which only the call appends: a row of its own, or one without room. -/
structure WIn (w : World) (e : TypeId) (size : Nat) (A : Option Addr) (n cap : Nat) (xs : List Value) : Prop where
  ll : xs.length = n * size
  le : n ≤ cap ∧ cap ≤ maxLen
  cells : Cells w A xs
  lt : ∀ k, (Value.slice A n cap).ownBlock = some k → k < w.heap.size
  own : w.ownsRow 0 e size (.slice A n cap) n xs ∨ cap = n
theorem Cells.loc {w w' : World} {A : Option Addr} {xs : List Value} (h : Cells w A xs) (k : ∀ a, A = some a → w'.heap[a.block]? = w.heap[a.block]?) : Cells w' A xs := fun j v hj => by
  obtain ⟨a, rfl, hc⟩ := h j v hj
  refine ⟨a, rfl, ?_⟩
  rw [← hc]
  have hb : (a.add j).block = a.block := by unfold Addr.add; split <;> rfl
  exact World.cell?_of_block (by rw [hb]; exact k a rfl)
theorem lt_of_kept {w w' : World} {i : Nat} (hlt : i < w.heap.size) (h : w'.heap[i]? = w.heap[i]?) : i < w'.heap.size := by
  rcases Nat.lt_or_ge i w'.heap.size with h' | h'
  · exact h'
  · rw [Array.getElem?_eq_none h', Array.getElem?_eq_getElem hlt] at h; cases h
def wres (e : TypeId) (size : Nat) (A : Option Addr) (n cap : Nat) (xs : List Value) : Res :=
  ⟨fun i => (Value.slice A n cap).ownBlock = some i, fun w => WIn w e size A n cap xs, fun _ h i hi => h.lt i hi,
   fun w w' h k => ⟨h.ll, h.le, h.cells.loc fun a ha => k a.block (by rw [ha]; rfl), fun i hi => lt_of_kept (h.lt i hi) (k i hi),
    h.own.imp (fun o => ownsRow_loc o k) id⟩⟩
theorem wres_nil (w : World) (e : TypeId) (size : Nat) : WIn w e size none 0 0 [] := ⟨by simp, ⟨Nat.le_refl _, Nat.zero_le _⟩, Cells.nil _ _, fun k h => by (cases h), .inl ⟨by simp, .inl ⟨rfl, rfl⟩⟩⟩
theorem WIn.of_own {w : World} {base : Nat} {e : TypeId} {size n c : Nat} {A : Option Addr} {xs : List Value} (h : w.ownsRow base e size (.slice A n c) n xs) : WIn w e size A n c xs := by
  obtain ⟨A', c', e1, h2, h3, h4⟩ := Cells.of_own h
  injection e1 with e1 _ e2
  subst e1 e2
  refine ⟨h.1, ⟨h2, h3⟩, h4, own_lt h, .inl ?_⟩
  obtain ⟨h1, h2⟩ := h
  refine ⟨h1, ?_⟩
  rcases h2 with h2 | ⟨g, cap, cur, e2, hg, r⟩
  · exact .inl h2
  · exact .inr ⟨g, cap, cur, e2, Nat.zero_le _, r⟩
section
variable {P : Program} {w w0 : World} {S : Nat → Prop} {L : List Res}
/-- append(v, x...). -/
theorem wpList_want {ops : Array Oper} {rest : List Oper} {o : Oper} {a : Act} {Q : Exit → Act → World → Prop} (hgd : o.guard = none) (s x : Operand) (t : TypeId)
    (ho : o.op = .call { callee := .builtin .append, args := #[s, x], argTypes := #[t, t] })
    (e : TypeId) (i : TypeInfo) (z : Value) (size bytes : Nat) (ht : P.underlying t = some (.slice e)) (hi : P.info? e = some i) (hz : i.zero = some z)
    (hsize : i.size = size) (hby : i.bytes = bytes) (hzs : z.cells.size = size) (hsz : 0 < size)
    (hO : Own w0 S w L) (k : Nat) (A : Option Addr) (n cap : Nat) (xs : List Value) (hk : L[k]? = some (wres e size A n cap xs)) (hs : a.eval s = .slice A n cap)
    (ad : Addr) (m c : Nat) (news : List Value) (hx : a.eval x = .slice (some ad) m c) (hl : news.length = m * size) (hnews : Cells w (some ad) news) (h1 : ∀ u ∈ news, u.oneCell' = true)
    (hm : 0 < m) (h63 : n + m ≤ maxLen) (hbytes : (n + m) * bytes ≤ 140737488355328)
    (h : ∀ A' cap' w', Own w0 S w' (L.set k (wres e size A' (n + m) cap' (xs ++ news))) → wpList P ops Q rest (a.put o.dst (.slice A' (n + m) cap')) w') : wpList P ops Q (o :: rest) a w := by
  have hw : WIn w e size A n cap xs := hO.get k hk
  rcases hw.own with hown | rfl
  · refine wpList_append_lies w hgd s x t ho 0 e i z size bytes ht hi hz hsize hby hzs hsz (.slice A n cap) n xs hs hown ad m c news hx hl (fun j u hu => ?_) h1 hm h63 hbytes (Nat.zero_le _) w.heap.size rfl fun g cap' w' h2 h3 h4 _ => ?_
    · obtain ⟨a', e', hc⟩ := hnews j u hu
      injection e' with e'
      subst e'
      exact hc
    · refine h _ _ _ (hO.step k hk (wres e size (some ⟨g, 0, none⟩) (n + m) cap' (xs ++ news)) (Kept.grown h3 fun k h => h) (WIn.of_own h2) fun i hi => ?_)
      have hi' : some g = some i := hi
      injection hi' with hi'
      subst hi'
      rcases h4 with h4 | h4
      · exact .inl h4
      · exact .inr (Nat.le_of_eq h4.symm)
  · obtain ⟨cap', w', hr, h2, h3⟩ := run_append_full (P := P) t o.type e i z size bytes ht hi hz hsize hby hzs A cap xs hw.cells hw.ll ad m c news hl hnews h1 hm h63 hbytes
    refine wpList_plain hgd fun K hK => ?_
    unfold Oper.wp
    simp only [execOp, ho, resolve, invoke, builtin, Sem.run_bind, Sem.run_pure, Result.andThen_ok, List.map_toArray, List.map_cons, List.map_nil, hs, hx, hr]
    refine hK _ _ (h _ _ _ (hO.step k hk (wres e size (some ⟨w.heap.size, 0, none⟩) (cap + m) cap' (xs ++ news)) (Kept.below h3) (WIn.of_own h2) fun i hi => ?_))
    have hi' : some w.heap.size = some i := hi
    injection hi' with hi'
    exact .inr (Nat.le_of_eq hi')
/-- append(v[:b:b], v[b+1:]...), as two slices of one row. -/
theorem wpList_cut {ops : Array Oper} {rest : List Oper} {o : Oper} {a : Act} {Q : Exit → Act → World → Prop} (hgd : o.guard = none) (s x : Operand) (t : TypeId)
    (ho : o.op = .call { callee := .builtin .append, args := #[s, x], argTypes := #[t, t] })
    (e : TypeId) (i : TypeInfo) (z : Value) (size bytes : Nat) (ht : P.underlying t = some (.slice e)) (hi : P.info? e = some i) (hz : i.zero = some z)
    (hsize : i.size = size) (hby : i.bytes = bytes) (hzs : z.cells.size = size)
    (hO : Own w0 S w L) (k : Nat) (A : Option Addr) (n cap : Nat) (xs : List Value) (hk : L[k]? = some (wres e size A n cap xs)) (b : Nat) (hb : b ≤ n) (hs : a.eval s = .slice A b b)
    (B : Option Addr) (m c : Nat) (news : List Value) (hx : a.eval x = .slice B m c) (hl : news.length = m * size) (hnews : Cells w B news) (h1 : ∀ u ∈ news, u.oneCell' = true) (hB : 0 < m → B ≠ none)
    (h63 : b + m ≤ maxLen) (hbytes : (b + m) * bytes ≤ 140737488355328)
    (h : ∀ A' cap' w', Own w0 S w' (L.set k (wres e size A' (b + m) cap' (xs.take (b * size) ++ news))) → wpList P ops Q rest (a.put o.dst (.slice A' (b + m) cap')) w') : wpList P ops Q (o :: rest) a w := by
  have hw : WIn w e size A n cap xs := hO.get k hk
  have hlx : (xs.take (b * size)).length = b * size := by rw [List.length_take, hw.ll]; exact Nat.min_eq_left (Nat.mul_le_mul_right _ hb)
  refine wpList_plain hgd fun K hK => ?_
  rcases Nat.eq_zero_or_pos m with rfl | hm
  · obtain rfl : news = [] := List.length_eq_zero_iff.1 (by rw [hl, Nat.zero_mul])
    have hsrc : Src P i.size t (.slice B 0 c) 0 [] w := by
      rcases B with _ | ad
      · exact Src.ofNil w ht c
      · exact Src.ofSlice w ht ad 0 c [] (by simp) (by simp) (by simp)
    have hr := run_append_nothing (P := P) w t t o.type e i ht hi A b b (Nat.le_refl _) (.slice B 0 c) hsrc
    unfold Oper.wp
    simp only [execOp, ho, resolve, invoke, builtin, Sem.run_bind, Sem.run_pure, Result.andThen_ok, List.map_toArray, List.map_cons, List.map_nil, hs, hx, hr]
    refine hK _ _ (h A b w (hO.step k hk _ (Kept.refl _ _) (?_ : WIn w e size A b b (xs.take (b * size) ++ [])) fun i hi => .inl ?_))
    · rw [List.append_nil]
      exact ⟨hlx, ⟨Nat.le_refl _, by have := hw.le; omega⟩, hw.cells.take _, fun k hk => hw.lt k (by cases A <;> exact hk), .inr rfl⟩
    · have hi' : (Value.slice A b b).ownBlock = some i := hi
      show (Value.slice A n cap).ownBlock = some i
      cases A <;> exact hi'
  · obtain ⟨ad, rfl⟩ : ∃ ad, B = some ad := Option.ne_none_iff_exists'.1 (hB hm)
    obtain ⟨cap', w', hr, h2, h3⟩ := run_append_full (P := P) t o.type e i z size bytes ht hi hz hsize hby hzs A b _ (hw.cells.take (b * size)) hlx ad m c news hl hnews h1 hm h63 hbytes
    unfold Oper.wp
    simp only [execOp, ho, resolve, invoke, builtin, Sem.run_bind, Sem.run_pure, Result.andThen_ok, List.map_toArray, List.map_cons, List.map_nil, hs, hx, hr]
    refine hK _ _ (h _ _ _ (hO.step k hk (wres e size (some ⟨w.heap.size, 0, none⟩) (b + m) cap' (xs.take (b * size) ++ news)) (Kept.below h3) (WIn.of_own h2) fun i hi => ?_))
    have hi' : some w.heap.size = some i := hi
    injection hi' with hi'
    exact .inr (Nat.le_of_eq hi')
end
end Go.Proofs.Ytjbhcmkloamcmaa
