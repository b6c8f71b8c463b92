/- append to a row of the call's own: it is one again. -/
import Derived.Test.YtjbhcmkloamcmaaAppB
import Derived.Test.YtjbhcmkloamcmaaBytes
namespace Go.Proofs.Ytjbhcmkloamcmaa
open Go.RowKit

section
variable {P : Program} {w w0 : World} {S : Nat → Prop} {L : List Res}
theorem run_row (t ty e : TypeId) (i : TypeInfo) (z : Value) (size bytes : Nat) (ht : P.underlying t = some (.slice e)) (hi : P.info? e = some i) (hz : i.zero = some z)
    (hsize : i.size = size) (hby : i.bytes = bytes) (hzs : z.cells.size = size) (hsz : 0 < size)
    (A : Option Addr) (n cap : Nat) (xs : List Value) (hw : w.ownsRow 0 e size (.slice A n cap) n xs) (B : Option Addr) (m c : Nat) (news : List Value) (hl : news.length = m * size)
    (hnews : Cells w B news) (hB : 0 < m → B ≠ none) (h1 : ∀ u ∈ news, u.oneCell' = true) (h63 : n + m ≤ maxLen) (hbytes : (n + m) * bytes ≤ 140737488355328) :
    ∃ A' cap' w', (Builtin.append_ #[t, t] ty #[.slice A n cap, .slice B m c]).run P w = .ok (.slice A' (n + m) cap') w' ∧ w'.ownsRow 0 e size (.slice A' (n + m) cap') (n + m) (xs ++ news) ∧
      Kept (fun k => (Value.slice A n cap).ownBlock = some k) w w' ∧ ∀ k, (Value.slice A' (n + m) cap').ownBlock = some k → (Value.slice A n cap).ownBlock = some k ∨ w.heap.size ≤ k := by
  rcases Nat.eq_zero_or_pos m with rfl | hm
  · obtain rfl : news = [] := List.length_eq_zero_iff.1 (by rw [hl, Nat.zero_mul])
    have hsrc : Src P i.size t (.slice B 0 c) 0 [] w := by
      rcases B with _ | ad
      · exact Src.ofNil w ht c
      · exact Src.ofSlice w ht ad 0 c [] (by simp) (by simp) (by simp)
    obtain ⟨A', c', e1, h2, _, _⟩ := Cells.of_own hw
    injection e1 with _ _ e1
    subst e1
    refine ⟨A, cap, w, run_append_nothing (P := P) w t t ty e i ht hi A n cap h2 (.slice B 0 c) hsrc, by rw [List.append_nil]; exact hw, Kept.refl _ _, fun k hk => .inl hk⟩
  · obtain ⟨ad, rfl⟩ : ∃ ad, B = some ad := Option.ne_none_iff_exists'.1 (hB hm)
    obtain ⟨g, cap', w', hr, h2, h3, h4, _⟩ := run_append_lies (P := P) w t ty 0 e i z size bytes ht hi hz hsize hby hzs hsz (.slice A n cap) n xs hw ad m c news hl (fun j u hu => by
        obtain ⟨a', e', hc⟩ := hnews j u hu
        injection e' with e'
        subst e'
        exact hc) h1 hm h63 hbytes (Nat.zero_le _) w.heap.size rfl
    refine ⟨_, _, w', hr, h2, Kept.grown h3 fun k h => h, fun k hk => ?_⟩
    have hk' : some g = some k := hk
    injection hk' with hk'
    subst hk'
    rcases h4 with h4 | h4
    · exact .inl h4
    · exact .inr (Nat.le_of_eq h4.symm)
/-- At the operation. -/
theorem wp_row {o : Oper} {a : Act} {K : Act → World → Prop} {Q : Exit → Act → World → Prop} (s x : Operand) (t : TypeId)
    (ho : o.op = .call { callee := .builtin .append, args := #[s, x], argTypes := #[t, t] })
    (e : TypeId) (i : TypeInfo) (z : Value) (size bytes : Nat) (ht : P.underlying t = some (.slice e)) (hi : P.info? e = some i) (hz : i.zero = some z)
    (hsize : i.size = size) (hby : i.bytes = bytes) (hzs : z.cells.size = size) (hsz : 0 < size)
    (hO : Own w0 S w L) (k : Nat) (A : Option Addr) (n cap : Nat) (xs : List Value) (hk : L[k]? = some (row e size (.slice A n cap) n xs)) (hs : a.eval s = .slice A n cap)
    (B : Option Addr) (m c : Nat) (news : List Value) (hx : a.eval x = .slice B m c) (hl : news.length = m * size) (hnews : Cells w B news) (hB : 0 < m → B ≠ none) (h1 : ∀ u ∈ news, u.oneCell' = true)
    (h63 : n + m ≤ maxLen) (hbytes : (n + m) * bytes ≤ 140737488355328)
    (h : ∀ A' cap' w', Own w0 S w' (L.set k (row e size (.slice A' (n + m) cap') (n + m) (xs ++ news))) → Kept (fun k => (Value.slice A n cap).ownBlock = some k) w w' → K (a.put o.dst (.slice A' (n + m) cap')) w') : o.wp P a w K Q := by
  obtain ⟨A', cap', w', hr, h2, h3, h4⟩ := run_row (P := P) t o.type e i z size bytes ht hi hz hsize hby hzs hsz A n cap xs (hO.get k hk) B m c news hl hnews hB h1 h63 hbytes
  unfold Oper.wp execOp
  simp only [ho, resolve, invoke, builtin, Sem.run_bind, Sem.run_pure, Result.andThen_ok, List.map_toArray, List.map_cons, List.map_nil, hs, hx, hr]
  exact h A' cap' w' (hO.step k hk (row e size (.slice A' (n + m) cap') (n + m) (xs ++ news)) h3 h2 h4) h3
theorem wpList_row {ops : Array Oper} {rest : List Oper} {o : Oper} {a : Act} {Q : Exit → Act → World → Prop} (hgd : o.guard = none) (s x : Operand) (t : TypeId)
    (ho : o.op = .call { callee := .builtin .append, args := #[s, x], argTypes := #[t, t] })
    (e : TypeId) (i : TypeInfo) (z : Value) (size bytes : Nat) (ht : P.underlying t = some (.slice e)) (hi : P.info? e = some i) (hz : i.zero = some z)
    (hsize : i.size = size) (hby : i.bytes = bytes) (hzs : z.cells.size = size) (hsz : 0 < size)
    (hO : Own w0 S w L) (k : Nat) (A : Option Addr) (n cap : Nat) (xs : List Value) (hk : L[k]? = some (row e size (.slice A n cap) n xs)) (hs : a.eval s = .slice A n cap)
    (B : Option Addr) (m c : Nat) (news : List Value) (hx : a.eval x = .slice B m c) (hl : news.length = m * size) (hnews : Cells w B news) (hB : 0 < m → B ≠ none) (h1 : ∀ u ∈ news, u.oneCell' = true)
    (h63 : n + m ≤ maxLen) (hbytes : (n + m) * bytes ≤ 140737488355328)
    (h : ∀ A' cap' w', Own w0 S w' (L.set k (row e size (.slice A' (n + m) cap') (n + m) (xs ++ news))) → wpList P ops Q rest (a.put o.dst (.slice A' (n + m) cap')) w') : wpList P ops Q (o :: rest) a w :=
  wpList_plain hgd fun _ hK => wp_row s x t ho e i z size bytes ht hi hz hsize hby hzs hsz hO k A n cap xs hk hs B m c news hx hl hnews hB h1 h63 hbytes fun A' cap' w' h1 _ => hK _ _ (h A' cap' w' h1)
/-- A row out of a block that is whole its own. -/
theorem row_lit (h : Own w0 S w L) (e : TypeId) (size n : Nat) (cs : Array Value) (xs : List Value) (hx : cs.toList = xs) (hn : cs.size = n * size) (hm : n ≤ maxLen) :
    Own w0 S (w.alloc (.cells cs e (0, 0))) (row e size (.slice (some ⟨w.heap.size, 0, none⟩) n n) n xs :: L) :=
  h.new _ (below_alloc (Below.refl _ _) _) ⟨by subst hx; simpa using hn, .inr ⟨_, n, cs, rfl, Nat.zero_le _, heap_alloc_new w _, Nat.le_refl _, hm, hn, by subst hx; rw [← hn]; exact List.take_of_length_le (by simp)⟩⟩ fun k h => by (injection h with h; exact Nat.le_of_eq h)
theorem row_lit' (h : Own w0 S w L) (e : TypeId) (size n : Nat) (cs : Array Value) (xs : List Value) (g : Nat) (hg : w.heap.size = g) (hx : cs.toList = xs) (hn : cs.size = n * size) (hm : n ≤ maxLen) :
    Own w0 S (w.alloc (.cells cs e (0, 0))) (row e size (.slice (some ⟨g, 0, none⟩) n n) n xs :: L) := by
  subst hg; exact row_lit h e size n cs xs hx hn hm
theorem row_nil (h : Own w0 S w L) (e : TypeId) (size : Nat) : Own w0 S w (row e size (.slice none 0 0) 0 [] :: L) :=
  h.new _ (Below.refl _ _) ⟨by simp, .inl ⟨rfl, rfl⟩⟩ fun k h => by cases h
theorem row_cells {e : TypeId} {size n c : Nat} {A : Option Addr} {xs : List Value} (h : Own w0 S w L) (k : Nat) (hk : L[k]? = some (row e size (.slice A n c) n xs)) : Cells w A xs := own_cells (h.get k hk)
theorem row_le {e : TypeId} {size n c : Nat} {A : Option Addr} {xs : List Value} (h : Own w0 S w L) (k : Nat) (hk : L[k]? = some (row e size (.slice A n c) n xs)) : n ≤ c ∧ c ≤ maxLen := by
  obtain ⟨A', c', e1, h2, h3, _⟩ := Cells.of_own (show w.ownsRow 0 e size (.slice A n c) n xs from h.get k hk)
  injection e1 with _ _ e1
  subst e1
  exact ⟨h2, h3⟩
theorem row_set {e : TypeId} {size g n c : Nat} {xs : List Value} (h : Own w0 S w L) (k : Nat) (hk : L[k]? = some (row e size (.slice (some ⟨g, 0, none⟩) n c) n xs)) (i : Nat) (v : Value) :
    Own w0 S (w.setCell ⟨g, i, none⟩ v) (L.set k (row e size (.slice (some ⟨g, 0, none⟩) n c) n (xs.set i v))) :=
  h.step k hk _ (Kept.setCell w _ _ rfl) ((show w.ownsRow 0 e size (.slice (some ⟨g, 0, none⟩) n c) n xs from h.get k hk).stored i v).1 fun _ hi => .inl hi
theorem row_wres {e : TypeId} {size n c : Nat} {A : Option Addr} {xs : List Value} (h : Own w0 S w L) (k : Nat) (hk : L[k]? = some (row e size (.slice A n c) n xs)) : Own w0 S w (L.set k (wres e size A n c xs)) :=
  h.step k hk _ (Kept.refl _ _) (WIn.of_own (show w.ownsRow 0 e size (.slice A n c) n xs from h.get k hk)) fun _ hi => .inl hi
end

theorem ne_nil' {w : World} {A : Option Addr} {k : IntKind} {xs : List Int} {n : Nat} (h : Cells w A (nums k xs)) (hl : xs.length = n) : 0 < n → A ≠ none := fun hn e => by
  subst e
  rcases xs with _ | ⟨x, xs⟩
  · simp at hl; omega
  · obtain ⟨ad, h', _⟩ := h 0 _ rfl
    cases h'
/-- append(v, x...) of bytes. -/
theorem appb {w w0 : World} {S : Nat → Prop} {L : List Res} {ops : Array Oper} {rest : List Oper} {o : Oper} {a : Act} {Q : Exit → Act → World → Prop} (hgd : o.guard = none) (s x : Operand)
    (ho : o.op = .call { callee := .builtin .append, args := #[s, x], argTypes := #[22, 22] })
    (hO : Own w0 S w L) (k : Nat) (A : Option Addr) (n cap : Nat) (xs : List Int) (hk : L[k]? = some (row 5 1 (.slice A n cap) n (nums .u8 xs))) (hs : a.eval s = .slice A n cap)
    (B : Option Addr) (m c : Nat) (ys : List Int) (hx : a.eval x = .slice B m c) (hl : ys.length = m) (hnews : Cells w B (nums .u8 ys)) (h63 : n + m ≤ 140737488355328)
    (h : ∀ A' c' w', Own w0 S w' (L.set k (row 5 1 (.slice A' (n + m) c') (n + m) (nums .u8 (xs ++ ys)))) → wpList Try.prog ops Q rest (a.put o.dst (.slice A' (n + m) c')) w') : wpList Try.prog ops Q (o :: rest) a w := by
  obtain ⟨i0, hi, hz0, hz1, hz2⟩ := info_parts info_u8
  refine wpList_row hgd s x 22 ho 5 i0 (.int .u8 0) 1 1 Try.underlying22 hi hz0 hz1 hz2 rfl (by decide) hO k A n cap _ hk hs B m c (nums .u8 ys) hx (by rw [nums_length, hl, Nat.mul_one]) hnews (ne_nil' hnews hl) (nums_one _ _) (by unfold maxLen; omega) (by omega) ?_
  rw [← nums_append]
  exact h
theorem appb_op {w w0 : World} {S : Nat → Prop} {L : List Res} {o : Oper} {a : Act} {K : Act → World → Prop} {Q : Exit → Act → World → Prop} (s x : Operand)
    (ho : o.op = .call { callee := .builtin .append, args := #[s, x], argTypes := #[22, 22] })
    (hO : Own w0 S w L) (k : Nat) (A : Option Addr) (n cap : Nat) (xs : List Int) (hk : L[k]? = some (row 5 1 (.slice A n cap) n (nums .u8 xs))) (hs : a.eval s = .slice A n cap)
    (B : Option Addr) (m c : Nat) (ys : List Int) (hx : a.eval x = .slice B m c) (hl : ys.length = m) (hnews : Cells w B (nums .u8 ys)) (h63 : n + m ≤ 140737488355328)
    (h : ∀ A' c' w', Own w0 S w' (L.set k (row 5 1 (.slice A' (n + m) c') (n + m) (nums .u8 (xs ++ ys)))) → Kept (fun k => (Value.slice A n cap).ownBlock = some k) w w' → K (a.put o.dst (.slice A' (n + m) c')) w') : o.wp Try.prog a w K Q := by
  obtain ⟨i0, hi, hz0, hz1, hz2⟩ := info_parts info_u8
  refine wp_row s x 22 ho 5 i0 (.int .u8 0) 1 1 Try.underlying22 hi hz0 hz1 hz2 rfl (by decide) hO k A n cap _ hk hs B m c (nums .u8 ys) hx (by rw [nums_length, hl, Nat.mul_one]) hnews (ne_nil' hnews hl) (nums_one _ _) (by unfold maxLen; omega) (by omega) ?_
  rw [← nums_append]
  exact h
end Go.Proofs.Ytjbhcmkloamcmaa
