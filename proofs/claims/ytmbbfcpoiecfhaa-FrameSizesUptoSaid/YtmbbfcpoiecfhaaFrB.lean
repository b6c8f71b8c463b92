/- A frame with its own lists: Copied. -/
import Derived.Test.YtmbbfcpoiecfhaaFrA
namespace Go.Proofs.Ytmbbfcpoiecfhaa
open Go.RowKit

theorem flat_len {α : Type} {f : α → List Value} {k : Nat} (hk : ∀ x, (f x).length = k) : ∀ l : List α, (l.flatMap f).length = l.length * k
  | [] => by simp
  | x :: l => by rw [List.flatMap_cons, List.length_append, flat_len hk l, hk, List.length_cons, Nat.add_mul, Nat.one_mul, Nat.add_comm]
theorem flat_get {α : Type} {f : α → List Value} {k : Nat} (hk : ∀ x, (f x).length = k) : ∀ (l : List α) (i j : Nat) (x : α), l[i]? = some x → j < k → (l.flatMap f)[i * k + j]? = (f x)[j]?
  | [], i, j, x, h, _ => by simp at h
  | y :: l, 0, j, x, h, hj => by
    injection h with h
    subst h
    rw [List.flatMap_cons, List.getElem?_append_left (by rw [hk]; omega), Nat.zero_mul, Nat.zero_add]
  | y :: l, i + 1, j, x, h, hj => by
    rw [List.flatMap_cons, List.getElem?_append_right (by rw [hk, Nat.add_mul]; omega), show (i + 1) * k + j - (f y).length = i * k + j by rw [hk, Nat.add_mul]; omega]
    exact flat_get hk l i j x (by simpa using h) hj
theorem flat_set {α : Type} {f : α → List Value} {k : Nat} (hk : ∀ x, (f x).length = k) : ∀ (l : List α) (i j : Nat) (x y : α) (v : Value), l[i]? = some x → j < k → (f x).set j v = f y → (l.flatMap f).set (i * k + j) v = (l.set i y).flatMap f
  | [], i, j, x, y, v, h, _, _ => by simp at h
  | z :: l, 0, j, x, y, v, h, hj, e => by
    injection h with h
    subst h
    rw [List.flatMap_cons, Nat.zero_mul, Nat.zero_add, List.set_append_left _ _ (by rw [hk]; omega), e, List.set_cons_zero, List.flatMap_cons]
  | z :: l, i + 1, j, x, y, v, h, hj, e => by
    rw [List.flatMap_cons, List.set_append_right _ _ (by rw [hk, Nat.add_mul]; omega), show (i + 1) * k + j - (f z).length = i * k + j by rw [hk, Nat.add_mul]; omega, flat_set hk l i j x y v (by simpa using h) hj e, List.set_cons_succ, List.flatMap_cons]

/-- A message, and where its data lie. -/
abbrev MQ := (Int × List Int) × (Option Addr × Nat × Nat)
def mval (q : MQ) : List Value := [.int .i64 q.1.1, .slice q.2.1 q.2.2.1 q.2.2.2]
theorem mval_len (q : MQ) : (mval q).length = 2 := rfl
def SlOk (w : World) (q : MQ) : Prop := Cells w q.2.1 (nums .u8 q.1.2) ∧ q.1.2.length = q.2.2.1 ∧ q.2.2.1 ≤ q.2.2.2 ∧ q.2.2.2 ≤ maxLen
theorem one_flat {α : Type} {f : α → List Value} (h : ∀ x, ∀ u ∈ f x, u.oneCell' = true) (l : List α) : ∀ u ∈ l.flatMap f, u.oneCell' = true := fun u hu => by
  obtain ⟨x, _, hx⟩ := List.mem_flatMap.1 hu
  exact h x u hx
theorem mval_one (q : MQ) : ∀ u ∈ mval q, u.oneCell' = true := by
  intro u hu
  simp [mval] at hu
  rcases hu with rfl | rfl <;> rfl
theorem rval_one (x : Rec5) : ∀ u ∈ x.cells, u.oneCell' = true := by
  intro u hu
  simp [Rec5.cells] at hu
  rcases hu with rfl | rfl | rfl | rfl | rfl <;> rfl
theorem flat_nil {α : Type} {f : α → List Value} {k : Nat} (hk : ∀ x, (f x).length = k) (h0 : 0 < k) {w : World} {l : List α} (h : Cells w none (l.flatMap f)) : l = [] := by
  rcases l with _ | ⟨x, l⟩
  · rfl
  · exfalso
    have h1 := flat_get hk (x :: l) 0 0 x rfl h0
    rw [Nat.zero_mul, Nat.zero_add] at h1
    have h2 : (f x)[0]? = some ((f x)[0]'(by rw [hk]; exact h0)) := List.getElem?_eq_getElem (by rw [hk]; exact h0)
    obtain ⟨a, e, _⟩ := h 0 _ (h1.trans h2)
    cases e
theorem msgs_close {w : World} {A : Option Addr} {n : Nat} {qs : List MQ} (hl : qs.length = n) (hc : Cells w A (qs.flatMap mval)) (hq : ∀ q ∈ qs, SlOk w q) : MsgsAt w A n (qs.map (·.1)) := by
  refine ⟨by rw [List.length_map]; exact hl, fun i p d hi => ?_⟩
  rw [List.getElem?_map, Option.map_eq_some_iff] at hi
  obtain ⟨q, hqi, e⟩ := hi
  obtain ⟨h2, h3, h4, h5⟩ := hq q (List.mem_of_getElem? hqi)
  have e3 : q.1.1 = p := congrArg Prod.fst e
  have e4 : q.1.2 = d := congrArg Prod.snd e
  subst e3 e4
  obtain ⟨a, rfl, h0⟩ := hc (i * 2) (.int .i64 q.1.1) ((flat_get mval_len qs i 0 q hqi (by decide)).trans rfl)
  obtain ⟨a', e, h1⟩ := hc (i * 2 + 1) (.slice q.2.1 q.2.2.1 q.2.2.2) ((flat_get mval_len qs i 1 q hqi (by decide)).trans rfl)
  injection e with e
  subst e
  rw [← add_add, addr_lit _ _ (by decide)] at h1
  exact ⟨a, _, _, _, rfl, h0, h1, h2, h3, h4, h5⟩
theorem msgs_open {w : World} {A : Option Addr} {n : Nat} {ms : List (Int × List Int)} (h : MsgsAt w A n ms) : ∃ qs : List MQ, qs.map (·.1) = ms ∧ qs.length = n ∧ Cells w A (qs.flatMap mval) ∧ ∀ q ∈ qs, SlOk w q := by
  have hr : ∀ x ∈ ms.zipIdx, ∃ q : Option Addr × Nat × Nat, ∃ a, A = some a ∧ w.cell? (a.add (x.2 * 2)) = some (.int .i64 x.1.1) ∧ w.cell? ⟨(a.add (x.2 * 2)).block, (a.add (x.2 * 2)).off + 1, none⟩ = some (.slice q.1 q.2.1 q.2.2) ∧ SlOk w (x.1, q) := fun x hx => by
    obtain ⟨⟨p, d⟩, i⟩ := x
    have hi : ms[i]? = some (p, d) := by
      obtain ⟨h1, h2⟩ := List.mem_zipIdx_iff_getElem?.1 hx |> fun h => (⟨h, trivial⟩ : _ ∧ True)
      exact h1
    obtain ⟨a, D, len, cap, e, h0, h1, h2, h3, h4, h5⟩ := h.2 i p d hi
    exact ⟨(D, len, cap), a, e, h0, h1, h2, h3, h4, h5⟩
  obtain ⟨qs, hql, hq⟩ := list_of ms.zipIdx hr
  rw [List.length_zipIdx] at hql
  have hget : ∀ (i : Nat) q, (ms.zip qs)[i]? = some q → ∃ a, A = some a ∧ w.cell? (a.add (i * 2)) = some (.int .i64 q.1.1) ∧ w.cell? ⟨(a.add (i * 2)).block, (a.add (i * 2)).off + 1, none⟩ = some (.slice q.2.1 q.2.2.1 q.2.2.2) ∧ SlOk w q := fun i q hi => by
    obtain ⟨h1, h2⟩ := List.getElem?_zip_eq_some.1 hi
    have h3 : ms.zipIdx[i]? = some (q.1, i) := by rw [List.getElem?_zipIdx, h1]; simp
    exact hq i (q.1, i) q.2 h3 h2
  refine ⟨ms.zip qs, List.map_fst_zip (by omega), by rw [List.length_zip, hql, Nat.min_self]; exact h.1, fun m v hv => ?_, fun q hq => ?_⟩
  · have hm : m < (ms.zip qs).length * 2 := by
      rw [← flat_len mval_len]
      exact (List.getElem?_eq_some_iff.1 hv).1
    obtain ⟨q, hqi⟩ : ∃ q, (ms.zip qs)[m / 2]? = some q := ⟨_, List.getElem?_eq_getElem (by omega)⟩
    obtain ⟨a, rfl, h0, h1, _⟩ := hget _ q hqi
    have e := flat_get mval_len _ (m / 2) (m % 2) q hqi (by omega)
    rw [show m / 2 * 2 + m % 2 = m by omega, hv] at e
    refine ⟨a, rfl, ?_⟩
    rcases Nat.mod_two_eq_zero_or_one m with h2 | h2
    · rw [h2] at e
      injection e with e
      subst e
      rw [show m = m / 2 * 2 by omega]
      exact h0
    · rw [h2] at e
      injection e with e
      subst e
      rw [show m = m / 2 * 2 + 1 by omega, ← add_add, addr_lit _ _ (by decide)]
      exact h1
  · obtain ⟨i, hi⟩ := List.getElem?_of_mem hq
    exact (hget i q hi).choose_spec.2.2.2

theorem rcells_len (x : Rec5) : x.cells.length = 5 := rfl
theorem recs_close {w : World} {A : Option Addr} {n : Nat} {rs : List Rec5} (hl : rs.length = n) (hc : Cells w A (rs.flatMap Rec5.cells)) : RecsAt w A n rs := by
  refine ⟨hl, fun i x hi => ?_⟩
  obtain ⟨a, rfl, h0⟩ := hc (i * 5) (.int .u32 x.r) ((flat_get rcells_len rs i 0 x hi (by decide)).trans rfl)
  obtain ⟨a1, e1, h1⟩ := hc (i * 5 + 1) (.int .u8 x.n) ((flat_get rcells_len rs i 1 x hi (by decide)).trans rfl)
  obtain ⟨a2, e2, h2⟩ := hc (i * 5 + 2) (.int .u8 x.p) ((flat_get rcells_len rs i 2 x hi (by decide)).trans rfl)
  obtain ⟨a3, e3, h3⟩ := hc (i * 5 + 3) (.int .u8 x.k) ((flat_get rcells_len rs i 3 x hi (by decide)).trans rfl)
  obtain ⟨a4, e4, h4⟩ := hc (i * 5 + 4) (.int .u8 x.d) ((flat_get rcells_len rs i 4 x hi (by decide)).trans rfl)
  injection e1 with e1
  injection e2 with e2
  injection e3 with e3
  injection e4 with e4
  subst e1 e2 e3 e4
  rw [← add_add, addr_lit _ _ (by decide)] at h1 h2 h3 h4
  exact ⟨a, rfl, h0, h1, h2, h3, h4⟩
theorem recs_open {w : World} {A : Option Addr} {n : Nat} {rs : List Rec5} (h : RecsAt w A n rs) : Cells w A (rs.flatMap Rec5.cells) := by
  intro m v hv
  have hm : m < rs.length * 5 := by
    rw [← flat_len rcells_len]
    exact (List.getElem?_eq_some_iff.1 hv).1
  obtain ⟨x, hx⟩ : ∃ x, rs[m / 5]? = some x := ⟨_, List.getElem?_eq_getElem (by omega)⟩
  obtain ⟨a, rfl, h0, h1, h2, h3, h4⟩ := h.2 _ x hx
  have e := flat_get rcells_len _ (m / 5) (m % 5) x hx (by omega)
  rw [show m / 5 * 5 + m % 5 = m by omega, hv] at e
  refine ⟨a, rfl, ?_⟩
  obtain h5 | h5 | h5 | h5 | h5 : m % 5 = 0 ∨ m % 5 = 1 ∨ m % 5 = 2 ∨ m % 5 = 3 ∨ m % 5 = 4 := by omega
  · rw [h5] at e
    injection e with e
    subst e
    rw [show m = m / 5 * 5 by omega]
    exact h0
  · rw [h5] at e
    injection e with e
    subst e
    rw [show m = m / 5 * 5 + 1 by omega, ← add_add, addr_lit _ _ (by decide)]
    exact h1
  · rw [h5] at e
    injection e with e
    subst e
    rw [show m = m / 5 * 5 + 2 by omega, ← add_add, addr_lit _ _ (by decide)]
    exact h2
  · rw [h5] at e
    injection e with e
    subst e
    rw [show m = m / 5 * 5 + 3 by omega, ← add_add, addr_lit _ _ (by decide)]
    exact h3
  · rw [h5] at e
    injection e with e
    subst e
    rw [show m = m / 5 * 5 + 4 by omega, ← add_add, addr_lit _ _ (by decide)]
    exact h4

theorem cells9 {w0 w : World} {S : Nat → Prop} {L : List Res} {p : Nat} {T : TypeId} {fr : Nat × Nat} {a0 a1 a2 a3 a4 a5 a6 a7 a8 : Value} (h : Own w0 S w L) (k : Nat) (hk : L[k]? = some (blk p (.cells #[a0, a1, a2, a3, a4, a5, a6, a7, a8] T fr))) :
    w.cell? ⟨p, 0, none⟩ = some a0 ∧ w.cell? ⟨p, 1, none⟩ = some a1 ∧ w.cell? ⟨p, 2, none⟩ = some a2 ∧ w.cell? ⟨p, 3, none⟩ = some a3 ∧ w.cell? ⟨p, 4, none⟩ = some a4 ∧ w.cell? ⟨p, 5, none⟩ = some a5 ∧ w.cell? ⟨p, 6, none⟩ = some a6 ∧ w.cell? ⟨p, 7, none⟩ = some a7 ∧ w.cell? ⟨p, 8, none⟩ = some a8 :=
  ⟨h.cell k hk 0, h.cell k hk 1, h.cell k hk 2, h.cell k hk 3, h.cell k hk 4, h.cell k hk 5, h.cell k hk 6, h.cell k hk 7, h.cell k hk 8⟩
/-- The data of some messages. -/
def dres (qs : List MQ) : Res :=
  ⟨fun i => ∃ q ∈ qs, ∃ a, q.2.1 = some a ∧ a.block = i ∧ 0 < q.2.2.1, fun w => ∀ q ∈ qs, SlOk w q, fun w h i hi => by
    obtain ⟨q, hq, a, e, rfl, hl⟩ := hi
    obtain ⟨h1, h2, _⟩ := h q hq
    rw [e] at h1
    obtain ⟨x, hx⟩ : ∃ x, q.1.2[0]? = some x := ⟨_, List.getElem?_eq_getElem (by omega)⟩
    obtain ⟨a', e', hc⟩ := h1 0 (.int .u8 x) (by unfold nums; rw [List.getElem?_map, hx]; rfl)
    injection e' with e'
    subst e'
    exact World.block_lt_of_cell? w (a.add 0) hc,
   fun w w' h k q hq => by
    obtain ⟨h1, h2, h3⟩ := h q hq
    refine ⟨fun j v hj => ?_, h2, h3⟩
    obtain ⟨a, e, hc⟩ := h1 j v hj
    refine ⟨a, e, ?_⟩
    rw [← hc]
    have hb : (a.add j).block = a.block := by unfold Addr.add; split <;> rfl
    exact World.cell?_of_block (by
      rw [hb]
      refine k _ ⟨q, hq, a, e, rfl, ?_⟩
      rw [← h2, ← nums_length .u8]
      exact Nat.lt_of_le_of_lt (Nat.zero_le _) (List.getElem?_eq_some_iff.1 hj).1)⟩
theorem dres_nil {w0 w : World} {S : Nat → Prop} {L : List Res} (h : Own w0 S w L) : Own w0 S w (dres [] :: L) :=
  h.new _ (Below.refl _ _) (fun q hq => by cases hq) fun i hi => by obtain ⟨q, hq, _⟩ := hi; cases hq
/-- One more. -/
theorem dres_add {w0 w : World} {S : Nat → Prop} {L : List Res} {A : Option Addr} {n c : Nat} {d : List Int} {qs : List MQ} (p : Int) (h : Own w0 S w (row 5 1 (.slice A n c) n (nums .u8 d) :: dres qs :: L)) : Own w0 S w (dres (qs ++ [((p, d), (A, n, c))]) :: L) := by
  refine h.join _ (fun h1 h2 _ q hq => ?_) fun i hi => ?_
  · rcases List.mem_append.1 hq with hq | hq
    · exact h2 q hq
    · obtain rfl := List.mem_singleton.1 hq
      obtain ⟨A', c', e1, h3, h4, h5⟩ := Cells.of_own (show w.ownsRow 0 5 1 (.slice A n c) n (nums .u8 d) from h1)
      injection e1 with e1 _ e2
      subst e1 e2
      have hl := (show w.ownsRow 0 5 1 (.slice A n c) n (nums .u8 d) from h1).1
      rw [nums_length, Nat.mul_one] at hl
      exact ⟨h5, hl, h3, h4⟩
  · obtain ⟨q, hq, a, e, hb, hl⟩ := hi
    rcases List.mem_append.1 hq with hq | hq
    · exact .inr ⟨q, hq, a, e, hb, hl⟩
    · obtain rfl := List.mem_singleton.1 hq
      have e : A = some a := e
      subst e
      exact .inl (by show some a.block = some i; rw [hb])
end Go.Proofs.Ytmbbfcpoiecfhaa
