/- Records: what they say, and where they lie; Same of two lists that say the same. -/
import Derived.Test.YtpiahnecpbalhaaAppR
import Derived.Test.YtpiahnecpbalhaaShp
import Derived.Test.YtpiahnecpbalhaaFlow
namespace Go.Proofs.Ytpiahnecpbalhaa
open Go.RowKit

theorem vkeep {w w1 : World} (h : Below w.heap.size w w1) {p : Addr} {v : Value} (hc : w.cell? p = some v) : w1.cell? p = some v := by
  rw [h.cell (World.block_lt_of_cell? w _ hc)]; exact hc
/-- A record. -/
structure Rec5 where
  r : Nat
  n : Nat
  p : Nat
  k : Nat
  d : Nat
def Rec5.cells (x : Rec5) : List Value := [.int .u32 x.r, .int .u8 x.n, .int .u8 x.p, .int .u8 x.k, .int .u8 x.d]
structure Rec5.Ok (x : Rec5) : Prop where
  r : x.r < 4294967296
  n : x.n < 256
  p : x.p < 256
  k : x.k < 256
  d : x.d < 256
def RecsAt (w : World) (A : Option Addr) (n : Nat) (rs : List Rec5) : Prop :=
  rs.length = n ∧ ∀ (i : Nat) x, rs[i]? = some x → ∃ a, A = some a ∧ w.cell? (a.add (i * 5)) = some (.int .u32 x.r) ∧ w.cell? ⟨(a.add (i * 5)).block, (a.add (i * 5)).off + 1, none⟩ = some (.int .u8 x.n) ∧
    w.cell? ⟨(a.add (i * 5)).block, (a.add (i * 5)).off + 2, none⟩ = some (.int .u8 x.p) ∧ w.cell? ⟨(a.add (i * 5)).block, (a.add (i * 5)).off + 3, none⟩ = some (.int .u8 x.k) ∧ w.cell? ⟨(a.add (i * 5)).block, (a.add (i * 5)).off + 4, none⟩ = some (.int .u8 x.d)
theorem RecsAt.below {w w' : World} {A : Option Addr} {n : Nat} {rs : List Rec5} (h : RecsAt w A n rs) (hB : Below w.heap.size w w') : RecsAt w' A n rs :=
  ⟨h.1, fun i x hi => by
    obtain ⟨a, e, h0, h1, h2, h3, h4⟩ := h.2 i x hi
    exact ⟨a, e, vkeep hB h0, vkeep hB h1, vkeep hB h2, vkeep hB h3, vkeep hB h4⟩⟩
theorem recs_nil (w : World) : RecsAt w none 0 [] := ⟨rfl, fun i x h => by simp at h⟩
theorem list_of {α β : Type} {P : α → β → Prop} : ∀ (l : List α), (∀ x ∈ l, ∃ y, P x y) → ∃ ys : List β, ys.length = l.length ∧ ∀ (i : Nat) x y, l[i]? = some x → ys[i]? = some y → P x y
  | [], _ => ⟨[], rfl, fun i x y h => by simp at h⟩
  | a :: l, h => by
    obtain ⟨y, hy⟩ := h a List.mem_cons_self
    obtain ⟨ys, h1, h2⟩ := list_of l fun x hx => h x (List.mem_cons_of_mem _ hx)
    refine ⟨y :: ys, by simp [h1], fun i x y' hx hy' => ?_⟩
    cases i with
    | zero => simp at hx hy'; subst hx hy'; exact hy
    | succ i => exact h2 i x y' (by simpa using hx) (by simpa using hy')
theorem recs_of {w : World} {b : Nat} {A : Option Addr} {len cap : Nat} {rows : List (List Value)} (h : Rows' w b [.int .u32, .int .u8, .int .u8, .int .u8, .int .u8] A len cap rows) : ∃ rs, RecsAt w A len rs ∧ ∀ r ∈ rs, r.Ok := by
  have hr : ∀ r ∈ rows, ∃ q : Rec5, r = q.cells ∧ q.Ok := fun r hr => by
    have hl := h.each r hr
    have hf := h.fits r hr
    obtain ⟨x0, r0, rfl, e0⟩ := arr_cons hl
    obtain ⟨x1, r1, rfl, e1⟩ := arr_cons e0
    obtain ⟨x2, r2, rfl, e2⟩ := arr_cons e1
    obtain ⟨x3, r3, rfl, e3⟩ := arr_cons e2
    obtain ⟨x4, r4, rfl, e4⟩ := arr_cons e3
    obtain rfl := List.length_eq_zero_iff.1 e4
    obtain ⟨y0, rfl, h0⟩ := (hf 0 _ _ rfl rfl).int_inv
    obtain ⟨y1, rfl, h1⟩ := (hf 1 _ _ rfl rfl).int_inv
    obtain ⟨y2, rfl, h2⟩ := (hf 2 _ _ rfl rfl).int_inv
    obtain ⟨y3, rfl, h3⟩ := (hf 3 _ _ rfl rfl).int_inv
    obtain ⟨y4, rfl, h4⟩ := (hf 4 _ _ rfl rfl).int_inv
    obtain ⟨n0, rfl, g0⟩ := wf32 h0
    obtain ⟨n1, rfl, g1⟩ := wf8 h1
    obtain ⟨n2, rfl, g2⟩ := wf8 h2
    obtain ⟨n3, rfl, g3⟩ := wf8 h3
    obtain ⟨n4, rfl, g4⟩ := wf8 h4
    exact ⟨⟨n0, n1, n2, n3, n4⟩, rfl, g0, g1, g2, g3, g4⟩
  obtain ⟨qs, hql, hq⟩ := list_of rows hr
  refine ⟨qs, ⟨by rw [hql]; exact h.n, fun i x hi => ?_⟩, fun x hx => ?_⟩
  · have hlt : i < rows.length := by rw [← hql]; exact (List.getElem?_eq_some_iff.1 hi).1
    obtain ⟨e1, _⟩ := hq i _ x (List.getElem?_eq_getElem hlt) hi
    have hri : rows[i]? = some rows[i] := List.getElem?_eq_getElem hlt
    rw [e1] at hri
    obtain ⟨a, ha, h0⟩ := h.cell i 0 _ _ hri rfl
    obtain ⟨a1, e1, h1⟩ := h.cell i 1 _ _ hri rfl
    obtain ⟨a2, e2, h2⟩ := h.cell i 2 _ _ hri rfl
    obtain ⟨a3, e3, h3⟩ := h.cell i 3 _ _ hri rfl
    obtain ⟨a4, e4, h4⟩ := h.cell i 4 _ _ hri rfl
    subst ha
    injection e1 with e1
    injection e2 with e2
    injection e3 with e3
    injection e4 with e4
    subst e1 e2 e3 e4
    rw [← add_add, addr_lit _ _ (by decide)] at h1 h2 h3 h4
    exact ⟨a, rfl, h0, h1, h2, h3, h4⟩
  · obtain ⟨i, hi⟩ := List.getElem?_of_mem hx
    have hlt : i < rows.length := by rw [← hql]; exact (List.getElem?_eq_some_iff.1 hi).1
    exact (hq i _ x (List.getElem?_eq_getElem hlt) hi).2

set_option maxRecDepth 100000 in
set_option maxHeartbeats 4000000 in
theorem sameRecs_any (A B : Option Addr) (n c d : Nat) (rs : List Rec5) (w : World) (hA : RecsAt w A n rs) (hB : RecsAt w B n rs) (hn : n ≤ 1000000000000000) :
    Calls Try.prog 17 #[.slice A n c, .slice B n d] w fun e w' => e = .returned (.bool true) ∧ Below w.heap.size w w' := by
  have HA := Hidd.mk hA
  have HB := Hidd.mk hB
  clear hA hB
  go_enter Try.func17, Try.ntmps17
  go_wp2
  go_loopw [5] (fun v5 wr => ∃ i : Nat, v5 = .int .i64 i ∧ i ≤ n ∧ Hidd (Below w.heap.size w wr)) (fun v5 _ => n - (intOf v5).toNat)
  case atStart => exact ⟨0, rfl, Nat.zero_le _, ⟨Below.refl _ _⟩⟩
  case round =>
    obtain ⟨i, rfl, hi, hb⟩ := hrel
    by_cases hlt : i < n
    · obtain ⟨x, hm⟩ : ∃ x, rs[i]? = some x := ⟨_, List.getElem?_eq_getElem (by rw [HA.out.1]; exact hlt)⟩
      obtain ⟨a, rfl, x0, x1, x2, x3, x4⟩ := (HA.out.below hb.out).2 i x hm
      obtain ⟨b, rfl, y0, y1, y2, y3, y4⟩ := (HB.out.below hb.out).2 i x hm
      have bi0 : (0 : Int) ≤ (i : Int) := by omega
      have bi1 : (i : Int) < (n : Int) := by omega
      clear hm
      go_wp2
      obtain ⟨W0, hW0⟩ : ∃ zz, zz = World.drew wr := ⟨_, rfl⟩
      refine wp_region_flow [([0, 1, 4, 5, 2, 6, 3, 7, 8], none)] (by kernel_rfl) (by kernel_rfl) ?_
      rw [show ({ wr with drawn := wr.drawn + 1 } : World) = W0 from hW0.symm]
      replace hW0 := Hidd.mk hW0
      simp only [opsF, List.map_cons, List.map_nil, List.getD_cons_succ, List.getD_cons_zero, Option.map]
      have hc : ∀ p : Addr, W0.cell? p = wr.cell? p := fun p => by rw [hW0.out]; rfl
      have hb2 : Hidd (Below w.heap.size w W0) := ⟨by rw [hW0.out]; exact hb.out.drew⟩
      clear hW0 hb
      refine FlW.heads (fun zz => zz = _) rfl ?_
      repeat (first | (refine StQ.skip (by rfl) ?_; simp only [Act.put, List.setIfInBounds_toArray, List.set_cons_zero, List.set_cons_succ]) | (refine StQ.go' (by rfl) (Exists.intro ?_ (And.intro (fun w' hS => ?_) ?_)); rotate_left; (focus (rw [hS]; go_simp; try with_reducible rfl)); simp only [Act.put, List.setIfInBounds_toArray, List.set_cons_zero, List.set_cons_succ]))
      refine StQ.nil ?_
      refine FlW.nil (Calm.normal ?_)
      go_wp2
      go_roundw
      case rel => exact ⟨i + 1, by go_num, by omega, hb2⟩
      case measure => (simp [intOf]; try omega)
    · obtain rfl : i = n := by omega
      go_wp2
      go_ret
      exact ⟨rfl, hb.out⟩
theorem flat_len {α : Type} {f : α → List Value} {k : Nat} (hk : ∀ x, (f x).length = k) : ∀ l : List α, (l.flatMap f).length = l.length * k
  | [] => by simp
  | x :: l => by rw [List.flatMap_cons, List.length_append, flat_len hk l, hk, List.length_cons, Nat.add_mul, Nat.one_mul, Nat.add_comm]
theorem flat_get {α : Type} {f : α → List Value} {k : Nat} (hk : ∀ x, (f x).length = k) : ∀ (l : List α) (i j : Nat) (x : α), l[i]? = some x → j < k → (l.flatMap f)[i * k + j]? = (f x)[j]?
  | [], i, j, x, h, _ => by simp at h
  | y :: l, 0, j, x, h, hj => by
    injection h with h
    subst h
    rw [List.flatMap_cons, List.getElem?_append_left (by rw [hk]; omega), Nat.zero_mul, Nat.zero_add]
  | y :: l, i + 1, j, x, h, hj => by
    rw [List.flatMap_cons, List.getElem?_append_right (by rw [hk, Nat.add_mul]; omega), show (i + 1) * k + j - (f y).length = i * k + j by rw [hk, Nat.add_mul]; omega]
    exact flat_get hk l i j x (by simpa using h) hj
theorem flat_set {α : Type} {f : α → List Value} {k : Nat} (hk : ∀ x, (f x).length = k) : ∀ (l : List α) (i j : Nat) (x y : α) (v : Value), l[i]? = some x → j < k → (f x).set j v = f y → (l.flatMap f).set (i * k + j) v = (l.set i y).flatMap f
  | [], i, j, x, y, v, h, _, _ => by simp at h
  | z :: l, 0, j, x, y, v, h, hj, e => by
    injection h with h
    subst h
    rw [List.flatMap_cons, Nat.zero_mul, Nat.zero_add, List.set_append_left _ _ (by rw [hk]; omega), e, List.set_cons_zero, List.flatMap_cons]
  | z :: l, i + 1, j, x, y, v, h, hj, e => by
    rw [List.flatMap_cons, List.set_append_right _ _ (by rw [hk, Nat.add_mul]; omega), show (i + 1) * k + j - (f z).length = i * k + j by rw [hk, Nat.add_mul]; omega, flat_set hk l i j x y v (by simpa using h) hj e, List.set_cons_succ, List.flatMap_cons]

theorem one_flat {α : Type} {f : α → List Value} (h : ∀ x, ∀ u ∈ f x, u.oneCell' = true) (l : List α) : ∀ u ∈ l.flatMap f, u.oneCell' = true := fun u hu => by
  obtain ⟨x, _, hx⟩ := List.mem_flatMap.1 hu
  exact h x u hx
theorem rval_one (x : Rec5) : ∀ u ∈ x.cells, u.oneCell' = true := by
  intro u hu
  simp [Rec5.cells] at hu
  rcases hu with rfl | rfl | rfl | rfl | rfl <;> rfl
theorem flat_nil {α : Type} {f : α → List Value} {k : Nat} (hk : ∀ x, (f x).length = k) (h0 : 0 < k) {w : World} {l : List α} (h : Cells w none (l.flatMap f)) : l = [] := by
  rcases l with _ | ⟨x, l⟩
  · rfl
  · exfalso
    have h1 := flat_get hk (x :: l) 0 0 x rfl h0
    rw [Nat.zero_mul, Nat.zero_add] at h1
    have h2 : (f x)[0]? = some ((f x)[0]'(by rw [hk]; exact h0)) := List.getElem?_eq_getElem (by rw [hk]; exact h0)
    obtain ⟨a, e, _⟩ := h 0 _ (h1.trans h2)
    cases e
theorem rcells_len (x : Rec5) : x.cells.length = 5 := rfl
theorem recs_close {w : World} {A : Option Addr} {n : Nat} {rs : List Rec5} (hl : rs.length = n) (hc : Cells w A (rs.flatMap Rec5.cells)) : RecsAt w A n rs := by
  refine ⟨hl, fun i x hi => ?_⟩
  obtain ⟨a, rfl, h0⟩ := hc (i * 5) (.int .u32 x.r) ((flat_get rcells_len rs i 0 x hi (by decide)).trans rfl)
  obtain ⟨a1, e1, h1⟩ := hc (i * 5 + 1) (.int .u8 x.n) ((flat_get rcells_len rs i 1 x hi (by decide)).trans rfl)
  obtain ⟨a2, e2, h2⟩ := hc (i * 5 + 2) (.int .u8 x.p) ((flat_get rcells_len rs i 2 x hi (by decide)).trans rfl)
  obtain ⟨a3, e3, h3⟩ := hc (i * 5 + 3) (.int .u8 x.k) ((flat_get rcells_len rs i 3 x hi (by decide)).trans rfl)
  obtain ⟨a4, e4, h4⟩ := hc (i * 5 + 4) (.int .u8 x.d) ((flat_get rcells_len rs i 4 x hi (by decide)).trans rfl)
  injection e1 with e1
  injection e2 with e2
  injection e3 with e3
  injection e4 with e4
  subst e1 e2 e3 e4
  rw [← add_add, addr_lit _ _ (by decide)] at h1 h2 h3 h4
  exact ⟨a, rfl, h0, h1, h2, h3, h4⟩
theorem recs_open {w : World} {A : Option Addr} {n : Nat} {rs : List Rec5} (h : RecsAt w A n rs) : Cells w A (rs.flatMap Rec5.cells) := by
  intro m v hv
  have hm : m < rs.length * 5 := by
    rw [← flat_len rcells_len]
    exact (List.getElem?_eq_some_iff.1 hv).1
  obtain ⟨x, hx⟩ : ∃ x, rs[m / 5]? = some x := ⟨_, List.getElem?_eq_getElem (by omega)⟩
  obtain ⟨a, rfl, h0, h1, h2, h3, h4⟩ := h.2 _ x hx
  have e := flat_get rcells_len _ (m / 5) (m % 5) x hx (by omega)
  rw [show m / 5 * 5 + m % 5 = m by omega, hv] at e
  refine ⟨a, rfl, ?_⟩
  obtain h5 | h5 | h5 | h5 | h5 : m % 5 = 0 ∨ m % 5 = 1 ∨ m % 5 = 2 ∨ m % 5 = 3 ∨ m % 5 = 4 := by omega
  · rw [h5] at e
    injection e with e
    subst e
    rw [show m = m / 5 * 5 by omega]
    exact h0
  · rw [h5] at e
    injection e with e
    subst e
    rw [show m = m / 5 * 5 + 1 by omega, ← add_add, addr_lit _ _ (by decide)]
    exact h1
  · rw [h5] at e
    injection e with e
    subst e
    rw [show m = m / 5 * 5 + 2 by omega, ← add_add, addr_lit _ _ (by decide)]
    exact h2
  · rw [h5] at e
    injection e with e
    subst e
    rw [show m = m / 5 * 5 + 3 by omega, ← add_add, addr_lit _ _ (by decide)]
    exact h3
  · rw [h5] at e
    injection e with e
    subst e
    rw [show m = m / 5 * 5 + 4 by omega, ← add_add, addr_lit _ _ (by decide)]
    exact h4

theorem info_rec : (Try.prog.info? 54).map (fun i => (i.zero, i.size, i.bytes)) = some (some (.agg #[.int .u32 0, .int .u8 0, .int .u8 0, .int .u8 0, .int .u8 0]), 5, 8) := by kernel_rfl
theorem head_any {w : World} {base : Nat} {e : TypeId} {size n c : Nat} {A : Option Addr} {xs : List Value} (h : w.ownsRow base e size (.slice A n c) n xs) (hn : 0 < n) : ∃ g, A = some ⟨g, 0, none⟩ ∧ g < w.heap.size := by
  rcases h.2 with ⟨_, h0⟩ | ⟨g', cap', cur, h', hb, hg, _⟩
  · omega
  · injection h' with h1 _ _
    exact ⟨g', h1, (Array.getElem?_eq_some_iff.1 hg).1⟩
theorem cells_at {w : World} {g : Nat} {xs : List Value} {j : Nat} {v : Value} (h : Cells w (some ⟨g, 0, none⟩) xs) (hj : xs[j]? = some v) : w.cell? ⟨g, j, none⟩ = some v := by
  obtain ⟨a, e, hc⟩ := h j v hj
  injection e with e
  subst e
  rwa [add_plain] at hc
theorem kept_fresh {w w' : World} {o : Obj} {n c : Nat} (h : Kept (fun k => (Value.slice (some ⟨w.heap.size, 0, none⟩) n c).ownBlock = some k) (w.alloc o) w') : Kept (fun _ => False) w w' :=
  (Kept.alloc (fun _ => False) w o).trans' h fun i hi h => by
    have h' : some w.heap.size = some i := h
    injection h' with h'
    omega
theorem set_get_self {α : Type} {l : List α} {k : Nat} {x : α} (h : l[k]? = some x) : l.set k x = l := by
  obtain ⟨h1, rfl⟩ := List.getElem?_eq_some_iff.1 h
  exact List.set_getElem_self h1
theorem cells_ne {α : Type} {f : α → List Value} {k : Nat} (hk : ∀ x, (f x).length = k) (h0 : 0 < k) {w : World} {A : Option Addr} {l : List α} (h : Cells w A (l.flatMap f)) (n : Nat) (hn : l.length = n) : 0 < n → A ≠ none := fun hp e => by
  subst e
  have := flat_nil hk h0 h
  subst this
  simp at hn
  omega

end Go.Proofs.Ytpiahnecpbalhaa
