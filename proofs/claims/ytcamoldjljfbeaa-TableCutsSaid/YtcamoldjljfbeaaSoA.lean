/- Tables: what they say, where they lie; what is out of its range. -/
import Derived.Test.YtcamoldjljfbeaaPack
import Derived.Test.YtcamoldjljfbeaaTree
import Derived.Test.YtcamoldjljfbeaaAppR
import Derived.Test.YtcamoldjljfbeaaShp
import Derived.Test.YtcamoldjljfbeaaRead
namespace Go.Proofs.Ytcamoldjljfbeaa
open Go.RowKit

theorem vkeep {w w1 : World} (h : Below w.heap.size w w1) {p : Addr} {v : Value} (hc : w.cell? p = some v) : w1.cell? p = some v := by
  rw [h.cell (World.block_lt_of_cell? w _ hc)]; exact hc
theorem list_of {α β : Type} {P : α → β → Prop} : ∀ (l : List α), (∀ x ∈ l, ∃ y, P x y) → ∃ ys : List β, ys.length = l.length ∧ ∀ (i : Nat) x y, l[i]? = some x → ys[i]? = some y → P x y
  | [], _ => ⟨[], rfl, fun i x y h => by simp at h⟩
  | a :: l, h => by
    obtain ⟨y, hy⟩ := h a List.mem_cons_self
    obtain ⟨ys, h1, h2⟩ := list_of l fun x hx => h x (List.mem_cons_of_mem _ hx)
    refine ⟨y :: ys, by simp [h1], fun i x y' hx hy' => ?_⟩
    cases i with
    | zero => simp at hx hy'; subst hx hy'; exact hy
    | succ i => exact h2 i x y' (by simpa using hx) (by simpa using hy')
theorem flat_len {α : Type} {f : α → List Value} {k : Nat} (hk : ∀ x, (f x).length = k) : ∀ l : List α, (l.flatMap f).length = l.length * k
  | [] => by simp
  | x :: l => by rw [List.flatMap_cons, List.length_append, flat_len hk l, hk, List.length_cons, Nat.add_mul, Nat.one_mul, Nat.add_comm]
theorem flat_get {α : Type} {f : α → List Value} {k : Nat} (hk : ∀ x, (f x).length = k) : ∀ (l : List α) (i j : Nat) (x : α), l[i]? = some x → j < k → (l.flatMap f)[i * k + j]? = (f x)[j]?
  | [], i, j, x, h, _ => by simp at h
  | y :: l, 0, j, x, h, hj => by
    injection h with h
    subst h
    rw [List.flatMap_cons, List.getElem?_append_left (by rw [hk]; omega), Nat.zero_mul, Nat.zero_add]
  | y :: l, i + 1, j, x, h, hj => by
    rw [List.flatMap_cons, List.getElem?_append_right (by rw [hk, Nat.add_mul]; omega), show (i + 1) * k + j - (f y).length = i * k + j by rw [hk, Nat.add_mul]; omega]
    exact flat_get hk l i j x (by simpa using h) hj
theorem one_flat {α : Type} {f : α → List Value} (h : ∀ x, ∀ u ∈ f x, u.oneCell' = true) (l : List α) : ∀ u ∈ l.flatMap f, u.oneCell' = true := fun u hu => by
  obtain ⟨x, _, hx⟩ := List.mem_flatMap.1 hu
  exact h x u hx
theorem flat_nil {α : Type} {f : α → List Value} {k : Nat} (hk : ∀ x, (f x).length = k) (h0 : 0 < k) {w : World} {l : List α} (h : Cells w none (l.flatMap f)) : l = [] := by
  rcases l with _ | ⟨x, l⟩
  · rfl
  · exfalso
    have h1 := flat_get hk (x :: l) 0 0 x rfl h0
    rw [Nat.zero_mul, Nat.zero_add] at h1
    have h2 : (f x)[0]? = some ((f x)[0]'(by rw [hk]; exact h0)) := List.getElem?_eq_getElem (by rw [hk]; exact h0)
    obtain ⟨a, e, _⟩ := h 0 _ (h1.trans h2)
    cases e
theorem cells_ne {α : Type} {f : α → List Value} {k : Nat} (hk : ∀ x, (f x).length = k) (h0 : 0 < k) {w : World} {A : Option Addr} {l : List α} (h : Cells w A (l.flatMap f)) (n : Nat) (hn : l.length = n) : 0 < n → A ≠ none := fun hp e => by
  subst e
  have := flat_nil hk h0 h
  subst this
  simp at hn
  omega
theorem head_any {w : World} {base : Nat} {e : TypeId} {size n c : Nat} {A : Option Addr} {xs : List Value} (h : w.ownsRow base e size (.slice A n c) n xs) (hn : 0 < n) : ∃ g, A = some ⟨g, 0, none⟩ ∧ g < w.heap.size := by
  rcases h.2 with ⟨_, h0⟩ | ⟨g', cap', cur, h', hb, hg, _⟩
  · omega
  · injection h' with h1 _ _
    exact ⟨g', h1, (Array.getElem?_eq_some_iff.1 hg).1⟩
theorem cells_at {w : World} {g : Nat} {xs : List Value} {j : Nat} {v : Value} (h : Cells w (some ⟨g, 0, none⟩) xs) (hj : xs[j]? = some v) : w.cell? ⟨g, j, none⟩ = some v := by
  obtain ⟨a, e, hc⟩ := h j v hj
  injection e with e
  subst e
  rwa [add_plain] at hc
theorem drop_at {α : Type} {l : List α} {i : Nat} {x : α} (h : l[i]? = some x) : l.drop i = x :: l.drop (i + 1) := by
  obtain ⟨h1, rfl⟩ := List.getElem?_eq_some_iff.1 h
  exact List.drop_eq_getElem_cons h1

/-- A partition. -/
structure Pt where
  node : Int
  start : Int
  len : Int
  budget : Int
  words : Int
  r0 : Nat
  r1 : Nat
  r2 : Nat
  r3 : Nat
def Pt.cells (x : Pt) : List Value := [.int .i64 x.node, .int .i64 x.start, .int .i64 x.len, .int .i64 x.budget, .int .i64 x.words, .int .u8 x.r0, .int .u8 x.r1, .int .u8 x.r2, .int .u8 x.r3]
theorem pcells_len (x : Pt) : x.cells.length = 9 := rfl
theorem pt_one (x : Pt) : ∀ u ∈ x.cells, u.oneCell' = true := by
  intro u hu
  simp [Pt.cells] at hu
  rcases hu with rfl | rfl | rfl | rfl | rfl | rfl | rfl | rfl | rfl <;> rfl
theorem info_part : (Try.prog.info? 38).map (fun i => (i.zero, i.size, i.bytes)) = some (some (.agg #[.int .i64 0, .int .i64 0, .int .i64 0, .int .i64 0, .int .i64 0, .int .u8 0, .int .u8 0, .int .u8 0, .int .u8 0]), 9, 48) := by kernel_rfl
def W64 (z : Int) : Prop := -9223372036854775808 ≤ z ∧ z ≤ 9223372036854775807
structure Pt.Ok (x : Pt) : Prop where
  node : W64 x.node
  start : W64 x.start
  len : W64 x.len
  budget : W64 x.budget
  words : W64 x.words
  r0 : x.r0 < 256
  r1 : x.r1 < 256
  r2 : x.r2 < 256
  r3 : x.r3 < 256
/-- A port. -/
structure Qt where
  part : Int
  kind : Nat
  out : Bool
  size : Int
  depth : Int
  fresh : Int
def Qt.cells (x : Qt) : List Value := [.int .i64 x.part, .int .u8 x.kind, .bool x.out, .int .i64 x.size, .int .i64 x.depth, .int .i64 x.fresh]
theorem qcells_len (x : Qt) : x.cells.length = 6 := rfl
theorem qt_one (x : Qt) : ∀ u ∈ x.cells, u.oneCell' = true := by
  intro u hu
  simp [Qt.cells] at hu
  rcases hu with rfl | rfl | rfl | rfl | rfl | rfl <;> rfl
theorem info_port : (Try.prog.info? 44).map (fun i => (i.zero, i.size, i.bytes)) = some (some (.agg #[.int .i64 0, .int .u8 0, .bool false, .int .i64 0, .int .i64 0, .int .i64 0]), 6, 40) := by kernel_rfl
structure Qt.Ok (x : Qt) : Prop where
  part : W64 x.part
  kind : x.kind < 256
  size : W64 x.size
  depth : W64 x.depth
  fresh : W64 x.fresh
/-- A route. -/
structure Rt where
  src : Int
  dst : Int
def Rt.cells (x : Rt) : List Value := [.int .i64 x.src, .int .i64 x.dst]
theorem tcells_len (x : Rt) : x.cells.length = 2 := rfl
theorem rt_one (x : Rt) : ∀ u ∈ x.cells, u.oneCell' = true := by
  intro u hu
  simp [Rt.cells] at hu
  rcases hu with rfl | rfl <;> rfl
theorem info_route : (Try.prog.info? 41).map (fun i => (i.zero, i.size, i.bytes)) = some (some (.agg #[.int .i64 0, .int .i64 0]), 2, 16) := by kernel_rfl
structure Rt.Ok (x : Rt) : Prop where
  src : W64 x.src
  dst : W64 x.dst

/-- A slice of such that came in. -/
def At {α : Type} (f : α → List Value) (w : World) (A : Option Addr) (n : Nat) (l : List α) : Prop := l.length = n ∧ Cells w A (l.flatMap f)
theorem At.below {α : Type} {f : α → List Value} {w w' : World} {A : Option Addr} {n : Nat} {l : List α} (h : At f w A n l) (hB : Below w.heap.size w w') : At f w' A n l := ⟨h.1, h.2.below hB⟩
theorem At.part {w : World} {A : Option Addr} {n i : Nat} {l : List Pt} {x : Pt} (h : At Pt.cells w A n l) (hx : l[i]? = some x) : ∃ a, A = some a ∧ w.cell? (a.add (i * 9)) = some (.int .i64 x.node) ∧ w.cell? ⟨(a.add (i * 9)).block, (a.add (i * 9)).off + 1, none⟩ = some (.int .i64 x.start) ∧
    w.cell? ⟨(a.add (i * 9)).block, (a.add (i * 9)).off + 2, none⟩ = some (.int .i64 x.len) ∧ w.cell? ⟨(a.add (i * 9)).block, (a.add (i * 9)).off + 3, none⟩ = some (.int .i64 x.budget) ∧ w.cell? ⟨(a.add (i * 9)).block, (a.add (i * 9)).off + 4, none⟩ = some (.int .i64 x.words) ∧
    w.cell? ⟨(a.add (i * 9)).block, (a.add (i * 9)).off + 5, none⟩ = some (.int .u8 x.r0) ∧ w.cell? ⟨(a.add (i * 9)).block, (a.add (i * 9)).off + 6, none⟩ = some (.int .u8 x.r1) ∧ w.cell? ⟨(a.add (i * 9)).block, (a.add (i * 9)).off + 7, none⟩ = some (.int .u8 x.r2) ∧ w.cell? ⟨(a.add (i * 9)).block, (a.add (i * 9)).off + 8, none⟩ = some (.int .u8 x.r3) := by
  obtain ⟨a, rfl, h0⟩ := h.2 (i * 9) _ ((flat_get pcells_len l i 0 x hx (by decide)).trans rfl)
  have key : ∀ j v, j ≠ 0 → j < 9 → x.cells[j]? = some v → w.cell? ⟨(a.add (i * 9)).block, (a.add (i * 9)).off + j, none⟩ = some v := fun j v hj h9 hv => by
    obtain ⟨a1, e, h1⟩ := h.2 (i * 9 + j) _ ((flat_get pcells_len l i j x hx h9).trans hv)
    injection e with e
    subst e
    rwa [← add_add, addr_lit _ _ hj] at h1
  exact ⟨a, rfl, h0, key 1 _ (by decide) (by decide) rfl, key 2 _ (by decide) (by decide) rfl, key 3 _ (by decide) (by decide) rfl, key 4 _ (by decide) (by decide) rfl, key 5 _ (by decide) (by decide) rfl, key 6 _ (by decide) (by decide) rfl, key 7 _ (by decide) (by decide) rfl, key 8 _ (by decide) (by decide) rfl⟩
theorem At.port {w : World} {A : Option Addr} {n i : Nat} {l : List Qt} {x : Qt} (h : At Qt.cells w A n l) (hx : l[i]? = some x) : ∃ a, A = some a ∧ w.cell? (a.add (i * 6)) = some (.int .i64 x.part) ∧ w.cell? ⟨(a.add (i * 6)).block, (a.add (i * 6)).off + 1, none⟩ = some (.int .u8 x.kind) ∧
    w.cell? ⟨(a.add (i * 6)).block, (a.add (i * 6)).off + 2, none⟩ = some (.bool x.out) ∧ w.cell? ⟨(a.add (i * 6)).block, (a.add (i * 6)).off + 3, none⟩ = some (.int .i64 x.size) ∧ w.cell? ⟨(a.add (i * 6)).block, (a.add (i * 6)).off + 4, none⟩ = some (.int .i64 x.depth) ∧
    w.cell? ⟨(a.add (i * 6)).block, (a.add (i * 6)).off + 5, none⟩ = some (.int .i64 x.fresh) := by
  obtain ⟨a, rfl, h0⟩ := h.2 (i * 6) _ ((flat_get qcells_len l i 0 x hx (by decide)).trans rfl)
  have key : ∀ j v, j ≠ 0 → j < 6 → x.cells[j]? = some v → w.cell? ⟨(a.add (i * 6)).block, (a.add (i * 6)).off + j, none⟩ = some v := fun j v hj h9 hv => by
    obtain ⟨a1, e, h1⟩ := h.2 (i * 6 + j) _ ((flat_get qcells_len l i j x hx h9).trans hv)
    injection e with e
    subst e
    rwa [← add_add, addr_lit _ _ hj] at h1
  exact ⟨a, rfl, h0, key 1 _ (by decide) (by decide) rfl, key 2 _ (by decide) (by decide) rfl, key 3 _ (by decide) (by decide) rfl, key 4 _ (by decide) (by decide) rfl, key 5 _ (by decide) (by decide) rfl⟩
theorem At.route {w : World} {A : Option Addr} {n i : Nat} {l : List Rt} {x : Rt} (h : At Rt.cells w A n l) (hx : l[i]? = some x) : ∃ a, A = some a ∧ w.cell? (a.add (i * 2)) = some (.int .i64 x.src) ∧ w.cell? ⟨(a.add (i * 2)).block, (a.add (i * 2)).off + 1, none⟩ = some (.int .i64 x.dst) := by
  obtain ⟨a, rfl, h0⟩ := h.2 (i * 2) _ ((flat_get tcells_len l i 0 x hx (by decide)).trans rfl)
  obtain ⟨a1, e, h1⟩ := h.2 (i * 2 + 1) _ ((flat_get tcells_len l i 1 x hx (by decide)).trans rfl)
  injection e with e
  subst e
  rw [← add_add, addr_lit _ _ (by decide)] at h1
  exact ⟨a, rfl, h0, h1⟩

/-- Is it in this range? -/
def inB (n lo hi : Int) : Bool := decide (lo ≤ n ∧ n ≤ hi)
def ptB (p : Pt) (nodes : Int) : Bool := (decide (p.r0 ≤ 3) && decide (p.r1 ≤ 3) && decide (p.r2 ≤ 3) && decide (p.r3 ≤ 3)) && (inB p.node 0 (nodes - 1) && inB p.start 0 268435456 && inB p.len 1 268435456 && inB p.budget 0 64 && inB p.words 0 16)
def qtB (p : Qt) (parts : Int) : Bool := (inB p.part 0 (parts - 1) && inB p.size 0 16) && (if p.kind = 1 then decide (p.depth = 0) && inB p.fresh 0 8 && (!p.out || decide (p.fresh = 0)) else if p.kind = 2 then inB p.depth 1 4 && decide (p.fresh = 0) else false)
def rtB (r : Rt) (ports : Int) : Bool := inB r.src 0 (ports - 1) && inB r.dst 0 (ports - 1)
def scalB (n f sl gp rh d0 d1 mg : Int) : Bool := inB n 1 7 && inB f 0 2 && inB sl 1 16777216 && inB gp 0 16777216 && inB rh 0 200 && inB d1 0 1048576 && inB d0 0 d1 && inB mg 0 16777216
/-- The first that is not right. -/
def firstE {α : Type} (ok : α → Bool) (c : Int) : List α → Nat → Option (Int × Int)
  | [], _ => none
  | x :: l, i => if ok x then firstE ok c l (i + 1) else some (c, (i : Int))
def tabE (n f sl gp rh d0 d1 mg : Int) (ps : List Pt) (qs : List Qt) (rs : List Rt) : Option (Int × Int) :=
  if scalB n f sl gp rh d0 d1 mg = false then some (2, -1) else if 12 < ps.length ∨ 24 < qs.length ∨ 24 < rs.length then some (3, -1) else
    match firstE (ptB · n) 2 ps 0 with
    | some e => some e
    | none => match firstE (qtB · ps.length) 8 qs 0 with
      | some e => some e
      | none => firstE (rtB · qs.length) 72 rs 0
theorem firstE_none {α : Type} {ok : α → Bool} {c : Int} : ∀ {l : List α} {i : Nat}, firstE ok c l i = none → ∀ x ∈ l, ok x = true
  | [], _, _, x, hx => by cases hx
  | y :: l, i, h, x, hx => by
    unfold firstE at h
    split at h
    · rename_i hy
      rcases List.mem_cons.1 hx with rfl | hx
      · exact hy
      · exact firstE_none h x hx
    · cases h
theorem firstE_of {α : Type} {ok : α → Bool} {c : Int} : ∀ {l : List α} {i : Nat}, (∀ x ∈ l, ok x = true) → firstE ok c l i = none
  | [], _, _ => rfl
  | y :: l, i, h => by
    unfold firstE
    rw [if_pos (h y List.mem_cons_self)]
    exact firstE_of fun x hx => h x (List.mem_cons_of_mem _ hx)

theorem parts_of {w : World} {b : Nat} {A : Option Addr} {len cap : Nat} {rows : List (List Value)} (h : Rows' w b [.int .i64, .int .i64, .int .i64, .int .i64, .int .i64, .int .u8, .int .u8, .int .u8, .int .u8] A len cap rows) : ∃ ps, At Pt.cells w A len ps ∧ ∀ p ∈ ps, p.Ok := by
  have hr : ∀ r ∈ rows, ∃ q : Pt, r = q.cells ∧ q.Ok := fun r hr => by
    have hl := h.each r hr
    have hf := h.fits r hr
    obtain ⟨x0, r0, rfl, e0⟩ := arr_cons hl
    obtain ⟨x1, r1, rfl, e1⟩ := arr_cons e0
    obtain ⟨x2, r2, rfl, e2⟩ := arr_cons e1
    obtain ⟨x3, r3, rfl, e3⟩ := arr_cons e2
    obtain ⟨x4, r4, rfl, e4⟩ := arr_cons e3
    obtain ⟨x5, r5, rfl, e5⟩ := arr_cons e4
    obtain ⟨x6, r6, rfl, e6⟩ := arr_cons e5
    obtain ⟨x7, r7, rfl, e7⟩ := arr_cons e6
    obtain ⟨x8, r8, rfl, e8⟩ := arr_cons e7
    obtain rfl := List.length_eq_zero_iff.1 e8
    obtain ⟨y0, rfl, h0⟩ := (hf 0 _ _ rfl rfl).int_inv
    obtain ⟨y1, rfl, h1⟩ := (hf 1 _ _ rfl rfl).int_inv
    obtain ⟨y2, rfl, h2⟩ := (hf 2 _ _ rfl rfl).int_inv
    obtain ⟨y3, rfl, h3⟩ := (hf 3 _ _ rfl rfl).int_inv
    obtain ⟨y4, rfl, h4⟩ := (hf 4 _ _ rfl rfl).int_inv
    obtain ⟨y5, rfl, h5⟩ := (hf 5 _ _ rfl rfl).int_inv
    obtain ⟨y6, rfl, h6⟩ := (hf 6 _ _ rfl rfl).int_inv
    obtain ⟨y7, rfl, h7⟩ := (hf 7 _ _ rfl rfl).int_inv
    obtain ⟨y8, rfl, h8⟩ := (hf 8 _ _ rfl rfl).int_inv
    obtain ⟨n5, rfl, g5⟩ := wf8 h5
    obtain ⟨n6, rfl, g6⟩ := wf8 h6
    obtain ⟨n7, rfl, g7⟩ := wf8 h7
    obtain ⟨n8, rfl, g8⟩ := wf8 h8
    exact ⟨⟨y0, y1, y2, y3, y4, n5, n6, n7, n8⟩, rfl, wf64 h0, wf64 h1, wf64 h2, wf64 h3, wf64 h4, g5, g6, g7, g8⟩
  obtain ⟨qs, hql, hq⟩ := list_of rows hr
  have hget : ∀ (i : Nat) q, qs[i]? = some q → rows[i]? = some q.cells ∧ q.Ok := fun i q hi => by
    have hlt : i < rows.length := by rw [← hql]; exact (List.getElem?_eq_some_iff.1 hi).1
    obtain ⟨e1, h1⟩ := hq i _ q (List.getElem?_eq_getElem hlt) hi
    exact ⟨by rw [List.getElem?_eq_getElem hlt, e1], h1⟩
  refine ⟨qs, ⟨by rw [hql]; exact h.n, fun m v hv => ?_⟩, fun p hp => ?_⟩
  · have hm : m < qs.length * 9 := by
      rw [← flat_len pcells_len]
      exact (List.getElem?_eq_some_iff.1 hv).1
    obtain ⟨q, hqi⟩ : ∃ q, qs[m / 9]? = some q := ⟨_, List.getElem?_eq_getElem (by omega)⟩
    have e := flat_get pcells_len qs (m / 9) (m % 9) q hqi (by omega)
    rw [show m / 9 * 9 + m % 9 = m by omega, hv] at e
    obtain ⟨a, ha, hc⟩ := h.cell (m / 9) (m % 9) _ v (hget _ _ hqi).1 e.symm
    refine ⟨a, ha, ?_⟩
    rw [← hc]
    congr 2
    simp only [List.length_cons, List.length_nil]
    omega
  · obtain ⟨i, hi⟩ := List.getElem?_of_mem hp
    exact (hget i p hi).2
theorem ports_of {w : World} {b : Nat} {A : Option Addr} {len cap : Nat} {rows : List (List Value)} (h : Rows' w b [.int .i64, .int .u8, .bool, .int .i64, .int .i64, .int .i64] A len cap rows) : ∃ ps, At Qt.cells w A len ps ∧ ∀ p ∈ ps, p.Ok := by
  have hr : ∀ r ∈ rows, ∃ q : Qt, r = q.cells ∧ q.Ok := fun r hr => by
    have hl := h.each r hr
    have hf := h.fits r hr
    obtain ⟨x0, r0, rfl, e0⟩ := arr_cons hl
    obtain ⟨x1, r1, rfl, e1⟩ := arr_cons e0
    obtain ⟨x2, r2, rfl, e2⟩ := arr_cons e1
    obtain ⟨x3, r3, rfl, e3⟩ := arr_cons e2
    obtain ⟨x4, r4, rfl, e4⟩ := arr_cons e3
    obtain ⟨x5, r5, rfl, e5⟩ := arr_cons e4
    obtain rfl := List.length_eq_zero_iff.1 e5
    obtain ⟨y0, rfl, h0⟩ := (hf 0 _ _ rfl rfl).int_inv
    obtain ⟨y1, rfl, h1⟩ := (hf 1 _ _ rfl rfl).int_inv
    obtain ⟨y2, rfl⟩ := (hf 2 _ _ rfl rfl).bool_inv
    obtain ⟨y3, rfl, h3⟩ := (hf 3 _ _ rfl rfl).int_inv
    obtain ⟨y4, rfl, h4⟩ := (hf 4 _ _ rfl rfl).int_inv
    obtain ⟨y5, rfl, h5⟩ := (hf 5 _ _ rfl rfl).int_inv
    obtain ⟨n1, rfl, g1⟩ := wf8 h1
    exact ⟨⟨y0, n1, y2, y3, y4, y5⟩, rfl, wf64 h0, g1, wf64 h3, wf64 h4, wf64 h5⟩
  obtain ⟨qs, hql, hq⟩ := list_of rows hr
  have hget : ∀ (i : Nat) q, qs[i]? = some q → rows[i]? = some q.cells ∧ q.Ok := fun i q hi => by
    have hlt : i < rows.length := by rw [← hql]; exact (List.getElem?_eq_some_iff.1 hi).1
    obtain ⟨e1, h1⟩ := hq i _ q (List.getElem?_eq_getElem hlt) hi
    exact ⟨by rw [List.getElem?_eq_getElem hlt, e1], h1⟩
  refine ⟨qs, ⟨by rw [hql]; exact h.n, fun m v hv => ?_⟩, fun p hp => ?_⟩
  · have hm : m < qs.length * 6 := by
      rw [← flat_len qcells_len]
      exact (List.getElem?_eq_some_iff.1 hv).1
    obtain ⟨q, hqi⟩ : ∃ q, qs[m / 6]? = some q := ⟨_, List.getElem?_eq_getElem (by omega)⟩
    have e := flat_get qcells_len qs (m / 6) (m % 6) q hqi (by omega)
    rw [show m / 6 * 6 + m % 6 = m by omega, hv] at e
    obtain ⟨a, ha, hc⟩ := h.cell (m / 6) (m % 6) _ v (hget _ _ hqi).1 e.symm
    refine ⟨a, ha, ?_⟩
    rw [← hc]
    congr 2
    simp only [List.length_cons, List.length_nil]
    omega
  · obtain ⟨i, hi⟩ := List.getElem?_of_mem hp
    exact (hget i p hi).2
theorem routes_of {w : World} {b : Nat} {A : Option Addr} {len cap : Nat} {rows : List (List Value)} (h : Rows' w b [.int .i64, .int .i64] A len cap rows) : ∃ ps, At Rt.cells w A len ps ∧ ∀ p ∈ ps, p.Ok := by
  have hr : ∀ r ∈ rows, ∃ q : Rt, r = q.cells ∧ q.Ok := fun r hr => by
    have hl := h.each r hr
    have hf := h.fits r hr
    obtain ⟨x0, r0, rfl, e0⟩ := arr_cons hl
    obtain ⟨x1, r1, rfl, e1⟩ := arr_cons e0
    obtain rfl := List.length_eq_zero_iff.1 e1
    obtain ⟨y0, rfl, h0⟩ := (hf 0 _ _ rfl rfl).int_inv
    obtain ⟨y1, rfl, h1⟩ := (hf 1 _ _ rfl rfl).int_inv
    exact ⟨⟨y0, y1⟩, rfl, wf64 h0, wf64 h1⟩
  obtain ⟨qs, hql, hq⟩ := list_of rows hr
  have hget : ∀ (i : Nat) q, qs[i]? = some q → rows[i]? = some q.cells ∧ q.Ok := fun i q hi => by
    have hlt : i < rows.length := by rw [← hql]; exact (List.getElem?_eq_some_iff.1 hi).1
    obtain ⟨e1, h1⟩ := hq i _ q (List.getElem?_eq_getElem hlt) hi
    exact ⟨by rw [List.getElem?_eq_getElem hlt, e1], h1⟩
  refine ⟨qs, ⟨by rw [hql]; exact h.n, fun m v hv => ?_⟩, fun p hp => ?_⟩
  · have hm : m < qs.length * 2 := by
      rw [← flat_len tcells_len]
      exact (List.getElem?_eq_some_iff.1 hv).1
    obtain ⟨q, hqi⟩ : ∃ q, qs[m / 2]? = some q := ⟨_, List.getElem?_eq_getElem (by omega)⟩
    have e := flat_get tcells_len qs (m / 2) (m % 2) q hqi (by omega)
    rw [show m / 2 * 2 + m % 2 = m by omega, hv] at e
    obtain ⟨a, ha, hc⟩ := h.cell (m / 2) (m % 2) _ v (hget _ _ hqi).1 e.symm
    refine ⟨a, ha, ?_⟩
    rw [← hc]
    congr 2
    simp only [List.length_cons, List.length_nil]
    omega
  · obtain ⟨i, hi⟩ := List.getElem?_of_mem hp
    exact (hget i p hi).2
theorem cells11 {w0 w : World} {S : Nat → Prop} {L : List Res} {p : Nat} {T : TypeId} {fr : Nat × Nat} {a0 a1 a2 a3 a4 a5 a6 a7 a8 a9 aA : Value} (h : Own w0 S w L) (k : Nat) (hk : L[k]? = some (blk p (.cells #[a0, a1, a2, a3, a4, a5, a6, a7, a8, a9, aA] T fr))) :
    w.cell? ⟨p, 0, none⟩ = some a0 ∧ w.cell? ⟨p, 1, none⟩ = some a1 ∧ w.cell? ⟨p, 2, none⟩ = some a2 ∧ w.cell? ⟨p, 3, none⟩ = some a3 ∧ w.cell? ⟨p, 4, none⟩ = some a4 ∧ w.cell? ⟨p, 5, none⟩ = some a5 ∧ w.cell? ⟨p, 6, none⟩ = some a6 ∧ w.cell? ⟨p, 7, none⟩ = some a7 ∧ w.cell? ⟨p, 8, none⟩ = some a8 ∧ w.cell? ⟨p, 9, none⟩ = some a9 ∧ w.cell? ⟨p, 10, none⟩ = some aA :=
  ⟨h.cell k hk 0, h.cell k hk 1, h.cell k hk 2, h.cell k hk 3, h.cell k hk 4, h.cell k hk 5, h.cell k hk 6, h.cell k hk 7, h.cell k hk 8, h.cell k hk 9, h.cell k hk 10⟩
end Go.Proofs.Ytcamoldjljfbeaa
