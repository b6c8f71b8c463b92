/- The walks of the queue: Take, Len, and the nil queue. -/
import Derived.Test.YtjejkmnlkmcckaaQu
namespace Go.Proofs.Ytjejkmnlkmcckaa
open Go.RowKit

/-- The least of three places. -/
def least (l : List It) (m i k : Nat) : Nat :=
  match l[k]?, l[m]? with
  | some x, some y => if k < i ∧ ahead x y = true then k else m
  | _, _ => m

theorem len_any (base b : Nat) (A : Option Addr) (len cap : Nat) (l : List It) (n : Nat) (w : World) (hq : QIn w base b A len cap l n) :
    Calls Try.prog 19 #[.pointer (some ⟨b, 0, none⟩)] w fun e w' => e = .returned (.int .i64 len) ∧ w = w' := by
  have c0 := hq.c0
  clear hq
  go_enter Try.func19, Try.ntmps19
  go_wp2
  go_ret
  exact ⟨rfl, rfl⟩
theorem len_nil (w : World) : Calls Try.prog 19 #[.pointer none] w fun e w' => e = .returned (.int .i64 0) ∧ w = w' := by
  go_enter Try.func19, Try.ntmps19
  go_wp2
  go_ret
  exact ⟨rfl, rfl⟩
theorem put_nil (e0 e1 e2 : Int) (w : World) : Calls Try.prog 15 #[.pointer none, .agg #[.int .i64 e0, .int .i64 e1, .int .i64 e2]] w fun e w' => e = .returned (.iface 91 (.int .i64 1)) ∧ Below w.heap.size w w' := by
  go_enter Try.func15, Try.ntmps15
  go_wp2
  go_ret
  exact ⟨rfl, below_alloc (Below.refl _ _) _⟩
theorem put_full (base b : Nat) (A : Option Addr) (len cap : Nat) (l : List It) (n : Nat) (e0 e1 e2 : Int) (w : World) (hq : QIn w base b A len cap l n) (hl : 4096 ≤ len) :
    Calls Try.prog 15 #[.pointer (some ⟨b, 0, none⟩), .agg #[.int .i64 e0, .int .i64 e1, .int .i64 e2]] w fun e w' => e = .returned (.iface 91 (.int .i64 11)) ∧ Below w.heap.size w w' := by
  have c0 := hq.c0
  have hs := hq.hs
  have hl2 : decide ((4096 : Int) ≤ (len : Int)) = true := by simp; omega
  clear hq
  go_enter Try.func15, Try.ntmps15
  go_wp2
  go_ret
  exact ⟨rfl, below_alloc (Below.refl _ _) _⟩
theorem take_nil (w : World) : Calls Try.prog 16 #[.pointer none] w fun e w' => e = .returned (.tuple #[.agg #[.int .i64 0, .int .i64 0, .int .i64 0], .iface 91 (.int .i64 1)]) ∧ Below w.heap.size w w' := by
  go_enter Try.func16, Try.ntmps16
  go_wp2
  refine bodyPost_ret (by simp [results, Try.results16, go_sem]; rfl) rfl ?_
  exact ⟨rfl, below_alloc (Below.refl _ _) _⟩
theorem take_empty (base b : Nat) (A : Option Addr) (cap : Nat) (l : List It) (n : Nat) (w : World) (hq : QIn w base b A 0 cap l n) :
    Calls Try.prog 16 #[.pointer (some ⟨b, 0, none⟩)] w fun e w' => e = .returned (.tuple #[.agg #[.int .i64 0, .int .i64 0, .int .i64 0], .iface 91 (.int .i64 10)]) ∧ Below w.heap.size w w' := by
  have c0 := hq.c0
  have hs := hq.hs
  clear hq
  go_enter Try.func16, Try.ntmps16
  go_wp2
  refine bodyPost_ret (by simp [results, Try.results16, go_sem]; rfl) rfl ?_
  exact ⟨rfl, below_alloc (Below.refl _ _) _⟩
/-- Down the heap. -/
def pick (l : List It) (i : Nat) : Nat := least l (least l i l.length (2 * i + 1)) l.length (2 * i + 2)
theorem least_le (l : List It) (m i k : Nat) : least l m i k = m ∨ (least l m i k = k ∧ k < i) := by
  unfold least
  split
  · split
    · rename_i h
      exact .inr ⟨rfl, h.1⟩
    · exact .inl rfl
  · exact .inl rfl
theorem pick_lt (l : List It) (i : Nat) : pick l i = i ∨ (i < pick l i ∧ pick l i < l.length) := by
  unfold pick
  rcases least_le l i l.length (2 * i + 1) with h | h <;> rcases least_le l (least l i l.length (2 * i + 1)) l.length (2 * i + 2) with h2 | h2 <;> omega
def siftDown (l : List It) (i : Nat) : List It :=
  if _ : pick l i = i then l
  else match l[i]?, l[pick l i]? with
    | some x, some y => siftDown ((l.set i y).set (pick l i) x) (pick l i)
    | _, _ => l
  termination_by l.length - i
  decreasing_by
    have := pick_lt l i
    simp
    omega

def pickTo (l : List It) (i : Nat) : Nat → Nat
  | 0 => i
  | 1 => least l i l.length (2 * i + 1)
  | _ => pick l i
theorem pick_next (l : List It) (i j : Nat) (hj : j < 2) : pickTo l i (j + 1) = least l (pickTo l i j) l.length (2 * i + 1 + j) := by
  match j, hj with
  | 0, _ => rfl
  | 1, _ => rfl
theorem least_no {l : List It} {m n k : Nat} (h : ¬ k < n) : least l m n k = m := by
  rcases least_le l m n k with e | e
  · exact e
  · omega
theorem least_at {l : List It} {m n k : Nat} {x y : It} (hx : l[k]? = some x) (hy : l[m]? = some y) (h : k < n) : least l m n k = if ahead x y = true then k else m := by
  unfold least
  rw [hx, hy]
  simp [h]
theorem ix0 (a b : Value) (W : World) : (Instr.index 95 (.agg #[a, b]) (.int .i64 0)).run Try.prog W = .ok a W := by
  simp [Instr.index, go_sem]
theorem ix1 (a b : Value) (W : World) : (Instr.index 95 (.agg #[a, b]) (.int .i64 1)).run Try.prog W = .ok b W := by
  simp [Instr.index, go_sem]
theorem own_cut {w : World} {base g : Nat} {e : TypeId} {size n m cap : Nat} {xs : List Value} (h : w.ownsRow base e size (.slice (some ⟨g, 0, none⟩) n cap) n xs) (hm : m ≤ n) : w.ownsRow base e size (.slice (some ⟨g, 0, none⟩) m cap) m (xs.take (m * size)) := by
  obtain ⟨h1, h2⟩ := h
  have hmn : m * size ≤ n * size := Nat.mul_le_mul_right _ hm
  rcases h2 with ⟨h', _⟩ | ⟨g', cap', cur, h', hb, hg, hnc, hcm, hcs, ht⟩
  · simp at h'
  · simp only [Value.slice.injEq, Option.some.injEq, Addr.mk.injEq, and_true, true_and] at h'
    obtain ⟨rfl, rfl⟩ := h'
    refine ⟨by rw [List.length_take, h1]; omega, .inr ⟨g, cap, cur, rfl, hb, hg, by omega, hcm, hcs, ?_⟩⟩
    rw [← ht, List.take_take, Nat.min_eq_left hmn]
theorem own_cap {w : World} {base : Nat} {e : TypeId} {size n cap : Nat} {A : Option Addr} {xs : List Value} (h : w.ownsRow base e size (.slice A n cap) n xs) : n ≤ cap := by
  rcases h.2 with ⟨h', hn⟩ | ⟨g', cap', cur, h', hb, hg, hnc, _⟩
  · omega
  · injection h' with _ _ h3
    omega
theorem itCells_take : ∀ (l : List It) (n : Nat), itCells (l.take n) = (itCells l).take (n * 4)
  | [], n => by simp [itCells]
  | x :: l, 0 => by simp [itCells]
  | x :: l, n + 1 => by
    have ih := itCells_take l n
    rw [show (n + 1) * 4 = n * 4 + 4 by omega]
    show Value.int .i64 x.at_ :: Value.int .i64 x.rank :: Value.int .i64 x.what :: Value.int .i64 x.n :: itCells (l.take n) = (Value.int .i64 x.at_ :: Value.int .i64 x.rank :: Value.int .i64 x.what :: Value.int .i64 x.n :: itCells l).take (n * 4 + 4)
    rw [ih]
    simp
/-- What Take does ahead of its loop. -/
theorem QIn.cut {w : World} {base b g last cap n : Nat} {l : List It} (h : QIn w base b (some ⟨g, 0, none⟩) (last + 1) cap l n) : QIn (w.setCell ⟨b, 0, none⟩ (.slice (some ⟨g, 0, none⟩) last cap)) base b (some ⟨g, 0, none⟩) last cap (l.take last) n := by
  refine ⟨heap_setCell_same w b 0 _ _ _ h.blk, ?_, by rw [List.length_take, h.ll]; omega, h.hb, h.ne⟩
  rw [itCells_take]
  exact own_far (own_cut h.own (Nat.le_succ _)) (fun e => h.ne g rfl (by injection e with e; exact e.symm)) _
theorem QIn.gs {w : World} {base b g len cap n : Nat} {l : List It} (h : QIn w base b (some ⟨g, 0, none⟩) len cap l n) : g < w.heap.size := own_lt h.own g rfl

theorem QIn.far {w : World} {base b g len cap n : Nat} {l : List It} (h : QIn w base b (some ⟨g, 0, none⟩) len cap l n) {p : Addr} (h1 : b ≠ p.block) (h2 : g ≠ p.block) (u : Value) : QIn (w.setCell p u) base b (some ⟨g, 0, none⟩) len cap l n :=
  ⟨by rw [Below.heap_setCell _ _ _ _ h1]; exact h.blk, own_far h.own (fun e => h2 (by injection e with e; exact e.symm)) _, h.ll, h.hb, h.ne⟩
theorem three_set {w : World} {H : Nat} {T : TypeId} {a b c x y z : Value} (h : w.heap[H]? = some (.cells #[a, b, c] T (0, 0))) :
    (((w.setCell ⟨H, 0, none⟩ x).setCell ⟨H, 1, none⟩ y).setCell ⟨H, 2, none⟩ z).heap[H]? = some (.cells #[x, y, z] T (0, 0)) :=
  heap_setCell_same _ _ 2 _ _ _ (heap_setCell_same _ _ 1 _ _ _ (heap_setCell_same _ _ 0 _ _ _ h))
theorem siftDown_stop {l : List It} {i : Nat} (h : pick l i = i) : siftDown l i = l := by
  rw [siftDown]; exact dif_pos h
theorem siftDown_step {l : List It} {i m : Nat} {x y : It} (h : pick l i = m) (hm : m ≠ i) (hx : l[i]? = some x) (hy : l[m]? = some y) : siftDown l i = siftDown ((l.set i y).set m x) m := by
  subst h
  rw [siftDown, dif_neg hm, hx, hy]

end Go.Proofs.Ytjejkmnlkmcckaa
