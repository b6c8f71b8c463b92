/- The walks of the queue: ahead, New, Put, Take, Len. -/
import Derived.Test.YtjejkmnlkmcckaaMix
import Derived.Deep.RegionHeld
import Derived.Test.YtjejkmnlkmcckaaProg
import Derived.Deep.AppendLies
import Derived.Deep.DrawnRows
namespace Go.Proofs.Ytjejkmnlkmcckaa
open Go.RowKit

/-- An item of the queue. -/
structure It where
  at_ : Int
  rank : Int
  what : Int
  n : Int
def It.cells (a : It) : List Value := [.int .i64 a.at_, .int .i64 a.rank, .int .i64 a.what, .int .i64 a.n]
def ahead (a b : It) : Bool := if a.at_ ≠ b.at_ then decide (a.at_ < b.at_) else if a.rank ≠ b.rank then decide (a.rank < b.rank) else decide (a.n < b.n)

theorem ahead_any (a0 a1 a2 a3 b0 b1 b2 b3 : Int) (c : Bool) (w : World) (hc : ahead ⟨a0, a1, a2, a3⟩ ⟨b0, b1, b2, b3⟩ = c) :
    Calls Try.prog 40 #[.agg #[.int .i64 a0, .int .i64 a1, .int .i64 a2, .int .i64 a3], .agg #[.int .i64 b0, .int .i64 b1, .int .i64 b2, .int .i64 b3]] w fun e w' => e = .returned (.bool c) ∧ Below w.heap.size w w' := by
  have hb : ∀ o1 o2, Below w.heap.size w ((w.alloc o1).alloc o2) := fun o1 o2 => below_alloc (below_alloc (Below.refl _ _) o1) o2
  unfold ahead at hc
  by_cases h1 : a0 = b0
  · subst h1
    by_cases h2 : a1 = b1
    · subst h2
      rw [if_neg (by simp), if_neg (by simp)] at hc
      go_enter Try.func40, Try.ntmps40
      go_wp2
      go_ret
      exact ⟨ret_bool rfl, hb _ _⟩
    · have h3 : (a1 != b1) = true := by simpa using h2
      rw [if_neg (by simp), if_pos h2] at hc
      go_enter Try.func40, Try.ntmps40
      go_wp2
      go_ret
      exact ⟨ret_bool rfl, hb _ _⟩
  · have h3 : (a0 != b0) = true := by simpa using h1
    rw [if_pos h1] at hc
    go_enter Try.func40, Try.ntmps40
    go_wp2
    go_ret
    exact ⟨ret_bool rfl, hb _ _⟩

theorem info_item : (Try.prog.info? 93).map (fun i => (i.zero, i.size, i.bytes)) = some (some (.agg #[.int .i64 0, .int .i64 0, .int .i64 0, .int .i64 0]), 4, 32) := by kernel_rfl
def itCells (l : List It) : List Value := l.flatMap It.cells
/-- A queue at block b: its items and its number. -/
structure QIn (w : World) (base b : Nat) (A : Option Addr) (len cap : Nat) (l : List It) (n : Nat) : Prop where
  blk : w.heap[b]? = some (.cells #[.slice A len cap, .int .i64 n] 90 (0, 0))
  own : w.ownsRow base 93 4 (.slice A len cap) len (itCells l)
  ll : l.length = len
  hb : base ≤ b
  ne : ∀ k, (Value.slice A len cap).ownBlock = some k → k ≠ b
theorem QIn.hs {w : World} {base b : Nat} {A : Option Addr} {len cap : Nat} {l : List It} {n : Nat} (h : QIn w base b A len cap l n) : b < w.heap.size := (Array.getElem?_eq_some_iff.1 h.blk).1
theorem QIn.c0 {w : World} {base b : Nat} {A : Option Addr} {len cap : Nat} {l : List It} {n : Nat} (h : QIn w base b A len cap l n) : w.cell? ⟨b, 0, none⟩ = some (.slice A len cap) := by rw [cell_of_row w b 0 _ _ _ h.blk]; rfl
theorem QIn.c1 {w : World} {base b : Nat} {A : Option Addr} {len cap : Nat} {l : List It} {n : Nat} (h : QIn w base b A len cap l n) : w.cell? ⟨b, 1, none⟩ = some (.int .i64 n) := by rw [cell_of_row w b 1 _ _ _ h.blk]; rfl
theorem QIn.fr {w : World} {base b : Nat} {A : Option Addr} {len cap : Nat} {l : List It} {n : Nat} (h : QIn w base b A len cap l n) (j : Nat) : w.frozen? ⟨b, j, none⟩ = false := frozen_of_row w b j _ _ h.blk

theorem new_any (w : World) : Calls Try.prog 14 #[] w fun e w' => e = .returned (.pointer (some ⟨w.heap.size, 0, none⟩)) ∧ QIn w' w.heap.size w.heap.size none 0 0 [] 0 ∧ Below w.heap.size w w' := by
  go_enter Try.func14, Try.ntmps14
  go_wp2
  go_ret
  exact ⟨rfl, ⟨heap_alloc_new w _, ⟨rfl, .inl ⟨rfl, rfl⟩⟩, rfl, Nat.le_refl _, fun k h => by cases h⟩, below_alloc (Below.refl _ _) _⟩

/-- What Put holds in hand ahead of its append. -/
structure PutIn (W : World) (base b H : Nat) (A : Option Addr) (len cap : Nat) (l : List It) (n : Nat) (e0 e1 e2 : Int) : Prop where
  q : QIn W base b A len cap l n
  x0 : W.cell? ⟨H, 0, none⟩ = some (.int .i64 e0)
  x1 : W.cell? ⟨H, 1, none⟩ = some (.int .i64 e1)
  x2 : W.cell? ⟨H, 2, none⟩ = some (.int .i64 e2)
  hs : W.heap.size = H + 1
  k : ∀ i, (Value.slice A len cap).ownBlock = some i → i ≠ H

theorem putIn {w : World} {base b : Nat} {A : Option Addr} {len cap : Nat} {l : List It} {n : Nat} (hq : QIn w base b A len cap l n) (e0 e1 e2 : Int) (T : TypeId) :
    PutIn ((w.setCell ⟨b, 1, none⟩ (.int .i64 ((n + 1 : Nat) : Int))).alloc (.cells #[.int .i64 e0, .int .i64 e1, .int .i64 e2] T)) base b w.heap.size A len cap l (n + 1) e0 e1 e2 := by
  have hsz : (w.setCell ⟨b, 1, none⟩ (.int .i64 ((n + 1 : Nat) : Int))).heap.size = w.heap.size := by simp [World.setCell]
  have h1 := heap_setCell_same w b 1 _ _ (.int .i64 ((n + 1 : Nat) : Int)) hq.blk
  have hnew := heap_alloc_new (w.setCell ⟨b, 1, none⟩ (.int .i64 ((n + 1 : Nat) : Int))) (.cells #[.int .i64 e0, .int .i64 e1, .int .i64 e2] T)
  rw [hsz] at hnew
  refine ⟨⟨?_, ?_, hq.ll, hq.hb, hq.ne⟩, ?_, ?_, ?_, by simp, fun i hi => ?_⟩
  · rw [Below.heap_alloc _ _ _ (by rw [hsz]; exact hq.hs)]
    exact h1
  · exact own_below (own_far hq.own (fun e => hq.ne b e.symm rfl) _) (below_alloc (Below.refl _ _) _)
  · rw [cell_of_row _ _ _ _ _ _ hnew]; rfl
  · rw [cell_of_row _ _ _ _ _ _ hnew]; rfl
  · rw [cell_of_row _ _ _ _ _ _ hnew]; rfl
  · have := own_lt hq.own i hi
    omega

theorem set_keep {w : World} {b i c j : Nat} {u v : Value} (h : w.cell? ⟨c, j, none⟩ = some v) (hne : c ≠ b ∨ j ≠ i) : (w.setCell ⟨b, i, none⟩ u).cell? ⟨c, j, none⟩ = some v := by
  by_cases e : c = b
  · subst e
    have hj : j ≠ i := hne.resolve_left (fun h => h rfl)
    simp only [World.cell?, World.setCell, Array.getElem?_modify] at *
    rcases hh : w.heap[c]? with _ | o
    · simp [hh] at h
    · cases o <;> simp_all [Ne.symm hj]
  · rw [World.cell?_setCell_far _ _ _ _ (fun e' => e e'.symm)]
    exact h
theorem four_one (a b c d : Int) : ∀ u ∈ [Value.int .i64 a, .int .i64 b, .int .i64 c, .int .i64 d], u.oneCell' = true := by
  intro u hu
  simp at hu
  rcases hu with rfl | rfl | rfl | rfl <;> rfl
theorem far_keep {W w3 : World} {o : Obj} {row : Option Nat} (hg : (W.drew.alloc o).grownBy w3 row) {p : Addr} {v : Value} (hc : W.cell? p = some v) (hlt : p.block < W.heap.size) (hne : some p.block ≠ row) : w3.cell? p = some v := by
  rw [hg.cell_far p (by simp; omega) hne, World.cell?_of_block (Below.heap_alloc W.drew o p.block hlt)]
  exact hc
theorem far_frozen {W w3 : World} {o : Obj} {row : Option Nat} (hg : (W.drew.alloc o).grownBy w3 row) {p : Addr} (hc : W.frozen? p = false) (hlt : p.block < W.heap.size) (hne : some p.block ≠ row) : w3.frozen? p = false := by
  rw [hg.frozen_far p (by simp; omega) hne, World.frozen?_of_block (Below.heap_alloc W.drew o p.block hlt)]
  exact hc

theorem itCells_append (l m : List It) : itCells (l ++ m) = itCells l ++ itCells m := by simp [itCells]
theorem putOut {W w3 : World} {base b H g cap' : Nat} {A : Option Addr} {len cap : Nat} {l : List It} {m : Nat} {e0 e1 e2 : Int} {o : Obj} (hp : PutIn W base b H A len cap l m e0 e1 e2)
    (hown : w3.ownsRow base 93 4 (.slice (some ⟨g, 0, none⟩) (len + 1) cap') (len + 1) (itCells l ++ [.int .i64 e0, .int .i64 e1, .int .i64 e2, .int .i64 m]))
    (hg : (W.drew.alloc o).grownBy w3 (Value.slice A len cap).ownBlock) (hat3 : (Value.slice A len cap).ownBlock = some g ∨ g = W.heap.size + 1) :
    QIn (w3.setCell ⟨b, 0, none⟩ (.slice (some ⟨g, 0, none⟩) (len + 1) cap')) base b (some ⟨g, 0, none⟩) (len + 1) cap' (l ++ [⟨e0, e1, e2, m⟩]) m ∧
    Kept (fun i => i = b ∨ (Value.slice A len cap).ownBlock = some i) W (w3.setCell ⟨b, 0, none⟩ (.slice (some ⟨g, 0, none⟩) (len + 1) cap')) ∧ g ≠ b := by
  have hs := hp.q.hs
  have hgb : g ≠ b := by
    rcases hat3 with h | h
    · exact hp.q.ne g h
    · omega
  have k1 : Kept (fun i => i = b ∨ (Value.slice A len cap).ownBlock = some i) W (W.drew.alloc o) := (Kept.drew _ W).trans (Kept.alloc _ _ o)
  have k2 : Kept (fun i => i = b ∨ (Value.slice A len cap).ownBlock = some i) (W.drew.alloc o) w3 := Kept.grown hg fun k h => .inr h
  have k3 : Kept (fun i => (Value.slice A len cap).ownBlock = some i) W w3 := ((Kept.drew _ W).trans (Kept.alloc _ _ o)).trans (Kept.grown hg fun k h => h)
  refine ⟨⟨?_, ?_, by rw [List.length_append, hp.q.ll]; rfl, hp.q.hb, fun k h => ?_⟩, (k1.trans k2).trans (Kept.setCell _ _ _ (.inl rfl)), hgb⟩
  · exact heap_setCell_same w3 b 0 _ _ _ (k3.row (fun h => hp.q.ne b h rfl) hp.q.blk)
  · rw [itCells_append]
    exact own_far hown (fun e => hgb (by injection e with e; exact e.symm)) _
  · injection h with h
    rw [← h]
    exact hgb

theorem itCells_get : ∀ (l : List It) (i j : Nat) (x : It), l[i]? = some x → j < 4 → (itCells l)[i * 4 + j]? = x.cells[j]?
  | [], i, j, x, h, _ => by simp at h
  | y :: l, 0, j, x, h, hj => by
    injection h with h
    subst h
    rw [itCells, List.flatMap_cons, List.getElem?_append_left (by simp [It.cells]; omega), Nat.zero_mul, Nat.zero_add]
  | y :: l, i + 1, j, x, h, hj => by
    rw [itCells, List.flatMap_cons, List.getElem?_append_right (by simp [It.cells]; omega), show (i + 1) * 4 + j - y.cells.length = i * 4 + j by simp [It.cells]; omega]
    exact itCells_get l i j x (by simpa using h) hj
theorem QIn.at_ {w : World} {base b g : Nat} {len cap : Nat} {l : List It} {n : Nat} (h : QIn w base b (some ⟨g, 0, none⟩) len cap l n) {i : Nat} {x : It} (hx : l[i]? = some x) :
    w.cell? ⟨g, i * 4, none⟩ = some (.int .i64 x.at_) ∧ w.cell? ⟨g, i * 4 + 1, none⟩ = some (.int .i64 x.rank) ∧ w.cell? ⟨g, i * 4 + 2, none⟩ = some (.int .i64 x.what) ∧ w.cell? ⟨g, i * 4 + 3, none⟩ = some (.int .i64 x.n) := by
  have hi : i < len := by rw [← h.ll]; exact (List.getElem?_eq_some_iff.1 hx).1
  have hc := fun j (hj : j < 4) => (h.own.cellAt (i * 4 + j) (by omega)).trans (itCells_get l i j x hx hj)
  exact ⟨hc 0 (by decide), hc 1 (by decide), hc 2 (by decide), hc 3 (by decide)⟩

theorem bkeep {w w1 : World} (h : Below w.heap.size w w1) {p : Addr} {v : Value} (hc : w.cell? p = some v) : w1.cell? p = some v := by
  have hlt : p.block < w.heap.size := by
    rcases Nat.lt_or_ge p.block w.heap.size with h | h
    · exact h
    · simp [World.cell?, Array.getElem?_eq_none h] at hc
  rw [h.cell hlt]; exact hc

theorem QIn.below {w w1 : World} {base b : Nat} {A : Option Addr} {len cap : Nat} {l : List It} {n : Nat} (h : QIn w base b A len cap l n) (hb : Below w.heap.size w w1) : QIn w1 base b A len cap l n :=
  ⟨by rw [hb.block b h.hs]; exact h.blk, own_below h.own hb, h.ll, h.hb, h.ne⟩

theorem itCells_set : ∀ (l : List It) (i : Nat) (x : It), itCells (l.set i x) = ((((itCells l).set (i * 4) (.int .i64 x.at_)).set (i * 4 + 1) (.int .i64 x.rank)).set (i * 4 + 2) (.int .i64 x.what)).set (i * 4 + 3) (.int .i64 x.n)
  | [], i, x => by simp [itCells]
  | y :: l, 0, x => rfl
  | y :: l, i + 1, x => by
    have ih := itCells_set l i x
    rw [show (i + 1) * 4 = i * 4 + 4 by omega]
    show Value.int .i64 y.at_ :: Value.int .i64 y.rank :: Value.int .i64 y.what :: Value.int .i64 y.n :: itCells (l.set i x) = Value.int .i64 y.at_ :: Value.int .i64 y.rank :: Value.int .i64 y.what :: Value.int .i64 y.n :: ((((itCells l).set (i * 4) (.int .i64 x.at_)).set (i * 4 + 1) (.int .i64 x.rank)).set (i * 4 + 2) (.int .i64 x.what)).set (i * 4 + 3) (.int .i64 x.n)
    rw [ih]
/-- An item stored. -/
def putIt (w : World) (g i : Nat) (x : It) : World := (((w.setCell ⟨g, i * 4, none⟩ (.int .i64 x.at_)).setCell ⟨g, i * 4 + 1, none⟩ (.int .i64 x.rank)).setCell ⟨g, i * 4 + 2, none⟩ (.int .i64 x.what)).setCell ⟨g, i * 4 + 3, none⟩ (.int .i64 x.n)
theorem QIn.put {w : World} {base b g : Nat} {len cap : Nat} {l : List It} {n : Nat} (h : QIn w base b (some ⟨g, 0, none⟩) len cap l n) (i : Nat) (x : It) : QIn (putIt w g i x) base b (some ⟨g, 0, none⟩) len cap (l.set i x) n := by
  have hgb : b ≠ g := fun e => h.ne g rfl e.symm
  refine ⟨?_, ?_, by rw [List.length_set]; exact h.ll, h.hb, h.ne⟩
  · unfold putIt
    rw [Below.heap_setCell _ _ _ _ hgb, Below.heap_setCell _ _ _ _ hgb, Below.heap_setCell _ _ _ _ hgb, Below.heap_setCell _ _ _ _ hgb]
    exact h.blk
  · rw [itCells_set]
    exact ((((h.own.stored _ _).1.stored _ _).1.stored _ _).1.stored _ _).1
theorem Kept.put {S : Nat → Prop} (w : World) (g i : Nat) (x : It) (h : S g) : Kept S w (putIt w g i x) :=
  (((Kept.setCell w _ _ h).trans (Kept.setCell _ _ _ h)).trans (Kept.setCell _ _ _ h)).trans (Kept.setCell _ _ _ h)
theorem QIn.drew {w : World} {base b : Nat} {A : Option Addr} {len cap : Nat} {l : List It} {n : Nat} (h : QIn w base b A len cap l n) : QIn w.drew base b A len cap l n := h.below (Below.refl _ _).drew

/-- Up the heap. -/
def siftUp (l : List It) (i : Nat) : List It :=
  if _ : 0 < i then
    match l[i]?, l[(i - 1) / 2]? with
    | some x, some y => if ahead x y then siftUp ((l.set i y).set ((i - 1) / 2) x) ((i - 1) / 2) else l
    | _, _ => l
  else l
  termination_by i
  decreasing_by omega

theorem siftUp_zero (l : List It) : siftUp l 0 = l := by rw [siftUp]; simp
theorem siftUp_stop {l : List It} {i u : Nat} {x y : It} (hi : 0 < i) (hu : u = (i - 1) / 2) (hx : l[i]? = some x) (hy : l[u]? = some y) (hc : ahead x y = false) : siftUp l i = l := by
  subst hu
  rw [siftUp, dif_pos hi, hx, hy]
  simp [hc]
theorem siftUp_step {l : List It} {i u : Nat} {x y : It} (hi : 0 < i) (hu : u = (i - 1) / 2) (hx : l[i]? = some x) (hy : l[u]? = some y) (hc : ahead x y = true) : siftUp l i = siftUp ((l.set i y).set u x) u := by
  subst hu
  rw [siftUp, dif_pos hi, hx, hy]
  simp [hc]

set_option maxRecDepth 100000 in
set_option maxHeartbeats 4000000 in
theorem put_any (base b : Nat) (A : Option Addr) (len cap : Nat) (l : List It) (n : Nat) (e0 e1 e2 : Int) (w : World) (hq : QIn w base b A len cap l n) (hn : n ≤ 1000000) (hl : len < 4096) :
    Calls Try.prog 15 #[.pointer (some ⟨b, 0, none⟩), .agg #[.int .i64 e0, .int .i64 e1, .int .i64 e2]] w fun e w' => e = .returned .nilIface ∧
      ∃ A' cap', QIn w' base b A' (len + 1) cap' (siftUp (l ++ [⟨e0, e1, e2, ((n + 1 : Nat) : Int)⟩]) len) (n + 1) ∧ Kept (fun i => i = b ∨ (Value.slice A len cap).ownBlock = some i) w w' ∧
        ∀ k, (Value.slice A' (len + 1) cap').ownBlock = some k → (Value.slice A len cap).ownBlock = some k ∨ w.heap.size ≤ k := by
  have c0 := hq.c0
  have c1 := hq.c1
  have f1 := hq.fr 1
  have hs := hq.hs
  have HP := Hidd.mk (putIn hq e0 e1 e2 28)
  have HK : Hidd (Kept (· = b) w ((w.setCell ⟨b, 1, none⟩ (.int .i64 ((n + 1 : Nat) : Int))).alloc (.cells #[.int .i64 e0, .int .i64 e1, .int .i64 e2] 28))) := ⟨(Kept.setCell (S := (· = b)) w ⟨b, 1, none⟩ _ rfl).trans (Kept.alloc _ _ _)⟩
  have hq := Hidd.mk hq
  have hl2 : decide ((4096 : Int) ≤ (len : Int)) = false := by simp; omega
  go_enter Try.func15, Try.ntmps15
  go_wp2
  rw [show ((n : Int) + 1) = ((n + 1 : Nat) : Int) from rfl]
  generalize hW : ((w.setCell ⟨b, 1, none⟩ (.int .i64 ((n + 1 : Nat) : Int))).alloc (.cells #[.int .i64 e0, .int .i64 e1, .int .i64 e2] 28)) = W at HP HK ⊢
  clear hW c0 c1 f1 hs
  obtain ⟨H, hH⟩ : ∃ H, w.heap.size = H := ⟨_, rfl⟩
  obtain ⟨m, hm⟩ : ∃ m, n + 1 = m := ⟨_, rfl⟩
  rw [hm, hH] at HP
  rw [hm, hH]
  obtain ⟨i0, hi0⟩ := info_parts info_item
  replace hi0 := Hidd.mk hi0
  have c0 := HP.out.q.c0
  have c1 := HP.out.q.c1
  have f0 := HP.out.q.fr 0
  have hb0 := HP.out.q.hs
  obtain ⟨x0, x1, x2⟩ : _ ∧ _ ∧ _ := ⟨HP.out.x0, HP.out.x1, HP.out.x2⟩
  have hs' := Hidd.mk HP.out.hs
  have hHk : H < W.heap.size := by rw [hs'.out]; omega
  have hbH : b < H := by rw [← hH]; exact hq.out.hs
  have hnb : some b ≠ (Value.slice A len cap).ownBlock := fun e => HP.out.q.ne b e.symm rfl
  have hnh : some H ≠ (Value.slice A len cap).ownBlock := fun e => HP.out.k H e.symm rfl
  obtain ⟨T, hT⟩ : ∃ T : Nat → Prop, T = fun i => (Value.slice A len cap).ownBlock = some i := ⟨_, rfl⟩
  have hTb : ¬ T b := by rw [hT]; exact fun e => hnb e.symm
  have hTH : ¬ T H := by rw [hT]; exact fun e => hnh e.symm
  replace hT := Hidd.mk hT
  obtain ⟨W0, hW0⟩ : ∃ zz, zz = World.drew W := ⟨_, rfl⟩
  refine wp_region_mix (fun zz => Kept T W zz) [0, 1, 2, 3, 4, 5, 6, 7, 8, 9, 10] [(11, true), (12, true), (13, false), (14, false), (15, false)] (by kernel_rfl) (by kernel_rfl) (Kept.drew _ _) ?_
  rw [show ({ W with drawn := W.drawn + 1 } : World) = W0 from hW0.symm]
  replace hW0 := Hidd.mk hW0
  simp only [List.map_cons, List.map_nil, List.getD_cons_succ, List.getD_cons_zero]
  have hkW0 : Hidd (Kept T W W0) := ⟨by rw [hW0.out]; exact Kept.drew _ _⟩
  repeat (first | (refine StQ.skip (by rfl) ?_; simp only [Act.put, List.setIfInBounds_toArray, List.set_cons_zero, List.set_cons_succ]) | (refine StQ.go' (by rfl) (Exists.intro ?_ (And.intro (fun w' hS => ?_) ?_)); rotate_left; (focus (have hc := Kept.cellAt hS; go_simp; try with_reducible rfl)); simp only [Act.put, List.setIfInBounds_toArray, List.set_cons_zero, List.set_cons_succ]))
  refine StQ.nil ?_
  refine TlF.go (by rfl) (fun K hK => ?_); go_simp; refine hK.out _ _ (fun _ => hkW0.out.trans (Kept.alloc _ _ _)) ?_; clear hK K
  have hnews : ∀ j u, [Value.int .i64 e0, .int .i64 e1, .int .i64 e2, .int .i64 (m : Int)][j]? = some u → (W0.alloc (.cells #[.int .i64 e0, .int .i64 e1, .int .i64 e2, .int .i64 (m : Int)] 93)).cell? ((⟨W0.heap.size, 0, none⟩ : Addr).add j) = some u := World.news_of_block (heap_alloc_new W0 _)
  have hrow : (W0.alloc (.cells #[.int .i64 e0, .int .i64 e1, .int .i64 e2, .int .i64 (m : Int)] 93)).ownsRow base 93 4 (.slice A len cap) len (itCells l) := by rw [hW0.out]; exact own_below HP.out.q.own (below_alloc (Below.refl _ _).drew _)
  have hsz0 : W0.heap.size = W.heap.size := by rw [hW0.out]; rfl
  refine TlF.go (by rfl) (fun K hK => ?_)
  refine wp_append_lies _ (.tmp 30) (.tmp 37) 88 (by rfl) base 93 i0 (.agg #[.int .i64 0, .int .i64 0, .int .i64 0, .int .i64 0]) 4 32 Try.underlying88 hi0.out.1 hi0.out.2.1 hi0.out.2.2.1 hi0.out.2.2.2 (by rfl) (by decide) (.slice A len cap) len (itCells l) (by rfl) hrow ⟨W0.heap.size, 0, none⟩ 1 1 [.int .i64 e0, .int .i64 e1, .int .i64 e2, .int .i64 (m : Int)] (by rfl) rfl hnews (four_one e0 e1 e2 m) (by decide) (by unfold maxLen; omega) (by omega) (by simp; have := HP.out.q.hb; omega) (W.heap.size + 1) (by simp [hsz0]) ?_
  intro g cap' w3 hown3 hgrow3 hat3 hlt3
  refine hK.out _ _ (fun _ => (hkW0.out.trans (Kept.alloc _ _ _)).trans (Kept.grown hgrow3 fun k h => by rw [hT.out]; exact h)) ?_
  clear hK K hnews hrow
  rw [hW0.out] at hgrow3
  have k0 := far_keep hgrow3 c0 hb0 hnb
  have hf0 : w3.frozen? ⟨b, 0, none⟩ = false := far_frozen hgrow3 f0 hb0 hnb
  replace hown3 := Hidd.mk hown3
  replace hgrow3 := Hidd.mk hgrow3
  replace hat3 := Hidd.mk hat3
  refine TlF.go (by rfl) (fun K hK => ?_); go_simp; refine hK.out _ _ (by intro h; cases h) ?_; clear hK K
  refine TlF.go (by rfl) (fun K hK => ?_); go_simp; refine hK.out _ _ (by intro h; cases h) ?_; clear hK K
  refine TlF.go (by rfl) (fun K hK => ?_); go_simp; refine hK.out _ _ (by intro h; cases h) ?_; clear hK K
  refine TlF.nil (Calm.normal ?_)
  all_goals
    obtain ⟨hq4, hk4, hgb⟩ := putOut HP.out hown3.out hgrow3.out hat3.out
    replace hk4 : Hidd (Kept (fun i => i = b ∨ (Value.slice A len cap).ownBlock = some i) w (w3.setCell ⟨b, 0, none⟩ (.slice (some ⟨g, 0, none⟩) (len + 1) cap'))) := ⟨Kept.trans (Kept.weak HK.out (fun i h => .inl h)) hk4⟩
    replace hq4 := Hidd.mk hq4
    have hat4 : Hidd (∀ i, i < w.heap.size → i = b ∨ i = g → i = b ∨ (Value.slice A len cap).ownBlock = some i) := ⟨by
      intro i hi h
      rcases h with h | h
      · exact .inl h
      · rcases hat3.out with e | e
        · exact .inr (by rw [e, h])
        · have := HK.out.size; omega⟩
    have hnew4 : Hidd (∀ k, (Value.slice (some ⟨g, 0, none⟩) (len + 1) cap').ownBlock = some k → (Value.slice A len cap).ownBlock = some k ∨ w.heap.size ≤ k) := ⟨by
      intro k hk
      injection hk with hk
      subst hk
      rcases hat3.out with e | e
      · exact .inl e
      · have := HK.out.size; exact .inr (by show w.heap.size ≤ g; omega)⟩
    generalize hW4 : w3.setCell ⟨b, 0, none⟩ (.slice (some ⟨g, 0, none⟩) (len + 1) cap') = W4 at hq4 hk4 ⊢
    clear hW4 hown3 hgrow3 hat3 hf0 hlt3 HP HK c0 c1 f0 hb0 x0 x1 x2 hs' hHk hnb hnh hi0 k0 hsz0 hTb hTH hkW0 hW0
    have c0 := hq4.out.c0
    go_wp2
    go_loopw [5] (fun v5 wr => ∃ (i : Nat) (l' : List It), v5 = .int .i64 i ∧ i ≤ len ∧ Hidd (QIn wr base b (some ⟨g, 0, none⟩) (len + 1) cap' l' m) ∧ Hidd (siftUp l' i = siftUp (l ++ [⟨e0, e1, e2, m⟩]) len) ∧ Hidd (Kept (fun i => i = b ∨ (Value.slice A len cap).ownBlock = some i) w wr)) (fun v5 _ => (intOf v5).toNat)
    case atStart => exact ⟨len, _, by go_num, Nat.le_refl _, hq4, ⟨rfl⟩, hk4⟩
    case round =>
      clear hq4 hk4 c0
      obtain ⟨i, l', rfl, hi, hq5, hs5, hk5⟩ := hrel
      by_cases hi0 : 0 < i
      · obtain ⟨u, hu⟩ : ∃ u, u = (i - 1) / 2 := ⟨_, rfl⟩
        have hu2 : ((i : Int) - 1) / 2 = u := by omega
        have hu3 : u < i := by omega
        replace hu := Hidd.mk hu
        have hll := Hidd.mk hq5.out.ll
        obtain ⟨x, hx⟩ : ∃ x, l'[i]? = some x := ⟨_, List.getElem?_eq_getElem (by rw [hll.out]; omega)⟩
        obtain ⟨y, hy⟩ : ∃ x, l'[u]? = some x := ⟨_, List.getElem?_eq_getElem (by rw [hll.out]; omega)⟩
        obtain ⟨q0, q1, q2, q3⟩ := x
        obtain ⟨r0, r1, r2, r3⟩ := y
        replace hx := Hidd.mk hx
        replace hy := Hidd.mk hy
        obtain ⟨c, hc⟩ : ∃ c, ahead ⟨q0, q1, q2, q3⟩ ⟨r0, r1, r2, r3⟩ = c := ⟨_, rfl⟩
        replace hc := Hidd.mk hc
        have bi0 : (0 : Int) ≤ (i : Int) := by omega
        have bi1 : (i : Int) < (len : Int) + 1 := by omega
        have bu0 : (0 : Int) ≤ (u : Int) := by omega
        have bu1 : (u : Int) < (len : Int) + 1 := by omega
        go_wp2
        cases c
        all_goals
          obtain ⟨wy, hwy⟩ : ∃ zz, zz = World.drew wr := ⟨_, rfl⟩
          refine wp_region_still_tail 14 (by kernel_rfl) (by kernel_rfl) (StW.out ?_)
          rw [show ({ wr with drawn := wr.drawn + 1 } : World) = wy from hwy.symm]
          replace hwy := Hidd.mk hwy
          simp only [List.take_succ_cons, List.take_zero, List.drop_succ_cons, List.drop_zero]
          have hq5' : Hidd (QIn wy base b (some ⟨g, 0, none⟩) (len + 1) cap' l' m) := ⟨by rw [hwy.out]; exact hq5.out.drew⟩
          have hk5' : Hidd (Kept (fun i => i = b ∨ (Value.slice A len cap).ownBlock = some i) w wy) := ⟨by rw [hwy.out]; exact hk5.out.trans (Kept.drew _ _)⟩
          obtain ⟨x0, x1, x2, x3⟩ := hq5'.out.at_ hx.out
          obtain ⟨y0, y1, y2, y3⟩ := hq5'.out.at_ hy.out
          have c0 := hq5'.out.c0
          simp only at x0 x1 x2 x3 y0 y1 y2 y3
          repeat (refine StW.go (by rfl) (fun K hK => ?_); go_simp; refine hK.out _ ?_; clear hK K)
          refine StW.nil ?_
          clear hq5 hk5
          go_wp2_with (go_at_call 40; refine (ahead_any q0 q1 q2 q3 r0 r1 r2 r3 _ _ hc.out).mono ?_; rintro e w5 ⟨rfl, hb5⟩)
          have hq6 : Hidd (QIn w5 base b (some ⟨g, 0, none⟩) (len + 1) cap' l' m) := ⟨hq5'.out.below hb5⟩
          have hk6 : Hidd (Kept (fun i => i = b ∨ (Value.slice A len cap).ownBlock = some i) w w5) := ⟨hk5'.out.trans (Kept.below hb5)⟩
          clear c0 x0 x1 x2 x3 y0 y1 y2 y3 hb5
          first
          | (go_ret
             rw [siftUp_stop hi0 hu.out hx.out hy.out hc.out] at hs5
             exact ⟨rfl, _, _, by rw [hm, ← hs5.out]; exact hq6.out, hk6.out, hnew4.out⟩)
          | skip
        obtain ⟨wz, hwz⟩ : ∃ zz, zz = World.drew w5 := ⟨_, rfl⟩
        refine wp_region_order [9] [0, 1, 2, 3, 4, 5, 6, 7, 8, 10, 11, 12, 13, 14, 15, 16, 17, 18, 19, 20, 21, 22, 23, 24] [25, 26, 27] (by kernel_rfl) (by kernel_rfl) ?_
        rw [show ({ w5 with drawn := w5.drawn + 1 } : World) = wz from hwz.symm]
        replace hwz := Hidd.mk hwz
        simp only [List.map_cons, List.map_nil, List.getD_cons_succ, List.getD_cons_zero]
        have hq7 : Hidd (QIn wz base b (some ⟨g, 0, none⟩) (len + 1) cap' l' m) := ⟨by rw [hwz.out]; exact hq6.out.drew⟩
        have hk7 : Hidd (Kept (fun i => i = b ∨ (Value.slice A len cap).ownBlock = some i) w wz) := ⟨by rw [hwz.out]; exact hk6.out.trans (Kept.drew _ _)⟩
        clear hq5' hk5' hq6 hk6
        obtain ⟨x0, x1, x2, x3⟩ := hq7.out.at_ hx.out
        obtain ⟨y0, y1, y2, y3⟩ := hq7.out.at_ hy.out
        have c0 := hq7.out.c0
        simp only at x0 x1 x2 x3 y0 y1 y2 y3
        have fx0 := hq7.out.own.frozenAt (i * 4)
        have fx1 := hq7.out.own.frozenAt (i * 4 + 1)
        have fx2 := hq7.out.own.frozenAt (i * 4 + 2)
        have fx3 := hq7.out.own.frozenAt (i * 4 + 3)
        have fy0 := hq7.out.own.frozenAt (u * 4)
        have fy1 := hq7.out.own.frozenAt (u * 4 + 1)
        have fy2 := hq7.out.own.frozenAt (u * 4 + 2)
        have fy3 := hq7.out.own.frozenAt (u * 4 + 3)
        have hlt := hu3
        repeat (refine StW.go (by rfl) (fun K hK => ?_); go_simp; refine hK.out _ ?_; clear hK K)
        refine StW.nil ?_
        show StW _ _ _ _ _ _
        repeat (refine StW.go (by rfl) (fun K hK => ?_); go_simp; refine hK.out _ ?_; clear hK K)
        refine StW.nil ?_
        clear hwy hwz hgb
        go_wp2
        refine Calm.normal ?_
        go_wp2
        go_roundw
        case rel =>
          have hq8 := Hidd.mk ((hq7.out.put i ⟨r0, r1, r2, r3⟩).put u ⟨q0, q1, q2, q3⟩)
          have hk8 := Hidd.mk (hk7.out.trans' (T := (· = g)) ((Kept.put (S := (· = g)) wz g i ⟨r0, r1, r2, r3⟩ rfl).trans (Kept.put (S := (· = g)) _ g u ⟨q0, q1, q2, q3⟩ rfl)) (fun i hi h => hat4.out i hi (.inr h)))
          exact ⟨u, _, rfl, by omega, hq8, ⟨(siftUp_step hi0 hu.out hx.out hy.out hc.out).symm.trans hs5.out⟩, hk8⟩
        case measure => simp [intOf]; omega
      · obtain rfl : i = 0 := by omega
        go_wp2
        go_ret
        rw [siftUp_zero] at hs5
        exact ⟨rfl, _, _, by rw [hm, ← hs5.out]; exact hq5.out, hk5.out, hnew4.out⟩
end Go.Proofs.Ytjejkmnlkmcckaa
