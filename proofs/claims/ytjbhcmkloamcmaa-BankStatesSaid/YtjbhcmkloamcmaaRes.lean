/- Things in memory: which blocks they lie in, what holds of them; what a call may change. -/
import Derived.Test.YtjbhcmkloamcmaaBase
import Derived.StillTailTactics
import Derived.StillTactics
namespace Go.Proofs.Ytjbhcmkloamcmaa
open Go.RowKit

theorem own_far {w : World} {base : Nat} {e : TypeId} {size n : Nat} {v : Value} {xs : List Value} (h : w.ownsRow base e size v n xs) {p : Addr} (hne : some p.block ≠ v.ownBlock) (u : Value) : (w.setCell p u).ownsRow base e size v n xs := by
  obtain ⟨h1, h2⟩ := h
  refine ⟨h1, ?_⟩
  rcases h2 with h2 | ⟨g, cap, cur, rfl, hg, hh, r⟩
  · exact .inl h2
  · exact .inr ⟨g, cap, cur, rfl, hg, by rw [Below.heap_setCell _ _ _ _ (fun e => hne (by rw [e]; rfl))]; exact hh, r⟩

/-- An own row with an element begins at the head of a block. -/
theorem own_head {w : World} {base : Nat} {e : TypeId} {n c : Nat} {A : Option Addr} {xs : List Value} (h : w.ownsRow base e 1 (.slice A n c) n xs) (hn : 0 < n) : ∃ g, A = some ⟨g, 0, none⟩ ∧ base ≤ g ∧ g < w.heap.size := by
  rcases h.2 with ⟨h', h0⟩ | ⟨g', cap', cur, h', hb, hg, _⟩
  · omega
  · injection h' with h1 _ _
    exact ⟨g', h1, hb, (Array.getElem?_eq_some_iff.1 hg).1⟩

theorem own_cells {w : World} {base : Nat} {e : TypeId} {size n c : Nat} {A : Option Addr} {xs : List Value} (h : w.ownsRow base e size (.slice A n c) n xs) : Cells w A xs := by
  obtain ⟨A', c', e1, _, _, h4⟩ := Cells.of_own h
  injection e1 with e1
  rw [e1]
  exact h4

/-- What a call leaves as it was: all blocks that were there but those of S. -/
structure Kept (S : Nat → Prop) (w w' : World) : Prop where
  os : w'.os = w.os
  tape : w'.tape = w.tape
  output : w'.output = w.output
  size : w.heap.size ≤ w'.heap.size
  block : ∀ i, i < w.heap.size → ¬ S i → w'.heap[i]? = w.heap[i]?
theorem Kept.refl (S : Nat → Prop) (w : World) : Kept S w w := ⟨rfl, rfl, rfl, Nat.le_refl _, fun _ _ _ => rfl⟩
theorem Kept.trans {S : Nat → Prop} {w w1 w2 : World} (h : Kept S w w1) (k : Kept S w1 w2) : Kept S w w2 :=
  ⟨k.os.trans h.os, k.tape.trans h.tape, k.output.trans h.output, Nat.le_trans h.size k.size, fun i hi hs => (k.block i (Nat.lt_of_lt_of_le hi h.size) hs).trans (h.block i hi hs)⟩
/-- Blocks that are laid between may be turned too. -/
theorem Kept.trans' {S T : Nat → Prop} {w w1 w2 : World} (h : Kept S w w1) (k : Kept T w1 w2) (ht : ∀ i, i < w.heap.size → T i → S i) : Kept S w w2 :=
  ⟨k.os.trans h.os, k.tape.trans h.tape, k.output.trans h.output, Nat.le_trans h.size k.size, fun i hi hs => (k.block i (Nat.lt_of_lt_of_le hi h.size) (fun t => hs (ht i hi t))).trans (h.block i hi hs)⟩
theorem Kept.weak {S T : Nat → Prop} {w w1 : World} (h : Kept S w w1) (ht : ∀ i, S i → T i) : Kept T w w1 := ⟨h.os, h.tape, h.output, h.size, fun i hi hs => h.block i hi (fun s => hs (ht i s))⟩
theorem Kept.below {S : Nat → Prop} {w w1 : World} (h : Below w.heap.size w w1) : Kept S w w1 := ⟨h.os, h.tape, h.output, h.size, fun i hi _ => h.block i hi⟩
theorem Kept.grown {S : Nat → Prop} {w w1 : World} {r : Option Nat} (h : w.grownBy w1 r) (hr : ∀ k, r = some k → S k) : Kept S w w1 :=
  ⟨h.os, h.tape, h.output, h.size, fun i hi hs => h.block i hi (fun e => hs (hr i e.symm))⟩
theorem Kept.alloc (S : Nat → Prop) (w : World) (o : Obj) : Kept S w (w.alloc o) := Kept.below (below_alloc (Below.refl _ _) o)
theorem Kept.drew (S : Nat → Prop) (w : World) : Kept S w w.drew := Kept.below (Below.refl _ _).drew
theorem Kept.setCell {S : Nat → Prop} (w : World) (p : Addr) (v : Value) (h : S p.block) : Kept S w (w.setCell p v) :=
  ⟨rfl, rfl, rfl, by simp [World.setCell], fun i _ hs => Below.heap_setCell _ _ _ _ (fun e => hs (by rw [e]; exact h))⟩
theorem Kept.row {S : Nat → Prop} {w w1 : World} (h : Kept S w w1) {i : Nat} {o : Obj} (hs : ¬ S i) (ho : w.heap[i]? = some o) : w1.heap[i]? = some o := by
  rw [h.block i (Array.getElem?_eq_some_iff.1 ho).1 hs]; exact ho
theorem Kept.cells {S : Nat → Prop} {w w1 : World} (h : Kept S w w1) {p : Addr} {v : Value} (hs : ¬ S p.block) (hc : w.cell? p = some v) : w1.cell? p = some v := by
  have hlt : p.block < w.heap.size := by
    rcases Nat.lt_or_ge p.block w.heap.size with h | h
    · exact h
    · simp [World.cell?, Array.getElem?_eq_none h] at hc
  rw [World.cell?_of_block (h.block p.block hlt hs)]; exact hc


theorem Kept.to_below {S : Nat → Prop} {w w1 : World} (h : Kept S w w1) (hS : ∀ i, S i → w.heap.size ≤ i) : Below w.heap.size w w1 :=
  ⟨h.os, h.tape, h.output, h.size, fun i hi => h.block i hi (fun s => absurd (hS i s) (Nat.not_le.2 hi))⟩
theorem Kept.none {S : Nat → Prop} {w w1 : World} (h : Kept S w w1) (hS : ∀ i, ¬ S i) : Below w.heap.size w w1 := h.to_below fun i s => absurd s (hS i)

/-- A thing in memory. -/
structure Res where
  foot : Nat → Prop
  holds : World → Prop
  lt : ∀ w, holds w → ∀ i, foot i → i < w.heap.size
  loc : ∀ w w', holds w → (∀ i, foot i → w'.heap[i]? = w.heap[i]?) → holds w'
/-- A block whose cells are known. -/
def blk (b : Nat) (o : Obj) : Res := ⟨(· = b), fun w => w.heap[b]? = some o, fun _ h i e => by subst e; exact (Array.getElem?_eq_some_iff.1 h).1, fun _ _ h k => (k b rfl).trans h⟩
theorem ownsRow_loc {w w' : World} {base : Nat} {e : TypeId} {size n : Nat} {v : Value} {xs : List Value} (h : w.ownsRow base e size v n xs) (k : ∀ i, v.ownBlock = some i → w'.heap[i]? = w.heap[i]?) : w'.ownsRow base e size v n xs := by
  obtain ⟨h1, h2⟩ := h
  refine ⟨h1, ?_⟩
  rcases h2 with h2 | ⟨g, cap, cur, rfl, hg, hh, r⟩
  · exact .inl h2
  · exact .inr ⟨g, cap, cur, rfl, hg, by rw [k g rfl]; exact hh, r⟩
/-- A slice of the call's own. -/
def row (e : TypeId) (size : Nat) (v : Value) (n : Nat) (xs : List Value) : Res :=
  ⟨fun i => v.ownBlock = some i, fun w => w.ownsRow 0 e size v n xs, fun _ h i hi => (h.lt i hi).2, fun _ _ h k => ownsRow_loc h k⟩

/-- From w0 we have come to w; of w0's blocks only S may differ; L is what is there now. -/
structure Own (w0 : World) (S : Nat → Prop) (w : World) (L : List Res) : Prop where
  kept : Kept S w0 w
  has : ∀ r ∈ L, r.holds w
  sep : L.Pairwise (fun r s => ∀ i, r.foot i → ¬ s.foot i)
  own : ∀ r ∈ L, ∀ i, r.foot i → S i ∨ w0.heap.size ≤ i

section
variable {w0 w w' : World} {S : Nat → Prop} {L : List Res} {r r' : Res}
theorem Own.nil (w : World) (S : Nat → Prop) : Own w S w [] := ⟨Kept.refl _ _, by simp, List.Pairwise.nil, by simp⟩
theorem Own.one (h : r.holds w) : Own w r.foot w [r] := ⟨Kept.refl _ _, by simpa using h, by simp, by simpa using fun i hi => Or.inl hi⟩
theorem Own.get (h : Own w0 S w L) (k : Nat) (hk : L[k]? = some r) : r.holds w := h.has r (List.mem_of_getElem? hk)
theorem Own.apart (h : Own w0 S w L) (j k : Nat) {s : Res} (hj : L[j]? = some r) (hk : L[k]? = some s) (hjk : j < k) : ∀ i, r.foot i → ¬ s.foot i := by
  obtain ⟨h1, rfl⟩ := List.getElem?_eq_some_iff.1 hj
  obtain ⟨h2, rfl⟩ := List.getElem?_eq_some_iff.1 hk
  exact List.pairwise_iff_getElem.1 h.sep j k h1 h2 hjk
theorem Own.apart' (h : Own w0 S w L) (j k : Nat) {s : Res} (hj : L[j]? = some r) (hk : L[k]? = some s) (hjk : j ≠ k) : ∀ i, r.foot i → ¬ s.foot i := by
  rcases Nat.lt_or_gt_of_ne hjk with h' | h'
  · exact h.apart j k hj hk h'
  · exact fun i hi hs => h.apart k j hk hj h' i hs hi
theorem mem_set {α : Type} {l : List α} {k : Nat} {x y : α} (h : y ∈ l.set k x) : y = x ∨ ∃ j, j ≠ k ∧ l[j]? = some y := by
  obtain ⟨j, hj, e⟩ := List.getElem_of_mem h
  rw [List.length_set] at hj
  by_cases hjk : j = k
  · subst hjk; left; rw [← e]; simp
  · right; exact ⟨j, hjk, by rw [← e, List.getElem_set_ne (Ne.symm hjk)]; exact List.getElem?_eq_getElem hj⟩
/-- One thing is changed; new blocks may come. -/
theorem Own.step (h : Own w0 S w L) (k : Nat) (hk : L[k]? = some r) (r' : Res) (hK : Kept r.foot w w') (hr : r'.holds w') (hf : ∀ i, r'.foot i → r.foot i ∨ w.heap.size ≤ i) : Own w0 S w' (L.set k r') := by
  have hlt : ∀ s ∈ L, ∀ i, s.foot i → i < w.heap.size := fun s hs i hi => s.lt w (h.has s hs) i hi
  have hkm := List.mem_of_getElem? hk
  refine ⟨?_, ?_, ?_, ?_⟩
  · exact h.kept.trans' hK fun i hi hr' => (h.own r hkm i hr').resolve_right (by omega)
  · intro s hs
    rcases mem_set hs with rfl | ⟨j, hj, e⟩
    · exact hr
    · refine s.loc w w' (h.get j e) fun i hi => hK.block i (hlt s (List.mem_of_getElem? e) i hi) (h.apart' j k e hk hj i hi)
  · rw [List.pairwise_iff_getElem]
    intro i j hi hj hij x hx hy
    have hi' : i < L.length := by rw [List.length_set] at hi; exact hi
    have hj' : j < L.length := by rw [List.length_set] at hj; exact hj
    rw [List.getElem_set] at hx hy
    have hp : ∀ a b (ha : a < L.length) (hb : b < L.length), a ≠ b → ∀ x, L[a].foot x → ¬ L[b].foot x := fun a b ha hb hab => h.apart' a b (List.getElem?_eq_getElem ha) (List.getElem?_eq_getElem hb) hab
    have hkl : k < L.length := (List.getElem?_eq_some_iff.1 hk).1
    have hrk : L[k] = r := by rw [List.getElem?_eq_getElem hkl] at hk; injection hk
    split at hx
    · subst_vars
      rw [if_neg (by omega)] at hy
      rcases hf x hx with hx' | hx'
      · exact hp _ _ hkl hj' (by omega) x hx' hy
      · have := hlt _ (List.getElem_mem hj') x hy; omega
    · split at hy
      · subst_vars
        rcases hf x hy with hy' | hy'
        · exact hp _ _ hi' hkl (by omega) x hx hy'
        · have := hlt _ (List.getElem_mem hi') x hx; omega
      · exact hp _ _ hi' hj' (by omega) x hx hy
  · intro s hs i hi
    rcases mem_set hs with rfl | ⟨j, hj, e⟩
    · rcases hf i hi with hi' | hi'
      · exact h.own r hkm i hi'
      · exact .inr (Nat.le_trans h.kept.size hi')
    · exact h.own s (List.mem_of_getElem? e) i hi
theorem Own.ext (h : Own w0 S w L) (hB : Below w.heap.size w w') : Own w0 S w' L :=
  ⟨h.kept.trans (Kept.below hB), fun s hs => s.loc w w' (h.has s hs) fun i hi => hB.block i (s.lt w (h.has s hs) i hi), h.sep, h.own⟩
theorem Own.new (h : Own w0 S w L) (r : Res) (hB : Below w.heap.size w w') (hr : r.holds w') (hf : ∀ i, r.foot i → w.heap.size ≤ i) : Own w0 S w' (r :: L) := by
  have h' := h.ext hB
  refine ⟨h'.kept, fun s hs => ?_, ?_, fun s hs i hi => ?_⟩
  · rcases List.mem_cons.1 hs with rfl | hs
    · exact hr
    · exact h'.has s hs
  · refine List.pairwise_cons.2 ⟨fun s hs i hi hi' => ?_, h.sep⟩
    have := s.lt w (h.has s hs) i hi'
    have := hf i hi
    omega
  · rcases List.mem_cons.1 hs with rfl | hs
    · exact .inr (Nat.le_trans h.kept.size (hf i hi))
    · exact h.own s hs i hi
theorem Own.alloc (h : Own w0 S w L) (o : Obj) : Own w0 S (w.alloc o) (blk w.heap.size o :: L) :=
  h.new _ (below_alloc (Below.refl _ _) _) (heap_alloc_new w o) fun _ hi => Nat.le_of_eq (Eq.symm hi)
theorem Own.drew (h : Own w0 S w L) : Own w0 S w.drew L := h.ext (Below.refl _ _).drew
theorem Own.set (h : Own w0 S w L) (k : Nat) {b : Nat} {cs : Array Value} {T : TypeId} (hk : L[k]? = some (blk b (.cells cs T (0, 0)))) (i : Nat) (v : Value) :
    Own w0 S (w.setCell ⟨b, i, none⟩ v) (L.set k (blk b (.cells (cs.setIfInBounds i v) T (0, 0)))) :=
  h.step k hk _ (Kept.setCell w ⟨b, i, none⟩ v rfl) (heap_setCell_same w b i cs T v (h.get k hk)) (fun _ hi => .inl hi)
theorem Own.cell (h : Own w0 S w L) (k : Nat) {b : Nat} {cs : Array Value} {T : TypeId} {fr : Nat × Nat} (hk : L[k]? = some (blk b (.cells cs T fr))) (i : Nat) : w.cell? ⟨b, i, none⟩ = cs[i]? := cell_of_row w b i cs T fr (h.get k hk)
theorem Own.lt (h : Own w0 S w L) (k : Nat) {b : Nat} {o : Obj} (hk : L[k]? = some (blk b o)) : b < w.heap.size := (Array.getElem?_eq_some_iff.1 (h.get k hk)).1
theorem Own.frozen (h : Own w0 S w L) (k : Nat) {b : Nat} {cs : Array Value} {T : TypeId} (hk : L[k]? = some (blk b (.cells cs T (0, 0)))) (i : Nat) : w.frozen? ⟨b, i, none⟩ = false := frozen_of_row w b i cs T (h.get k hk)
/-- A call of a contract in these words. -/
theorem Own.call (h : Own w0 S w L) (k : Nat) (hk : L[k]? = some r) (hc : Own w r.foot w' [r']) : Own w0 S w' (L.set k r') :=
  h.step k hk r' hc.kept (hc.has r' (by simp)) (hc.own r' (by simp))
/-- A call that makes something new. -/
theorem Own.made (h : Own w0 S w L) (hc : Own w (fun _ => False) w' [r]) : Own w0 S w' (r :: L) :=
  h.new r (hc.kept.none fun _ => id) (hc.has r (by simp)) fun i hi => (hc.own r (by simp) i hi).resolve_left id
theorem Own.perm {M : List Res} (h : Own w0 S w L) (hp : M.Perm L) : Own w0 S w M :=
  ⟨h.kept, fun r hr => h.has r (hp.mem_iff.1 hr), (hp.pairwise_iff (fun hab i hi hi' => hab i hi' hi)).2 h.sep, fun r hr => h.own r (hp.mem_iff.1 hr)⟩
theorem Own.sub {M : List Res} (h : Own w0 S w L) (hs : M.Sublist L) : Own w0 S w M :=
  ⟨h.kept, fun r hr => h.has r (hs.subset hr), h.sep.sublist hs, fun r hr => h.own r (hs.subset hr)⟩
theorem Own.tail (h : Own w0 S w (r :: L)) : Own w0 S w L := h.sub (List.sublist_cons_self _ _)
/-- The first thing is two. -/
theorem Own.split {r1 r2 : Res} (h : Own w0 S w (r :: L)) (h1 : r1.holds w) (h2 : r2.holds w) (f1 : ∀ i, r1.foot i → r.foot i) (f2 : ∀ i, r2.foot i → r.foot i) (h12 : ∀ i, r1.foot i → ¬ r2.foot i) : Own w0 S w (r1 :: r2 :: L) := by
  obtain ⟨a1, a2⟩ := List.pairwise_cons.1 h.sep
  refine ⟨h.kept, fun s hs => ?_, ?_, fun s hs i hi => ?_⟩
  · rcases List.mem_cons.1 hs with rfl | hs
    · exact h1
    · rcases List.mem_cons.1 hs with rfl | hs
      · exact h2
      · exact h.has s (List.mem_cons_of_mem _ hs)
  · refine List.pairwise_cons.2 ⟨fun s hs i hi => ?_, List.pairwise_cons.2 ⟨fun s hs i hi => a1 s hs i (f2 i hi), a2⟩⟩
    rcases List.mem_cons.1 hs with rfl | hs
    · exact h12 i hi
    · exact a1 s hs i (f1 i hi)
  · rcases List.mem_cons.1 hs with rfl | hs
    · exact h.own r (List.mem_cons_self ..) i (f1 i hi)
    · rcases List.mem_cons.1 hs with rfl | hs
      · exact h.own r (List.mem_cons_self ..) i (f2 i hi)
      · exact h.own s (List.mem_cons_of_mem _ hs) i hi
/-- The first two things are one. -/
theorem Own.join {r1 r2 : Res} (h : Own w0 S w (r1 :: r2 :: L)) (r : Res) (hr : r1.holds w → r2.holds w → (∀ i, r1.foot i → ¬ r2.foot i) → r.holds w) (f : ∀ i, r.foot i → r1.foot i ∨ r2.foot i) : Own w0 S w (r :: L) := by
  obtain ⟨a1, a2⟩ := List.pairwise_cons.1 h.sep
  obtain ⟨a3, a4⟩ := List.pairwise_cons.1 a2
  refine ⟨h.kept, fun s hs => ?_, List.pairwise_cons.2 ⟨fun s hs i hi => ?_, a4⟩, fun s hs i hi => ?_⟩
  · rcases List.mem_cons.1 hs with rfl | hs
    · exact hr (h.has _ (by simp)) (h.has _ (by simp)) (a1 r2 (by simp))
    · exact h.has s (by simp [hs])
  · rcases f i hi with h' | h'
    · exact a1 s (by simp [hs]) i h'
    · exact a3 s hs i h'
  · rcases List.mem_cons.1 hs with rfl | hs
    · rcases f i hi with h' | h'
      · exact h.own r1 (by simp) i h'
      · exact h.own r2 (by simp) i h'
    · exact h.own s (by simp [hs]) i hi
/-- Things that lie outside of S and were there at the start are as they were. -/
theorem Own.old (h : Own w0 S w L) {i : Nat} (hi : i < w0.heap.size) (hS : ¬ S i) : w.heap[i]? = w0.heap[i]? := h.kept.block i hi hS
theorem Own.below (h : Own w0 S w L) (hS : ∀ i, ¬ S i) : Below w0.heap.size w0 w := h.kept.none hS
end
end Go.Proofs.Ytjbhcmkloamcmaa
