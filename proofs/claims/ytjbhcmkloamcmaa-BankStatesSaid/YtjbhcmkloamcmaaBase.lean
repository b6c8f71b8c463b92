/- Words of this claim's own: what a slice reads as, in which world; small laws on worlds. -/
import Derived.WalkKit
import Derived.KernelRfl
import Derived.RowKit3
import Derived.Deep.QuietTactic
import Derived.BigQuiet
import Derived.WalkLawsBesides
import Derived.WalkSpells
import Derived.OpenShut
import Derived.Lib.SlBytesConst
namespace Go.Proofs.Ytjbhcmkloamcmaa
open Go.RowKit

/-- A fact that is kept from the walk. -/
structure Hidd (p : Prop) : Prop where mk :: (out : p)

theorem ret_true {b : Bool} (h : b = true) : Ending.returned (.bool b) = .returned (.bool true) := by rw [h]
theorem ret_bool {a b : Bool} (h : a = b) : Ending.returned (.bool a) = .returned (.bool b) := by rw [h]
theorem ret_int {k : IntKind} {a b : Int} (h : a = b) : Ending.returned (.int k a) = .returned (.int k b) := by rw [h]
theorem ret_str {a b : ByteArray} (h : a = b) : Ending.returned (.string a) = .returned (.string b) := by rw [h]

theorem quiet_eq {P : Program} {f : FuncId} {args : Array Value} {w : World} {n : Nat} {v : Value}
    (h : Calls P f args (w.drewN n) fun e w' => e = .returned v ∧ w.drewN n = w') : Calls P f args (w.drewN n) fun e w'' => e = .returned v ∧ ∃ m, w'' = w.drewN m :=
  h.mono fun _ _ ⟨he, hm⟩ => ⟨he, n, hm.symm⟩

theorem quiet_drew {P : Program} {f : FuncId} {args : Array Value} {w : World} {n : Nat} {v : Value}
    (h : Calls P f args (w.drewN n) fun e w' => e = .returned v ∧ ∃ m, (w.drewN n).drewN m = w') : Calls P f args (w.drewN n) fun e w'' => e = .returned v ∧ ∃ m, w'' = w.drewN m :=
  h.mono fun _ _ ⟨he, m, hm⟩ => ⟨he, n + m, by rw [← hm, World.drewN_drewN]⟩

theorem below_drewN' {B : Nat} {w W : World} (n : Nat) (h : Below B w W) : Below B w (W.drewN n) := ⟨h.os, h.tape, h.output, h.size, h.block⟩
theorem below2 {B : Nat} {w w1 w2 : World} (h : Below B w w1) (hB : B ≤ w1.heap.size) (k : Below w1.heap.size w1 w2) : Below B w w2 := h.trans (k.mono hB)
/-- One call behind the other. -/
theorem below_then {w w1 w2 : World} (h : Below w.heap.size w w1) (k : Below w1.heap.size w1 w2) : Below w.heap.size w w2 := h.trans (k.mono h.size)
theorem below_alloc {w w1 : World} (h : Below w.heap.size w w1) (o : Obj) : Below w.heap.size w (w1.alloc o) := h.alloc h.size o

theorem below_of_drew {B : Nat} {w w1 : World} (h : Below B w.drew w1) : Below B w w1 := ⟨h.os, h.tape, h.output, h.size, h.block⟩
theorem below_of_drewN {B : Nat} {w w1 : World} {n : Nat} (h : Below B (w.drewN n) w1) : Below B w w1 := ⟨h.os, h.tape, h.output, h.size, h.block⟩

/-- An address of a slice's cells: what lies there, cell by cell. -/
def Cells (w : World) (A : Option Addr) (cs : List Value) : Prop := ∀ j v, cs[j]? = some v → ∃ ad, A = some ad ∧ w.cell? (ad.add j) = some v

theorem Cells.nil (w : World) (A : Option Addr) : Cells w A [] := fun j v h => by simp at h
theorem Cells.below {w w1 : World} {A : Option Addr} {cs : List Value} (h : Cells w A cs) (hb : Below w.heap.size w w1) : Cells w1 A cs := fun j v hj => by
  obtain ⟨ad, e, hc⟩ := h j v hj
  exact ⟨ad, e, (hb.cell (World.block_lt_of_cell? w _ hc)).trans hc⟩
theorem Cells.drewN {w : World} {A : Option Addr} {cs : List Value} (h : Cells w A cs) (n : Nat) : Cells (w.drewN n) A cs := h
theorem Cells.drew {w : World} {A : Option Addr} {cs : List Value} (h : Cells w A cs) : Cells w.drew A cs := h
theorem Cells.alloc {w : World} {A : Option Addr} {cs : List Value} (h : Cells w A cs) (o : Obj) : Cells (w.alloc o) A cs := h.below ((Below.refl _ _).alloc (Nat.le_refl _) o)
theorem Cells.take {w : World} {A : Option Addr} {cs : List Value} (h : Cells w A cs) (n : Nat) : Cells w A (cs.take n) := fun j v hj => h j v (by
  rw [List.getElem?_take] at hj; split at hj
  · exact hj
  · cases hj)
theorem add_plain (g j : Nat) : (⟨g, 0, none⟩ : Addr).add j = ⟨g, j, none⟩ := by unfold Addr.add; split <;> simp_all
theorem addr_lit (a : Addr) (k : Nat) (h : k ≠ 0) : a.add k = ⟨a.block, a.off + k, none⟩ := by unfold Addr.add; rw [if_neg h]
theorem addr_zero (a : Addr) : a.add 0 = a := by unfold Addr.add; rw [if_pos rfl]
theorem add_add (a : Addr) (i j : Nat) : (a.add i).add j = a.add (i + j) := by
  unfold Addr.add
  split
  · rename_i h; subst h; simp
  · split
    · rename_i h; subst h; simp_all
    · rw [if_neg (by omega)]; simp [Nat.add_assoc]
theorem Cells.drop {w : World} {A : Option Addr} {cs : List Value} (h : Cells w A cs) (n : Nat) : Cells w (A.map (·.add n)) (cs.drop n) := fun j v hj => by
  rw [List.getElem?_drop] at hj
  obtain ⟨ad, e, hc⟩ := h _ _ hj
  exact ⟨ad.add n, by rw [e]; rfl, by rw [add_add]; exact hc⟩
theorem Cells.of_block {w : World} {g : Nat} {cs : Array Value} {t : TypeId} {fr : Nat × Nat} (h : w.heap[g]? = some (.cells cs t fr)) : Cells w (some ⟨g, 0, none⟩) cs.toList := fun j v hj =>
  ⟨_, rfl, by rw [add_plain, cell_of_row w g j cs t fr h]; simpa using hj⟩
theorem Cells.new {fr : Nat × Nat} (w : World) (cs : Array Value) (t : TypeId) (xs : List Value) (h : cs.toList = xs) : Cells (w.alloc (.cells cs t fr)) (some ⟨w.heap.size, 0, none⟩) xs := by
  subst h; exact Cells.of_block (heap_alloc_new w _)
/-- The same behind one more block, its number as the walk spells it. -/
theorem Cells.new1 {fr : Nat × Nat} (w : World) (o : Obj) (cs : Array Value) (t : TypeId) (xs : List Value) (h : cs.toList = xs) : Cells ((w.alloc o).alloc (.cells cs t fr)) (some ⟨w.heap.size + 1, 0, none⟩) xs := by
  have := Cells.new (fr := fr) (w.alloc o) cs t xs h
  rwa [World.size_alloc] at this
theorem Cells.of_own {w : World} {base : Nat} {e : TypeId} {size n : Nat} {v : Value} {cs : List Value} (h : w.ownsRow base e size v n cs) : ∃ A c, v = .slice A n c ∧ n ≤ c ∧ c ≤ maxLen ∧ Cells w A cs := by
  rcases h.2 with ⟨rfl, rfl⟩ | ⟨g, cap, cur, rfl, _, hg, hn, hm, _, ht⟩
  · have := h.1
    simp at this
    subst this
    exact ⟨none, 0, rfl, Nat.le_refl _, Nat.zero_le _, Cells.nil _ _⟩
  · refine ⟨_, cap, rfl, hn, hm, ?_⟩
    rw [← ht]
    exact (Cells.of_block hg).take _

theorem grown_of_below {w w1 : World} (h : Below w.heap.size w w1) (row : Option Nat) : w.grownBy w1 row := ⟨h.os, h.tape, h.output, h.size, fun i hi _ => h.block i hi⟩
theorem own_below {w w1 : World} {base : Nat} {e : TypeId} {size n : Nat} {v : Value} {xs : List Value} (h : w.ownsRow base e size v n xs) (hb : Below w.heap.size w w1) : w1.ownsRow base e size v n xs :=
  h.kept (grown_of_below hb none) (by cases v.ownBlock <;> simp)
theorem own_apart {w : World} {base : Nat} {e : TypeId} {size n : Nat} {u v : Value} {xs : List Value} (h : w.ownsRow base e size v n xs) (hu : ∀ k, u.ownBlock = some k → k < base) : v.ownBlock = none ∨ v.ownBlock ≠ u.ownBlock := by
  cases hv : v.ownBlock with
  | none => exact .inl rfl
  | some k => exact .inr fun e => by have := (h.lt k hv).1; have := hu k e.symm; omega
theorem own_lt {w : World} {base : Nat} {e : TypeId} {size n : Nat} {v : Value} {xs : List Value} (h : w.ownsRow base e size v n xs) : ∀ k, v.ownBlock = some k → k < w.heap.size := fun k hk => (h.lt k hk).2
theorem below_grow {B C : Nat} {w w1 w2 : World} (h : Below B w w1) (k : Below C w1 w2) (hc : B ≤ C) : Below B w w2 := h.trans (k.mono hc)

/-- Numbers as values. -/
def nums (k : IntKind) (xs : List Int) : List Value := xs.map fun x => .int k x
theorem nums_length (k : IntKind) (xs : List Int) : (nums k xs).length = xs.length := by simp [nums]
theorem nums_append (k : IntKind) (xs ys : List Int) : nums k (xs ++ ys) = nums k xs ++ nums k ys := by simp [nums]
theorem nums_take (k : IntKind) (xs : List Int) (n : Nat) : nums k (xs.take n) = (nums k xs).take n := by simp [nums]
theorem nums_drop (k : IntKind) (xs : List Int) (n : Nat) : nums k (xs.drop n) = (nums k xs).drop n := by simp [nums]
theorem nums_one (k : IntKind) (xs : List Int) : ∀ u ∈ nums k xs, u.oneCell' = true := by
  intro u hu
  simp only [nums, List.mem_map] at hu
  obtain ⟨x, _, rfl⟩ := hu
  rfl
theorem Cells.at {w : World} {A : Option Addr} {k : IntKind} {xs : List Int} (h : Cells w A (nums k xs)) (i : Nat) (hi : i < xs.length) : ∃ ad, A = some ad ∧ w.cell? (ad.add i) = some (.int k (xs.getD i 0)) :=
  h i _ (by simp [nums, List.getD_eq_getElem?_getD, List.getElem?_eq_getElem hi])

/-- A slice of whole numbers that came in (the row's own words), and what it reads as. -/
def IsRow (k : IntKind) (w : World) (a : Option Addr) (len cap : Nat) (zs : List Int) : Prop :=
  (a = none ∧ len = 0 ∧ cap = 0 ∧ zs = []) ∨
  ∃ x, a = some x ∧ len ≤ cap ∧ cap ≤ maxLen ∧ zs.length = cap ∧ (∀ i, i < zs.length → w.cell? (x.add i) = some (.int k (zs.getD i 0))) ∧ ∀ n ∈ zs, (Lit.int k n).wf = true

theorem IsRow.open_ {k : IntKind} {w : World} {a : Option Addr} {len cap : Nat} {zs : List Int} (h : IsRow k w a len cap zs) :
    ∃ xs : List Int, xs.length = len ∧ len ≤ cap ∧ cap ≤ maxLen ∧ Cells w a (nums k xs) ∧ ∀ n ∈ xs, (Lit.int k n).wf = true := by
  rcases h with ⟨rfl, rfl, rfl, rfl⟩ | ⟨x, rfl, h1, h2, h3, h4, h5⟩
  · exact ⟨[], rfl, Nat.le_refl _, Nat.zero_le _, Cells.nil _ _, by simp⟩
  · refine ⟨zs.take len, by simp; omega, h1, h2, ?_, fun n hn => h5 n (List.mem_of_mem_take hn)⟩
    rw [nums_take]
    refine Cells.take (fun j v hj => ⟨x, rfl, ?_⟩) len
    simp only [nums, List.getElem?_map, Option.map_eq_some_iff] at hj
    obtain ⟨y, hy, rfl⟩ := hj
    have hl : j < zs.length := (List.getElem?_eq_some_iff.1 hy).1
    rw [h4 j hl, List.getD_eq_getElem?_getD, hy]
    rfl

/-- string(b) -/
theorem conv_str {P : Program} {w : World} {src dst e : TypeId} {A : Option Addr} {c : Nat} {xs : List Int} (hs : P.underlying src = some (.slice e)) (he : P.underlying e = some (.int .u8)) (hd : P.underlying dst = some .string)
    (h : Cells w A (nums .u8 xs)) : (convert src dst (.slice A xs.length c)).run P w = .ok (.string (strOfNums xs)) w := by
  rcases A with _ | ad
  · have h0 : xs = [] := by
      rcases xs with _ | ⟨x, xs⟩
      · rfl
      · obtain ⟨ad, h', _⟩ := h 0 _ rfl
        cases h'
    subst h0
    exact run_convert_bytes_nil w src e hs he 0 c dst hd
  · have hl : (loadCells ad xs.length).run P w = .ok (xs.map (Value.int .u8)).toArray w := by
      have := run_loadCells_list (P := P) w ad (xs.map (Value.int .u8)) (fun j v hj => by
        obtain ⟨ad', he', hc⟩ := h j v hj
        injection he' with he'
        subst he'
        exact hc)
      simpa using this
    rw [run_convert_bytes_string w src dst e _ _ c hs he hd, run_bytesToString w ad _ c xs hl, foldl_push_bytes]
    simp [strOfNums, ByteArray.empty, ByteArray.emptyWithCapacity]
    rfl

end Go.Proofs.Ytjbhcmkloamcmaa
