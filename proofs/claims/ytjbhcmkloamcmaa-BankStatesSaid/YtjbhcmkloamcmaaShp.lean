/- What an argument looks like in memory, by its type: cells of numbers, bools, strings and slices, structs laid flat. -/
import Derived.Test.YtjbhcmkloamcmaaRes
import Derived.OpenShut
import Derived.Deep.Slices
import Derived.SizedLaws
namespace Go.Proofs.Ytjbhcmkloamcmaa
open Go.RowKit

/-- A cell's kind. -/
inductive Sh where
  | int (k : IntKind)
  | bool
  | str
  | sl (b : Nat) (e : List Sh)

def flats (P : Program) (g : TypeId → Option (List Sh)) : List Field → Nat → Option (List Sh)
  | [], _ => some []
  | x :: r, off => if x.offset = off then (g x.type).bind fun l => if l.length = P.cellsOf x.type then (flats P g r (off + l.length)).map (l ++ ·) else none else none
/-- The cells of a type. -/
def flat (P : Program) : Nat → TypeId → Option (List Sh)
  | 0, _ => none
  | f + 1, t => match P.underlying t with
    | some (.int k) => some [.int k]
    | some .bool => some [.bool]
    | some .string => some [.str]
    | some (.slice e) => (flat P f e).bind fun l => if l.length = P.cellsOf e then some [.sl (P.bytesOf e) l] else none
    | some (.struct fs) => (flats P (flat P f) fs.toList 0).bind fun l => if l.length = P.cellsOf t then some l else none
    | some (.array n e) => (flat P f e).bind fun l => if l.length = 1 ∧ P.cellsOf e = 1 ∧ P.cellsOf t = n then some ((List.replicate n l).flatten) else none
    | _ => none

/-- A value of a kind, in a world. -/
inductive Fits (w : World) : Sh → Value → Prop where
  | int {k z} : (Lit.int k z).wf = true → Fits w (.int k) (.int k z)
  | bool (b) : Fits w .bool (.bool b)
  | str {s : ByteArray} : s.size ≤ Go.maxLen → Fits w .str (.string s)
  | nil (b e) : Fits w (.sl b e) (.slice none 0 0)
  | sl {b : Nat} {e : List Sh} {a : Addr} {len cap : Nat} (rows : List (List Value)) : len ≤ cap → cap ≤ Go.maxLen → len * b ≤ reachBytes → rows.length = len → (∀ r ∈ rows, r.length = e.length) →
      (∀ (i j : Nat) r v, rows[i]? = some r → r[j]? = some v → w.cell? (a.add (i * e.length + j)) = some v) → (∀ r ∈ rows, ∀ (j : Nat) s v, e[j]? = some s → r[j]? = some v → Fits w s v) → Fits w (.sl b e) (.slice (some a) len cap)

theorem Fits.keep {w w' : World} (hB : Below w.heap.size w w') {s : Sh} {v : Value} (h : Fits w s v) : Fits w' s v := by
  induction h with
  | int h => exact .int h
  | bool b => exact .bool b
  | str h => exact .str h
  | nil b e => exact .nil b e
  | sl rows h1 h2 hb h3 h4 h5 _ ih =>
    refine .sl rows h1 h2 hb h3 h4 (fun i j r v hr hv => ?_) ih
    have hc := h5 i j r v hr hv
    rw [← hc]
    exact hB.cell (by
      rcases Nat.lt_or_ge (Addr.add _ (i * List.length _ + j)).block w.heap.size with h | h
      · exact h
      · simp [World.cell?, Array.getElem?_eq_none h] at hc)

section
variable {H : Type} {enc : TypeId × Value → H} {P : Program} {w : World} {base : Nat} {spare : Nat → Bool} {held : Bool}

theorem weights_mem_all {t : TypeId} : ∀ {l : List (DataW H)} {d : DataW H}, d ∈ l → ∀ k ∈ d.weights P t, k ∈ DataW.weightsAll P t l
  | [], _, h, _, _ => by cases h
  | x :: l, d, h, k, hk => by
    simp only [DataW.weightsAll]
    rcases List.mem_cons.1 h with rfl | h
    · exact List.mem_append.2 (.inl hk)
    · exact List.mem_append.2 (.inr (weights_mem_all h k hk))

/-- What is read of a type has its kinds. -/
theorem fits_trod : ∀ (f : Nat) (t : TypeId) (l : List Sh) (fuel : Nat) (cs : List Value) (x : DataW H × List MemPlace), flat P f t = some l → DataW.trod enc P w base spare held fuel t cs = some x → (∀ n ∈ x.1.weights P t, n ≤ reachBytes) →
    cs.length = l.length ∧ ∀ (j : Nat) s v, l[j]? = some s → cs[j]? = some v → Fits w s v
  | 0, _, _, _, _, _, hf, _, _ => by simp [flat] at hf
  | f + 1, t, l, fuel, cs, x, hf, h, hwt => by
    have ih := fits_trod f
    unfold flat at hf
    split at hf
    · rename_i k ht
      obtain ⟨z, rfl, _, hw⟩ := DataW.trod_int ht h
      injection hf with hf
      subst hf
      refine ⟨rfl, fun j s v hs hv => ?_⟩
      cases j with
      | zero => simp at hs hv; subst hs hv; exact .int hw
      | succ j => simp at hs
    · rename_i ht
      obtain ⟨z, rfl, _⟩ := DataW.trod_bool ht h
      injection hf with hf
      subst hf
      refine ⟨rfl, fun j s v hs hv => ?_⟩
      cases j with
      | zero => simp at hs hv; subst hs hv; exact .bool _
      | succ j => simp at hs
    · rename_i ht
      obtain ⟨z, rfl, _, hw⟩ := DataW.trod_string ht h
      injection hf with hf
      subst hf
      refine ⟨rfl, fun j s v hs hv => ?_⟩
      cases j with
      | zero => simp at hs hv; subst hs hv; exact .str hw
      | succ j => simp at hs
    · rename_i e ht
      obtain ⟨le, hle, hf⟩ := Option.bind_eq_some_iff.1 hf
      split at hf
      case isFalse => cases hf
      rename_i hn
      injection hf with hf
      subst hf
      have one : ∀ v, cs = [v] → Fits w (.sl (P.bytesOf e) le) v → cs.length = [Sh.sl (P.bytesOf e) le].length ∧ ∀ (j : Nat) s v, [Sh.sl (P.bytesOf e) le][j]? = some s → cs[j]? = some v → Fits w s v := by
        intro v hv hF
        subst hv
        refine ⟨rfl, fun j s v hs hv => ?_⟩
        cases j with
        | zero => simp at hs hv; subst hs hv; exact hF
        | succ j => simp at hs
      rcases Go.Deep.open_slice ht h with ⟨rfl, _⟩ | ⟨a, len, cap, m, n, D, Pl, rfl, _, hl, hm, hmm, rfl, hx⟩
      · exact one _ rfl (.nil _ _)
      · have hlm : len ≤ m := by rw [hmm]; split <;> omega
        have hW : ∀ i, i < len → ∀ k ∈ (D i).weights P e, k ≤ reachBytes := fun i hi k hk => by
          refine hwt k ?_
          simp only [DataW.weights, ht]
          refine List.mem_cons_of_mem _ (List.mem_append.2 (.inl ?_))
          exact weights_mem_all (List.mem_map.2 ⟨i, List.mem_range.2 hi, rfl⟩) k hk
        have hB : len * P.bytesOf e ≤ reachBytes := by
          have := hwt _ (by simp only [DataW.weights, ht]; exact List.mem_cons_self)
          simp only [List.length_map, List.length_range] at this
          exact Nat.le_trans (Nat.mul_le_mul_right _ (by omega)) this
        obtain ⟨R, hR⟩ := Go.Deep.choose_lt (α := List Value) (n := len) (p := fun i cs' => w.cells? base (a.add (i * P.cellsOf e)) (P.cellsOf e) = some cs' ∧ DataW.trod enc P w base spare held n e cs' = some (D i, Pl i)) (fun i hi => hx i (by omega))
        refine one _ rfl (.sl ((List.range len).map R) hl hm hB (by simp) ?_ ?_ ?_)
        · intro r hr
          obtain ⟨i, hi, rfl⟩ := List.mem_map.1 hr
          have hi := List.mem_range.1 hi
          exact (ih e le n _ _ hle (hR i hi).2 (hW i hi)).1
        · intro i j r v hr hv
          have hi : i < len := by have := (List.getElem?_eq_some_iff.1 hr).1; simpa using this
          simp [hi] at hr
          subst hr
          obtain ⟨_, hlen, hc⟩ := World.cells?_some (hR i hi).1
          have hj : j < P.cellsOf e := by rw [← hlen]; exact (List.getElem?_eq_some_iff.1 hv).1
          have := hc j hj
          rw [Go.Deep.add_add, hv] at this
          rw [hn]
          exact this
        · intro r hr j s v hs hv
          obtain ⟨i, hi, rfl⟩ := List.mem_map.1 hr
          have hi := List.mem_range.1 hi
          exact (ih e le n _ _ hle (hR i hi).2 (hW i hi)).2 j s v hs hv
    · rename_i fs ht
      obtain ⟨l', hl', hf⟩ := Option.bind_eq_some_iff.1 hf
      split at hf
      case isFalse => cases hf
      rename_i hn
      injection hf with hf
      subst hf
      obtain ⟨xs, n, _, rfl, hcl, hxl, hfs⟩ := DataW.trod_struct ht h
      refine ⟨by rw [hcl, hn], ?_⟩
      have key : ∀ (r : List Field) (off k : Nat) (lr : List Sh), (∀ i fd, r[i]? = some fd → fs[k + i]? = some fd) → flats P (flat P f) r off = some lr → ∀ (j : Nat) s v, lr[j]? = some s → cs[off + j]? = some v → Fits w s v := by
        intro r
        induction r with
        | nil => intro off k lr _ hlr j s v hs; simp [flats] at hlr; subst hlr; simp at hs
        | cons fd r ihr =>
          intro off k lr hr hlr j s v hs hv
          unfold flats at hlr
          split at hlr
          case isFalse => cases hlr
          rename_i hoff
          obtain ⟨lf, hlf, hlr⟩ := Option.bind_eq_some_iff.1 hlr
          split at hlr
          case isFalse => cases hlr
          rename_i hlen
          obtain ⟨lr', hlr', rfl⟩ := Option.map_eq_some_iff.1 hlr
          have hfd := hr 0 fd rfl
          rw [Nat.add_zero] at hfd
          have htr := hfs k fd hfd
          have hk : k < xs.length := by rw [hxl]; exact (Array.getElem?_eq_some_iff.1 hfd).1
          rw [List.getElem?_eq_getElem hk] at htr
          obtain ⟨i1, i2⟩ := ih fd.type lf n _ _ hlf htr (fun q hq => by
            refine hwt q ?_
            simp only [DataW.weights, ht]
            exact DataW.weights_mem_each (j := k) (t := fd.type) (d := xs[k].1) (by simp [hfd]) (by simp [hk]) q hq)
          by_cases hj : j < lf.length
          · rw [List.getElem?_append_left hj] at hs
            refine i2 j s v hs ?_
            rw [List.getElem?_take_of_lt (by omega), List.getElem?_drop, hoff]
            exact hv
          · rw [List.getElem?_append_right (by omega)] at hs
            refine ihr (off + lf.length) (k + 1) lr' (fun i fd' h => ?_) hlr' (j - lf.length) s v hs ?_
            · rw [show k + 1 + i = k + (i + 1) by omega]
              exact hr (i + 1) fd' (by simpa using h)
            · rw [show off + lf.length + (j - lf.length) = off + j by omega]
              exact hv
      intro j s v hs hv
      exact key fs.toList 0 0 _ (fun i fd h => by simpa using h) hl' j s v hs (by rw [Nat.zero_add]; exact hv)
    · rename_i m e ht
      obtain ⟨le, hle, hf⟩ := Option.bind_eq_some_iff.1 hf
      split at hf
      case isFalse => cases hf
      rename_i hn
      obtain ⟨h1, h2, h3⟩ := hn
      injection hf with hf
      subst hf
      obtain ⟨s0, rfl⟩ := List.length_eq_one_iff.1 h1
      have hrep : ∀ k : Nat, (List.replicate k [s0]).flatten = List.replicate k s0 := fun k => by
        induction k with
        | zero => rfl
        | succ k ih => rw [List.replicate_succ, List.flatten_cons, ih, List.replicate_succ]; rfl
      rw [hrep]
      obtain ⟨xs, n, _, rfl, hcl, hxl, hfs⟩ := DataW.trod_array ht h
      refine ⟨by rw [hcl, h3, List.length_replicate], fun j s v hs hv => ?_⟩
      have hj : j < m := by have := (List.getElem?_eq_some_iff.1 hs).1; rwa [List.length_replicate] at this
      rw [List.getElem?_replicate_of_lt hj] at hs
      injection hs with hs
      subst hs
      have htr := hfs j hj
      have hk : j < xs.length := by omega
      rw [h2, Nat.mul_one, List.getElem?_eq_getElem hk] at htr
      have hd : (cs.drop j).take 1 = [v] := by
        have hjl : j < cs.length := (List.getElem?_eq_some_iff.1 hv).1
        rw [List.drop_eq_getElem_cons hjl, List.take_succ_cons, List.take_zero]
        rw [List.getElem?_eq_getElem hjl] at hv
        injection hv with hv
        rw [hv]
      rw [hd] at htr
      obtain ⟨_, i2⟩ := ih e _ n _ _ hle htr (fun q hq => by
        refine hwt q ?_
        simp only [DataW.weights, ht]
        exact weights_mem_all (List.mem_map.2 ⟨xs[j], List.getElem_mem hk, rfl⟩) q hq)
      exact i2 0 s0 v rfl rfl
    · cases hf

/-- An argument of a struct, its cells. -/
theorem fits_arg {t : TypeId} {v : Value} {d : DataW H} {ps : List MemPlace} {l : List Sh} (f : Nat) (hf : flat P f t = some l) (h : DataW.Trod enc P w base spare held t v d ps) {ts : List TypeId} {ds : List (DataW H)} (hsz : (DataW.weightsEach P ts ds).all (· ≤ reachBytes) = true) (j : Nat) (ht : ts[j]? = some t) (hd : ds[j]? = some d) :
    v.cells.size = l.length ∧ ∀ (j : Nat) s u, l[j]? = some s → v.cells[j]? = some u → Fits w s u := by
  obtain ⟨fuel, h⟩ := h
  obtain ⟨h1, h2⟩ := fits_trod f t l fuel _ _ hf h (fun n hn => by simpa using List.all_eq_true.1 hsz _ (DataW.weights_mem_each ht hd n hn))
  exact ⟨by simpa using h1, fun j s u hs hu => h2 j s u hs (by simpa using hu)⟩
end

theorem Fits.int_inv {w : World} {k : IntKind} {v : Value} (h : Fits w (.int k) v) : ∃ z, v = .int k z ∧ (Lit.int k z).wf = true := by
  cases h with
  | int h => exact ⟨_, rfl, h⟩
theorem Fits.bool_inv {w : World} {v : Value} (h : Fits w .bool v) : ∃ b, v = .bool b := by
  cases h with
  | bool b => exact ⟨b, rfl⟩
theorem Fits.str_inv {w : World} {v : Value} (h : Fits w .str v) : ∃ s, v = .string s ∧ s.size ≤ Go.maxLen := by
  cases h with
  | str h => exact ⟨_, rfl, h⟩
/-- A slice's rows in memory. -/
structure Rows' (w : World) (b : Nat) (e : List Sh) (A : Option Addr) (len cap : Nat) (rows : List (List Value)) : Prop where
  n : rows.length = len
  cap : len ≤ cap ∧ cap ≤ Go.maxLen
  wt : len * b ≤ reachBytes
  each : ∀ r ∈ rows, r.length = e.length
  cell : ∀ (i j : Nat) r v, rows[i]? = some r → r[j]? = some v → ∃ a, A = some a ∧ w.cell? (a.add (i * e.length + j)) = some v
  fits : ∀ r ∈ rows, ∀ (j : Nat) s v, e[j]? = some s → r[j]? = some v → Fits w s v
theorem Fits.sl_inv {w : World} {b : Nat} {e : List Sh} {v : Value} (h : Fits w (.sl b e) v) : ∃ A len cap rows, v = .slice A len cap ∧ Rows' w b e A len cap rows := by
  cases h with
  | nil b e => exact ⟨none, 0, 0, [], rfl, rfl, ⟨Nat.le_refl _, by decide⟩, by rw [Nat.zero_mul]; exact Nat.zero_le _, by simp, by simp, by simp⟩
  | sl rows h1 h2 hb h3 h4 h5 h6 => exact ⟨some _, _, _, rows, rfl, h3, ⟨h1, h2⟩, hb, h4, fun i j r v hr hv => ⟨_, rfl, h5 i j r v hr hv⟩, h6⟩
theorem Rows'.below {w w' : World} {b : Nat} {e : List Sh} {A : Option Addr} {len cap : Nat} {rows : List (List Value)} (h : Rows' w b e A len cap rows) (hB : Below w.heap.size w w') : Rows' w' b e A len cap rows := by
  refine ⟨h.n, h.cap, h.wt, h.each, fun i j r v hr hv => ?_, fun r hr j s v hs hv => (h.fits r hr j s v hs hv).keep hB⟩
  obtain ⟨a, ha, hc⟩ := h.cell i j r v hr hv
  refine ⟨a, ha, ?_⟩
  rw [← hc]
  exact hB.cell (by
    rcases Nat.lt_or_ge (Addr.add a (i * e.length + j)).block w.heap.size with h | h
    · exact h
    · simp [World.cell?, Array.getElem?_eq_none h] at hc)
/-- An array, taken apart. -/
theorem arr_cons {α : Type} {n : Nat} {l : List α} (h : l.length = n + 1) : ∃ x r, l = x :: r ∧ r.length = n := by
  cases l with
  | nil => simp at h
  | cons x r => exact ⟨x, r, rfl, by simpa using h⟩
theorem arr_of2 {α : Type} (c : Array α) (h : c.size = 2) : ∃ x0 x1, c = #[x0, x1] := by
  obtain ⟨l⟩ := c
  have e0 : l.length = 2 := h
  obtain ⟨x0, l0, rfl, e1⟩ := arr_cons e0
  obtain ⟨x1, l1, rfl, e2⟩ := arr_cons e1
  obtain rfl := List.length_eq_zero_iff.1 e2
  exact ⟨x0, x1, rfl⟩
theorem arr_of3 {α : Type} (c : Array α) (h : c.size = 3) : ∃ x0 x1 x2, c = #[x0, x1, x2] := by
  obtain ⟨l⟩ := c
  have e0 : l.length = 3 := h
  obtain ⟨x0, l0, rfl, e1⟩ := arr_cons e0
  obtain ⟨x1, l1, rfl, e2⟩ := arr_cons e1
  obtain ⟨x2, l2, rfl, e3⟩ := arr_cons e2
  obtain rfl := List.length_eq_zero_iff.1 e3
  exact ⟨x0, x1, x2, rfl⟩
theorem arr_of4 {α : Type} (c : Array α) (h : c.size = 4) : ∃ x0 x1 x2 x3, c = #[x0, x1, x2, x3] := by
  obtain ⟨l⟩ := c
  have e0 : l.length = 4 := h
  obtain ⟨x0, l0, rfl, e1⟩ := arr_cons e0
  obtain ⟨x1, l1, rfl, e2⟩ := arr_cons e1
  obtain ⟨x2, l2, rfl, e3⟩ := arr_cons e2
  obtain ⟨x3, l3, rfl, e4⟩ := arr_cons e3
  obtain rfl := List.length_eq_zero_iff.1 e4
  exact ⟨x0, x1, x2, x3, rfl⟩
theorem arr_of9 {α : Type} (c : Array α) (h : c.size = 9) : ∃ x0 x1 x2 x3 x4 x5 x6 x7 x8, c = #[x0, x1, x2, x3, x4, x5, x6, x7, x8] := by
  obtain ⟨l⟩ := c
  have e0 : l.length = 9 := h
  obtain ⟨x0, l0, rfl, e1⟩ := arr_cons e0
  obtain ⟨x1, l1, rfl, e2⟩ := arr_cons e1
  obtain ⟨x2, l2, rfl, e3⟩ := arr_cons e2
  obtain ⟨x3, l3, rfl, e4⟩ := arr_cons e3
  obtain ⟨x4, l4, rfl, e5⟩ := arr_cons e4
  obtain ⟨x5, l5, rfl, e6⟩ := arr_cons e5
  obtain ⟨x6, l6, rfl, e7⟩ := arr_cons e6
  obtain ⟨x7, l7, rfl, e8⟩ := arr_cons e7
  obtain ⟨x8, l8, rfl, e9⟩ := arr_cons e8
  obtain rfl := List.length_eq_zero_iff.1 e9
  exact ⟨x0, x1, x2, x3, x4, x5, x6, x7, x8, rfl⟩
theorem arr_of10 {α : Type} (c : Array α) (h : c.size = 10) : ∃ x0 x1 x2 x3 x4 x5 x6 x7 x8 x9, c = #[x0, x1, x2, x3, x4, x5, x6, x7, x8, x9] := by
  obtain ⟨l⟩ := c
  have e0 : l.length = 10 := h
  obtain ⟨x0, l0, rfl, e1⟩ := arr_cons e0
  obtain ⟨x1, l1, rfl, e2⟩ := arr_cons e1
  obtain ⟨x2, l2, rfl, e3⟩ := arr_cons e2
  obtain ⟨x3, l3, rfl, e4⟩ := arr_cons e3
  obtain ⟨x4, l4, rfl, e5⟩ := arr_cons e4
  obtain ⟨x5, l5, rfl, e6⟩ := arr_cons e5
  obtain ⟨x6, l6, rfl, e7⟩ := arr_cons e6
  obtain ⟨x7, l7, rfl, e8⟩ := arr_cons e7
  obtain ⟨x8, l8, rfl, e9⟩ := arr_cons e8
  obtain ⟨x9, l9, rfl, e10⟩ := arr_cons e9
  obtain rfl := List.length_eq_zero_iff.1 e10
  exact ⟨x0, x1, x2, x3, x4, x5, x6, x7, x8, x9, rfl⟩
theorem arr_of5 {α : Type} (c : Array α) (h : c.size = 5) : ∃ x0 x1 x2 x3 x4, c = #[x0, x1, x2, x3, x4] := by
  obtain ⟨l⟩ := c
  have e0 : l.length = 5 := h
  obtain ⟨x0, l0, rfl, e1⟩ := arr_cons e0
  obtain ⟨x1, l1, rfl, e2⟩ := arr_cons e1
  obtain ⟨x2, l2, rfl, e3⟩ := arr_cons e2
  obtain ⟨x3, l3, rfl, e4⟩ := arr_cons e3
  obtain ⟨x4, l4, rfl, e5⟩ := arr_cons e4
  obtain rfl := List.length_eq_zero_iff.1 e5
  exact ⟨x0, x1, x2, x3, x4, rfl⟩
theorem arr_of6 {α : Type} (c : Array α) (h : c.size = 6) : ∃ x0 x1 x2 x3 x4 x5, c = #[x0, x1, x2, x3, x4, x5] := by
  obtain ⟨l⟩ := c
  have e0 : l.length = 6 := h
  obtain ⟨x0, l0, rfl, e1⟩ := arr_cons e0
  obtain ⟨x1, l1, rfl, e2⟩ := arr_cons e1
  obtain ⟨x2, l2, rfl, e3⟩ := arr_cons e2
  obtain ⟨x3, l3, rfl, e4⟩ := arr_cons e3
  obtain ⟨x4, l4, rfl, e5⟩ := arr_cons e4
  obtain ⟨x5, l5, rfl, e6⟩ := arr_cons e5
  obtain rfl := List.length_eq_zero_iff.1 e6
  exact ⟨x0, x1, x2, x3, x4, x5, rfl⟩
theorem arr_of7 {α : Type} (c : Array α) (h : c.size = 7) : ∃ x0 x1 x2 x3 x4 x5 x6, c = #[x0, x1, x2, x3, x4, x5, x6] := by
  obtain ⟨l⟩ := c
  have e0 : l.length = 7 := h
  obtain ⟨x0, l0, rfl, e1⟩ := arr_cons e0
  obtain ⟨x1, l1, rfl, e2⟩ := arr_cons e1
  obtain ⟨x2, l2, rfl, e3⟩ := arr_cons e2
  obtain ⟨x3, l3, rfl, e4⟩ := arr_cons e3
  obtain ⟨x4, l4, rfl, e5⟩ := arr_cons e4
  obtain ⟨x5, l5, rfl, e6⟩ := arr_cons e5
  obtain ⟨x6, l6, rfl, e7⟩ := arr_cons e6
  obtain rfl := List.length_eq_zero_iff.1 e7
  exact ⟨x0, x1, x2, x3, x4, x5, x6, rfl⟩
theorem arr_of8 {α : Type} (c : Array α) (h : c.size = 8) : ∃ x0 x1 x2 x3 x4 x5 x6 x7, c = #[x0, x1, x2, x3, x4, x5, x6, x7] := by
  obtain ⟨l⟩ := c
  have e0 : l.length = 8 := h
  obtain ⟨x0, l0, rfl, e1⟩ := arr_cons e0
  obtain ⟨x1, l1, rfl, e2⟩ := arr_cons e1
  obtain ⟨x2, l2, rfl, e3⟩ := arr_cons e2
  obtain ⟨x3, l3, rfl, e4⟩ := arr_cons e3
  obtain ⟨x4, l4, rfl, e5⟩ := arr_cons e4
  obtain ⟨x5, l5, rfl, e6⟩ := arr_cons e5
  obtain ⟨x6, l6, rfl, e7⟩ := arr_cons e6
  obtain ⟨x7, l7, rfl, e8⟩ := arr_cons e7
  obtain rfl := List.length_eq_zero_iff.1 e8
  exact ⟨x0, x1, x2, x3, x4, x5, x6, x7, rfl⟩
theorem arr_of11 {α : Type} (c : Array α) (h : c.size = 11) : ∃ x0 x1 x2 x3 x4 x5 x6 x7 x8 x9 x10, c = #[x0, x1, x2, x3, x4, x5, x6, x7, x8, x9, x10] := by
  obtain ⟨l⟩ := c
  have e0 : l.length = 11 := h
  obtain ⟨x0, l0, rfl, e1⟩ := arr_cons e0
  obtain ⟨x1, l1, rfl, e2⟩ := arr_cons e1
  obtain ⟨x2, l2, rfl, e3⟩ := arr_cons e2
  obtain ⟨x3, l3, rfl, e4⟩ := arr_cons e3
  obtain ⟨x4, l4, rfl, e5⟩ := arr_cons e4
  obtain ⟨x5, l5, rfl, e6⟩ := arr_cons e5
  obtain ⟨x6, l6, rfl, e7⟩ := arr_cons e6
  obtain ⟨x7, l7, rfl, e8⟩ := arr_cons e7
  obtain ⟨x8, l8, rfl, e9⟩ := arr_cons e8
  obtain ⟨x9, l9, rfl, e10⟩ := arr_cons e9
  obtain ⟨x10, l10, rfl, e11⟩ := arr_cons e10
  obtain rfl := List.length_eq_zero_iff.1 e11
  exact ⟨x0, x1, x2, x3, x4, x5, x6, x7, x8, x9, x10, rfl⟩
theorem arr_of12 {α : Type} (c : Array α) (h : c.size = 12) : ∃ x0 x1 x2 x3 x4 x5 x6 x7 x8 x9 x10 x11, c = #[x0, x1, x2, x3, x4, x5, x6, x7, x8, x9, x10, x11] := by
  obtain ⟨l⟩ := c
  have e0 : l.length = 12 := h
  obtain ⟨x0, l0, rfl, e1⟩ := arr_cons e0
  obtain ⟨x1, l1, rfl, e2⟩ := arr_cons e1
  obtain ⟨x2, l2, rfl, e3⟩ := arr_cons e2
  obtain ⟨x3, l3, rfl, e4⟩ := arr_cons e3
  obtain ⟨x4, l4, rfl, e5⟩ := arr_cons e4
  obtain ⟨x5, l5, rfl, e6⟩ := arr_cons e5
  obtain ⟨x6, l6, rfl, e7⟩ := arr_cons e6
  obtain ⟨x7, l7, rfl, e8⟩ := arr_cons e7
  obtain ⟨x8, l8, rfl, e9⟩ := arr_cons e8
  obtain ⟨x9, l9, rfl, e10⟩ := arr_cons e9
  obtain ⟨x10, l10, rfl, e11⟩ := arr_cons e10
  obtain ⟨x11, l11, rfl, e12⟩ := arr_cons e11
  obtain rfl := List.length_eq_zero_iff.1 e12
  exact ⟨x0, x1, x2, x3, x4, x5, x6, x7, x8, x9, x10, x11, rfl⟩
theorem addr_one (a : Addr) (i : Nat) : a.add (i * 1 + 0) = a.add i := by rw [Nat.mul_one]; rfl
/-- A slice of numbers. -/
theorem ints_of {w : World} {k : IntKind} {b : Nat} {A : Option Addr} {len cap : Nat} {rows : List (List Value)} (h : Rows' w b [.int k] A len cap rows) :
    ∃ xs : List Int, xs.length = len ∧ Cells w A (nums k xs) ∧ ∀ x ∈ xs, (Lit.int k x).wf = true := by
  classical
  have hr : ∀ r ∈ rows, ∃ z : Int, r = [.int k z] ∧ (Lit.int k z).wf = true := fun r hr => by
    obtain ⟨x, r1, rfl, e1⟩ := arr_cons (h.each r hr)
    obtain rfl := List.length_eq_zero_iff.1 e1
    obtain ⟨x', rfl, hx⟩ := (h.fits _ hr 0 _ _ rfl rfl).int_inv
    exact ⟨x', rfl, hx⟩
  have key : ∀ (rows : List (List Value)), (∀ r ∈ rows, ∃ z : Int, r = [.int k z] ∧ (Lit.int k z).wf = true) → ∃ xs : List Int, rows = xs.map (fun z => [.int k z]) ∧ ∀ x ∈ xs, (Lit.int k x).wf = true := by
    intro rows
    induction rows with
    | nil => exact fun _ => ⟨[], rfl, fun x hx => by cases hx⟩
    | cons r l ih =>
      intro hr
      obtain ⟨z, rfl, hz⟩ := hr _ List.mem_cons_self
      obtain ⟨xs, rfl, hx⟩ := ih fun r hr' => hr r (List.mem_cons_of_mem _ hr')
      exact ⟨z :: xs, rfl, fun x hx' => by 
        rcases List.mem_cons.1 hx' with rfl | h
        · exact hz
        · exact hx _ h⟩
  obtain ⟨xs, rfl, hx⟩ := key rows hr
  refine ⟨xs, by rw [← h.n, List.length_map], fun i v hv => ?_, hx⟩
  unfold nums at hv
  rw [List.getElem?_map, Option.map_eq_some_iff] at hv
  obtain ⟨z, hz, rfl⟩ := hv
  obtain ⟨a, ha, hc⟩ := h.cell i 0 [.int k z] (.int k z) (by rw [List.getElem?_map, hz]; rfl) rfl
  refine ⟨a, ha, ?_⟩
  have e : a.add (i * [Sh.int k].length + 0) = a.add i := addr_one a i
  rw [e] at hc
  exact hc
theorem wf8 {z : Int} (h : (Lit.int .u8 z).wf = true) : ∃ n : Nat, z = n ∧ n < 256 := by
  simp [Lit.wf, IntKind.min, IntKind.max, IntKind.signed, IntKind.bits] at h
  exact ⟨z.toNat, by omega, by omega⟩
theorem wf32 {z : Int} (h : (Lit.int .u32 z).wf = true) : ∃ n : Nat, z = n ∧ n < 4294967296 := by
  simp [Lit.wf, IntKind.min, IntKind.max, IntKind.signed, IntKind.bits] at h
  exact ⟨z.toNat, by omega, by omega⟩
theorem wf8s {xs : List Int} (h : ∀ x ∈ xs, (Lit.int .u8 x).wf = true) : ∀ x ∈ xs, 0 ≤ x ∧ x < 256 := fun x hx => by
  obtain ⟨n, rfl, hn⟩ := wf8 (h x hx)
  omega
theorem wf64 {z : Int} (h : (Lit.int .i64 z).wf = true) : -9223372036854775808 ≤ z ∧ z ≤ 9223372036854775807 := by
  simpa [Lit.wf, IntKind.min, IntKind.max, IntKind.signed, IntKind.bits] using h
end Go.Proofs.Ytjbhcmkloamcmaa
