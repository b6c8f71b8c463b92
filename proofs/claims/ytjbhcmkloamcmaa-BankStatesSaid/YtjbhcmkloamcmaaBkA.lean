/- The flash and the store in memory; what their calls do, in plain words. -/
import Derived.Test.YtjbhcmkloamcmaaPack
import Derived.Test.YtjbhcmkloamcmaaCrcN
import Derived.Test.YtjbhcmkloamcmaaBaE
import Derived.Test.YtjbhcmkloamcmaaAppR
import Derived.Test.YtjbhcmkloamcmaaDgPl
import Derived.Deep.MidRow
namespace Go.Proofs.Ytjbhcmkloamcmaa
open Go.RowKit

/-- What stands in the flash: two banks of pages, the marks; the steps to come. -/
structure Fs where
  b0 : List (List Int)
  b1 : List (List Int)
  mrk : List (List Int)
  left : Int
/-- A store: the active bank, its size; a download. -/
structure St where
  active : Int
  size : Int
  sum : List Int
  opn : Bool
  total : Int
  left : Int
/-- Where a flash's lists lie. -/
structure FA where
  A0 : Option Addr
  n0 : Nat
  c0 : Nat
  v0 : List Value
  A1 : Option Addr
  n1 : Nat
  c1 : Nat
  v1 : List Value
  AM : Option Addr
  nm : Nat
  cm : Nat
  vm : List Value
/-- A slice of bytes. -/
def PgAt (w : World) (v : Value) (xs : List Int) : Prop := ∃ A n c, v = .slice A n c ∧ xs.length = n ∧ n ≤ c ∧ c ≤ maxLen ∧ Cells w A (nums .u8 xs)
/-- Slices of bytes, and what they say. -/
def pgs (vs : List Value) (xss : List (List Int)) : Res :=
  ⟨fun i => ∃ v ∈ vs, v.ownBlock = some i, fun w => vs.length = xss.length ∧ (∀ (j : Nat) v xs, vs[j]? = some v → xss[j]? = some xs → PgAt w v xs) ∧ ∀ v ∈ vs, ∀ i, v.ownBlock = some i → i < w.heap.size,
    fun w h i hi => by
      obtain ⟨v, hv, e⟩ := hi
      exact h.2.2 v hv i e,
    fun w w' h k => by
      refine ⟨h.1, fun j v xs hv hx => ?_, fun v hv i e => ?_⟩
      · obtain ⟨A, n, c, rfl, h1, h2, h3, h4⟩ := h.2.1 j v xs hv hx
        refine ⟨A, n, c, rfl, h1, h2, h3, fun m u hu => ?_⟩
        obtain ⟨ad, rfl, hc⟩ := h4 m u hu
        refine ⟨ad, rfl, ?_⟩
        rw [← hc]
        refine World.cell?_of_block (k _ ⟨_, List.mem_of_getElem? hv, ?_⟩)
        show some ad.block = some (ad.add m).block
        unfold Addr.add
        split <;> rfl
      · have hlt := h.2.2 v hv i e
        have := k i ⟨v, hv, e⟩
        rw [Array.getElem?_eq_getElem hlt] at this
        exact (Array.getElem?_eq_some_iff.1 this).1⟩
theorem pgs_get {w : World} {vs : List Value} {xss : List (List Int)} (h : (pgs vs xss).holds w) {j : Nat} {v : Value} (hv : vs[j]? = some v) : ∃ xs, xss[j]? = some xs ∧ PgAt w v xs := by
  have hj : j < xss.length := by rw [← h.1]; exact (List.getElem?_eq_some_iff.1 hv).1
  exact ⟨xss[j], List.getElem?_eq_getElem hj, h.2.1 j v _ hv (List.getElem?_eq_getElem hj)⟩
section
variable {w0 w w' : World} {S : Nat → Prop} {L : List Res}
theorem pgs_nil (h : Own w0 S w L) : Own w0 S w (pgs [] [] :: L) :=
  h.new _ (Below.refl _ _) ⟨rfl, fun j v xs hv => by simp at hv, fun v hv => by simp at hv⟩ fun i hi => by
    obtain ⟨v, hv, _⟩ := hi
    simp at hv
/-- One more; of a row the first m. -/
theorem pgs_snoc {vs : List Value} {xss : List (List Int)} {A : Option Addr} {n c : Nat} {xs : List Int} (h : Own w0 S w (pgs vs xss :: row 5 1 (.slice A n c) n (nums .u8 xs) :: L)) (m : Nat) (hm : m ≤ n) :
    Own w0 S w (pgs (vs ++ [.slice A m c]) (xss ++ [xs.take m]) :: L) := by
  refine h.join _ (fun h1 h2 _ => ?_) fun i hi => ?_
  · obtain ⟨A', c', e1, hn, hc, hC⟩ := Cells.of_own (show w.ownsRow 0 5 1 (.slice A n c) n (nums .u8 xs) from h2)
    injection e1 with e1 _ e2
    subst e1 e2
    have hl : xs.length = n := by
      have := (show w.ownsRow 0 5 1 (.slice A n c) n (nums .u8 xs) from h2).1
      simpa [nums_length] using this
    refine ⟨by rw [List.length_append, List.length_append, h1.1]; rfl, fun j v ys hv hy => ?_, fun v hv i e => ?_⟩
    · by_cases hj : j < vs.length
      · rw [List.getElem?_append_left hj] at hv
        rw [List.getElem?_append_left (by rw [← h1.1]; exact hj)] at hy
        exact h1.2.1 j v ys hv hy
      · rw [List.getElem?_append_right (by omega)] at hv
        rw [List.getElem?_append_right (by rw [← h1.1]; omega)] at hy
        rw [← h1.1] at hy
        have h0 : j - vs.length = 0 := by
          have := (List.getElem?_eq_some_iff.1 hv).1
          simp at this
          omega
        rw [h0] at hv hy
        simp at hv hy
        subst hv hy
        refine ⟨A, m, c, rfl, by rw [List.length_take]; omega, by omega, hc, ?_⟩
        rw [nums_take]
        exact hC.take m
    · rcases List.mem_append.1 hv with hv | hv
      · exact h1.2.2 v hv i e
      · obtain rfl := List.mem_singleton.1 hv
        exact ((show w.ownsRow 0 5 1 (.slice A n c) n (nums .u8 xs) from h2).lt i (by cases A <;> simp_all [Value.ownBlock])).2
  · obtain ⟨v, hv, e⟩ := hi
    rcases List.mem_append.1 hv with hv | hv
    · exact .inl ⟨v, hv, e⟩
    · obtain rfl := List.mem_singleton.1 hv
      exact .inr (by show (Value.slice A n c).ownBlock = some i; cases A <;> simp_all [Value.ownBlock])
end
def flashL (f : Nat) (M : FA) (s : Fs) : List Res :=
  [blk f (.cells #[.slice M.A0 M.n0 M.c0, .slice M.A1 M.n1 M.c1, .slice M.AM M.nm M.cm, .int .i64 s.left] 71 (0, 0)), row 22 1 (.slice M.A0 M.n0 M.c0) M.n0 M.v0, row 22 1 (.slice M.A1 M.n1 M.c1) M.n1 M.v1, row 22 1 (.slice M.AM M.nm M.cm) M.nm M.vm,
    pgs M.v0 s.b0, pgs M.v1 s.b1, pgs M.vm s.mrk]
def stV (f : Nat) (s : St) : List Value := [.pointer (some ⟨f, 0, none⟩), .int .i64 s.active, .int .i64 s.size] ++ nums .u8 s.sum ++ [.bool s.opn, .int .i64 s.total, .int .i64 s.left]
def storeR (p f : Nat) (s : St) : Res := blk p (.cells (stV f s).toArray 68 (0, 0))
def bankR (p f : Nat) (M : FA) (t : St) (s : Fs) : Res := (storeR p f t).with (Res.pack (flashL f M s))
theorem stV_get {f : Nat} {s : St} (h : s.sum.length = 32) : (stV f s)[0]? = some (.pointer (some ⟨f, 0, none⟩)) ∧ (stV f s)[1]? = some (.int .i64 s.active) ∧ (stV f s)[2]? = some (.int .i64 s.size) ∧ (stV f s)[35]? = some (.bool s.opn) ∧ (stV f s)[36]? = some (.int .i64 s.total) ∧ (stV f s)[37]? = some (.int .i64 s.left) := by
  refine ⟨rfl, rfl, rfl, ?_, ?_, ?_⟩
  all_goals rw [stV, List.getElem?_append_right (by simp [nums_length, h])]; simp [nums_length, h]
theorem storeR_cells {w0 w : World} {S : Nat → Prop} {L : List Res} {p f : Nat} {s : St} (h : Own w0 S w L) (k : Nat) (hk : L[k]? = some (storeR p f s)) (hs : s.sum.length = 32) :
    w.cell? ⟨p, 0, none⟩ = some (.pointer (some ⟨f, 0, none⟩)) ∧ w.cell? ⟨p, 1, none⟩ = some (.int .i64 s.active) ∧ w.cell? ⟨p, 2, none⟩ = some (.int .i64 s.size) ∧ w.cell? ⟨p, 35, none⟩ = some (.bool s.opn) ∧ w.cell? ⟨p, 36, none⟩ = some (.int .i64 s.total) ∧ w.cell? ⟨p, 37, none⟩ = some (.int .i64 s.left) := by
  obtain ⟨g0, g1, g2, g3, g4, g5⟩ := stV_get (f := f) hs
  have hc : ∀ i, w.cell? ⟨p, i, none⟩ = (stV f s)[i]? := fun i => by rw [h.cell k hk i]; simp
  exact ⟨by rw [hc]; exact g0, by rw [hc]; exact g1, by rw [hc]; exact g2, by rw [hc]; exact g3, by rw [hc]; exact g4, by rw [hc]; exact g5⟩
theorem flash_cells {w0 w : World} {S : Nat → Prop} {L : List Res} {p : Nat} {T : TypeId} {fr : Nat × Nat} {a0 a1 a2 a3 : Value} (h : Own w0 S w L) (k : Nat) (hk : L[k]? = some (blk p (.cells #[a0, a1, a2, a3] T fr))) :
    w.cell? ⟨p, 0, none⟩ = some a0 ∧ w.cell? ⟨p, 1, none⟩ = some a1 ∧ w.cell? ⟨p, 2, none⟩ = some a2 ∧ w.cell? ⟨p, 3, none⟩ = some a3 :=
  ⟨h.cell k hk 0, h.cell k hk 1, h.cell k hk 2, h.cell k hk 3⟩
theorem stV_opn (f : Nat) (s : St) (b : Bool) (h : s.sum.length = 32) : (stV f s).toArray.setIfInBounds 35 (.bool b) = (stV f { s with opn := b }).toArray := by
  rw [List.setIfInBounds_toArray, stV, List.set_append_right _ _ (by simp [nums_length, h])]
  simp [nums_length, h, stV]
theorem stV_total (f : Nat) (s : St) (b : Int) (h : s.sum.length = 32) : (stV f s).toArray.setIfInBounds 36 (.int .i64 b) = (stV f { s with total := b }).toArray := by
  rw [List.setIfInBounds_toArray, stV, List.set_append_right _ _ (by simp [nums_length, h])]
  simp [nums_length, h, stV]
theorem stV_left (f : Nat) (s : St) (b : Int) (h : s.sum.length = 32) : (stV f s).toArray.setIfInBounds 37 (.int .i64 b) = (stV f { s with left := b }).toArray := by
  rw [List.setIfInBounds_toArray, stV, List.set_append_right _ _ (by simp [nums_length, h])]
  simp [nums_length, h, stV]
theorem stV_active (f : Nat) (s : St) (b : Int) : (stV f s).toArray.setIfInBounds 1 (.int .i64 b) = (stV f { s with active := b }).toArray := by
  rw [List.setIfInBounds_toArray]
  rfl
theorem stV_size (f : Nat) (s : St) (b : Int) : (stV f s).toArray.setIfInBounds 2 (.int .i64 b) = (stV f { s with size := b }).toArray := by
  rw [List.setIfInBounds_toArray]
  rfl
/-- Cells from an offset on, laid anew. -/
def setL : Array Value → Nat → List Value → Array Value
  | cur, _, [] => cur
  | cur, o, v :: r => setL (cur.setIfInBounds o v) (o + 1) r
theorem setL_mid (P R : List Value) : ∀ (old new : List Value) (D : List Value), old.length = new.length → setL (P ++ D ++ old ++ R).toArray (P.length + D.length) new = (P ++ D ++ new ++ R).toArray
  | [], [], D, _ => rfl
  | [], _ :: _, _, h => by simp at h
  | _ :: _, [], _, h => by simp at h
  | a :: old, b :: new, D, h => by
    rw [setL, List.setIfInBounds_toArray]
    have e : (P ++ D ++ a :: old ++ R).set (P.length + D.length) b = P ++ (D ++ [b]) ++ old ++ R := by
      rw [List.append_assoc (P ++ D), List.set_append_right _ _ (by simp)]
      simp
    rw [e]
    have := setL_mid P R old new (D ++ [b]) (by simpa using h)
    rw [List.length_append, List.length_singleton, ← Nat.add_assoc] at this
    rw [this]
    simp
theorem setCells_block (b : Nat) (T : TypeId) : ∀ (vs : List Value) (o : Nat) (cur : Array Value) (w : World), w.heap[b]? = some (.cells cur T (0, 0)) → (w.setCells b o vs).heap[b]? = some (.cells (setL cur o vs) T (0, 0)) ∧ Kept (fun i => i = b) w (w.setCells b o vs)
  | [], _, _, w, h => ⟨h, Kept.refl _ _⟩
  | v :: r, o, cur, w, h => by
    have h1 := heap_setCell_same w b o cur T v h
    obtain ⟨h2, h3⟩ := setCells_block b T r (o + 1) _ _ h1
    exact ⟨h2, (Kept.setCell (S := fun i => i = b) w ⟨b, o, none⟩ v rfl).trans h3⟩
theorem storeR_sum {w0 w : World} {S : Nat → Prop} {L : List Res} {p f : Nat} {s : St} (h : Own w0 S w L) (k : Nat) (hk : L[k]? = some (storeR p f s)) (hs : s.sum.length = 32) (d : List Int) (hd : d.length = 32) :
    Own w0 S (w.setCells p 3 (nums .u8 d)) (L.set k (storeR p f { s with sum := d })) := by
  obtain ⟨h1, h2⟩ := setCells_block p 68 (nums .u8 d) 3 _ w (h.get k hk)
  refine h.step k hk _ h2 ?_ fun i hi => .inl hi
  have := setL_mid [.pointer (some ⟨f, 0, none⟩), .int .i64 s.active, .int .i64 s.size] [.bool s.opn, .int .i64 s.total, .int .i64 s.left] (nums .u8 s.sum) (nums .u8 d) [] (by rw [nums_length, nums_length, hs, hd])
  rw [List.append_nil] at this
  have e : setL (stV f s).toArray 3 (nums .u8 d) = (stV f { s with sum := d }).toArray := this
  rw [e] at h1
  exact h1
theorem storeR_range {w0 w : World} {S : Nat → Prop} {L : List Res} {p f : Nat} {s : St} (h : Own w0 S w L) (k : Nat) (hk : L[k]? = some (storeR p f s)) : w.rangeAt p 3 (nums .u8 s.sum) := fun j v hj => by
  rw [h.cell k hk]
  simp only [List.getElem?_toArray]
  rw [stV, List.append_assoc, List.getElem?_append_right (by simp)]
  simp only [List.length_cons, List.length_nil]
  rw [show 3 + j - (0 + 1 + 1 + 1) = j by omega, List.getElem?_append_left (by exact (List.getElem?_eq_some_iff.1 hj).1)]
  exact hj

/-- A fault with a place: that is -1 at least. -/
theorem fault_any (c a : Int) (w : World) (hc : c ≠ 0) : Calls Try.prog 32 #[.int .i64 c, .int .i64 a] w fun e w' => ∃ v, e = .returned v ∧ Own w (fun _ => False) w' [eres (some (c, if a < 0 then -1 else a)) v] := by
  by_cases ha : a < -1
  · rw [if_pos (by omega)]
    have hcd : (c == 0) = false := by rw [beq_eq_false_iff_ne]; exact hc
    have hob := Hidd.mk ((Own.nil w (fun _ => False)).alloc (.cells #[.int .i64 c, .int .i64 (-1), .nilIface] 88))
    have d1 : decide (a < -1) = true := decide_eq_true ha
    have d2 : max a (-1) = -1 := by omega
    have d3 : decide (-1 < a) = false := decide_eq_false (by omega)
    go_enter Try.func32, Try.ntmps32
    go_wp2
    go_ret
    refine ⟨_, rfl, ⟨hob.out.kept, fun r hr => ?_, by simp, fun r hr i hi => ?_⟩⟩
    · obtain rfl := List.mem_singleton.1 hr
      exact ⟨_, rfl, hob.out.get 0 rfl⟩
    · obtain rfl := List.mem_singleton.1 hr
      have hi' : some w.heap.size = some i := hi
      injection hi' with hi'
      exact .inr (Nat.le_of_eq hi')
  · have e : (if a < 0 then -1 else a) = a := by split <;> omega
    rw [e]
    exact (newFault_any c a w hc (by omega)).mono fun e w' ⟨v, h1, h2, _⟩ => ⟨v, h1, h2⟩

/-- A page, or what stands half there: the bytes that it says. -/
def openP (p : List Int) : List Int := if fits p = true then p.take (p.length - 4) else []
def readB (ps : List (List Int)) (size : Nat) : List Int := (ps.flatMap openP).take size
def stepS (s : Fs) : Fs := { s with left := if s.left ≤ 0 then s.left else s.left - 1 }
def stepE (s : Fs) : Option (Int × Int) := if s.left = 0 then some (16, -1) else none
def oth (t : St) : Nat := if t.active = 0 then 1 else 0
def Fs.bank (s : Fs) (o : Nat) : List (List Int) := if o = 0 then s.b0 else s.b1
def Fs.put (s : Fs) (o : Nat) (l : List (List Int)) : Fs := if o = 0 then { s with b0 := l } else { s with b1 := l }
def beginX (size : Int) (sum : List Int) (t : St) (s : Fs) : Option (Int × Int) × St × Fs :=
  if size < 0 ∨ 512 < size then (some (2, if size < 0 then -1 else size), t, s)
  else if s.left = 0 then (some (16, -1), { t with opn := false }, s)
  else (none, { t with opn := true, total := size, left := size, sum := sum }, (stepS s).put (oth t) [])
def halfP (torn : Bool) (p : List Int) : List Int := if torn = true then p.take (p.length / 2) else p
def chunkX (b : List Int) (t : St) (s : Fs) : Option (Int × Int) × St × Fs :=
  if t.opn = false then (some (15, -1), t, s)
  else if b.length < 1 ∨ 32 < b.length then (some (12, b.length), t, s)
  else if t.left < b.length then (some (5, -1), t, s)
  else if s.left = 0 then (some (16, -1), { t with opn := false }, s.put (oth t) (s.bank (oth t) ++ [halfP true (crcSeal b)]))
  else (none, { t with left := t.left - b.length }, (stepS s).put (oth t) (s.bank (oth t) ++ [crcSeal b]))
def markP (o : Nat) (total : Int) : List Int := crcSeal [(o : Int), total / 256, total % 256]
def commitX (t : St) (s : Fs) : Option (Int × Int) × St × Fs :=
  if t.opn = false then (some (15, -1), t, s)
  else if t.left ≠ 0 then (some (4, t.left), t, s)
  else if sha (readB (s.bank (oth t)) t.total.toNat) ≠ t.sum then (some (6, -1), { t with opn := false }, s)
  else if s.left = 0 then (some (16, -1), { t with opn := false }, { s with mrk := s.mrk ++ [halfP true (markP (oth t) t.total)] })
  else (none, { t with opn := false, active := oth t, size := t.total }, { stepS s with mrk := s.mrk ++ [markP (oth t) t.total] })
/-- What may stand in a mark. -/
def MarkOk (m : List Int) : Prop := (∃ o n : Nat, o < 2 ∧ n ≤ 512 ∧ m = markP o n) ∨ (m.length < 4 ∧ Bytes m)
def markR : List (List Int) → Int × Int → Int × Int
  | [], r => r
  | m :: ms, r => markR ms (if fits m = true then (m.getD 0 0, m.getD 1 0 * 256 + m.getD 2 0) else r)
structure FsOk (s : Fs) : Prop where
  p0 : ∀ p ∈ s.b0, Bytes p ∧ p.length ≤ 100
  p1 : ∀ p ∈ s.b1, Bytes p ∧ p.length ≤ 100
  mrk : ∀ m ∈ s.mrk, MarkOk m
  l0 : s.b0.length ≤ 10000
  l1 : s.b1.length ≤ 10000
  lm : s.mrk.length ≤ 10000
  left : -1 ≤ s.left ∧ s.left ≤ 1000000
structure StOk (t : St) : Prop where
  active : t.active = -1 ∨ t.active = 0 ∨ t.active = 1
  size : 0 ≤ t.size ∧ t.size ≤ 100000
  sum : t.sum.length = 32
  total : 0 ≤ t.total ∧ t.total ≤ 512
  left : 0 ≤ t.left ∧ t.left ≤ 512
end Go.Proofs.Ytjbhcmkloamcmaa
