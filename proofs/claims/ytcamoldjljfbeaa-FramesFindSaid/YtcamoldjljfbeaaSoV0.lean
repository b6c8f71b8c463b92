/- Windows of a node: plain facts. -/
import Derived.Test.YtcamoldjljfbeaaSoU0
import Derived.Test.YtcamoldjljfbeaaSoR0
namespace Go.Proofs.Ytcamoldjljfbeaa

def lnOf (ps : List Pt) (i : Nat) : Int := (ps[i]?.map Pt.len).getD 0
theorem lnOf_at {ps : List Pt} {i : Nat} {p : Pt} (h : ps[i]? = some p) : lnOf ps i = p.len := by unfold lnOf; rw [h]; rfl
/-- No two windows of a node meet. -/
def Dis (ps : List Pt) : Prop := ∀ (i k : Nat) (p q : Pt), ps[i]? = some p → ps[k]? = some q → i ≠ k → ¬ (p.node = q.node ∧ p.start < q.start + q.len ∧ q.start < p.start + p.len)
theorem Dis.of {N : Int} {ps : List Pt} (h : winF N [] ps 0 = none) : Dis ps := fun _ _ _ _ hp hq hk => win_two h hp hq hk
/-- Into an order, behind all that begin no later. -/
def insS (st : Nat → Int) (x : Nat) : List Nat → List Nat
  | [] => [x]
  | y :: l => if st y ≤ st x then y :: insS st x l else x :: y :: l
theorem insS_perm (st : Nat → Int) (x : Nat) : ∀ l, (insS st x l).Perm (x :: l)
  | [] => List.Perm.refl _
  | y :: l => by
    unfold insS
    split
    · exact ((insS_perm st x l).cons y).trans (List.Perm.swap ..)
    · exact List.Perm.refl _
theorem insS_le (st : Nat → Int) (x : Nat) : ∀ l : List Nat, l.Pairwise (fun a b => st a ≤ st b) → (insS st x l).Pairwise (fun a b => st a ≤ st b)
  | [], _ => by simp [insS]
  | y :: l, h => by
    obtain ⟨h1, h2⟩ := List.pairwise_cons.1 h
    unfold insS
    split
    · rename_i hy
      refine List.pairwise_cons.2 ⟨fun z hz => ?_, insS_le st x l h2⟩
      rcases List.mem_cons.1 ((insS_perm st x l).mem_iff.1 hz) with rfl | hz
      · exact hy
      · exact h1 z hz
    · rename_i hy
      refine List.pairwise_cons.2 ⟨fun z hz => ?_, h⟩
      rcases List.mem_cons.1 hz with rfl | hz
      · omega
      · have := h1 z hz; omega
/-- Where it is put. -/
theorem insS_at (st : Nat → Int) (x : Nat) : ∀ (l : List Nat) (k : Nat), k ≤ l.length → (∀ j y, j < k → l[j]? = some y → st y ≤ st x) → (∀ y, l[k]? = some y → ¬ st y ≤ st x) → insS st x l = l.take k ++ [x] ++ l.drop k
  | [], k, hk, _, _ => by simp [insS]
  | y :: l, 0, _, _, h2 => by
    have := h2 y rfl
    unfold insS
    rw [if_neg this]
    simp
  | y :: l, k + 1, hk, h1, h2 => by
    unfold insS
    rw [if_pos (h1 0 y (by omega) rfl), insS_at st x l k (by simpa using hk) (fun j z hj hz => h1 (j + 1) z (by omega) (by simpa using hz)) fun z hz => h2 z (by simpa using hz)]
    simp
def ordK (ps : List Pt) (node : Int) : Nat → List Nat
  | 0 => []
  | k + 1 => if ndOf ps k = node then insS (stOf ps) k (ordK ps node k) else ordK ps node k
theorem ordK_perm (ps : List Pt) (node : Int) : ∀ k, (ordK ps node k).Perm (selL ps node k)
  | 0 => List.Perm.refl _
  | k + 1 => by
    rw [selL_succ]
    unfold ordK
    split
    · refine (insS_perm _ _ _).trans (((ordK_perm ps node k).cons k).trans ?_)
      exact (List.perm_append_comm (l₁ := [k]) (l₂ := selL ps node k))
    · exact ordK_perm ps node k
theorem ordK_le (ps : List Pt) (node : Int) : ∀ k, (ordK ps node k).Pairwise (fun a b => stOf ps a ≤ stOf ps b)
  | 0 => List.Pairwise.nil
  | k + 1 => by
    unfold ordK
    split
    · exact insS_le _ _ _ (ordK_le ps node k)
    · exact ordK_le ps node k
def ordL (ps : List Pt) (node : Int) : List Nat := ordK ps node ps.length
theorem ordL_ord (ps : List Pt) (node : Int) : Ord ps node (ordL ps node) := ⟨ordK_perm _ _ _, ordK_le _ _ _⟩
theorem Ord.uniq {ps : List Pt} {node : Int} {l : List Nat} (h : Ord ps node l) (hi : ∀ p ∈ ps, PtIn p) (hd : Dis ps) : l = ordL ps node := by
  refine List.Perm.eq_of_pairwise (le := fun a b => stOf ps a ≤ stOf ps b) (fun a b ha hb h1 h2 => ?_) h.le (ordL_ord ps node).le (h.perm.trans (ordL_ord ps node).perm.symm)
  obtain ⟨ja, ea⟩ := List.getElem?_of_mem ha
  obtain ⟨jb, eb⟩ := List.getElem?_of_mem hb
  obtain ⟨p, hp, np, _⟩ := h.at ea
  obtain ⟨q, hq, nq, _⟩ := (ordL_ord ps node).at eb
  rw [stOf_at hp, stOf_at hq] at h1 h2
  have ip := (hi p (List.mem_of_getElem? hp)).c
  have iq := (hi q (List.mem_of_getElem? hq)).c
  rcases Nat.lt_trichotomy a b with h3 | h3 | h3
  · exact absurd ⟨np.trans nq.symm, by omega, by omega⟩ (hd a b p q hp hq (by omega))
  · exact h3
  · exact absurd ⟨np.trans nq.symm, by omega, by omega⟩ (hd a b p q hp hq (by omega))
/-- One window behind the other. -/
theorem Ord.apart {ps : List Pt} {node : Int} {l : List Nat} (h : Ord ps node l) (hi : ∀ p ∈ ps, PtIn p) (hd : Dis ps) {j k a b : Nat} (hj : l[j]? = some a) (hk : l[k]? = some b) (hjk : j < k) : stOf ps a + lnOf ps a ≤ stOf ps b := by
  obtain ⟨p, hp, np, _⟩ := h.at hj
  obtain ⟨q, hq, nq, _⟩ := h.at hk
  have hle := h.le
  rw [List.pairwise_iff_getElem] at hle
  obtain ⟨a1, e1⟩ := List.getElem?_eq_some_iff.1 hj
  obtain ⟨a2, e2⟩ := List.getElem?_eq_some_iff.1 hk
  have h1 := hle j k a1 a2 hjk
  have nd := h.nodup
  rw [List.nodup_iff_pairwise_ne, List.pairwise_iff_getElem] at nd
  have h2 := nd j k a1 a2 hjk
  rw [e1, e2] at h1 h2
  rw [stOf_at hp, stOf_at hq] at h1
  rw [stOf_at hp, stOf_at hq, lnOf_at hp]
  have ip := (hi p (List.mem_of_getElem? hp)).c
  have iq := (hi q (List.mem_of_getElem? hq)).c
  have h3 := hd a b p q hp hq h2
  have h4 : p.node = q.node := np.trans nq.symm
  by_cases h5 : q.start < p.start + p.len
  · exact absurd ⟨h4, by omega, h5⟩ h3
  · omega
/-- A window as it lies in memory. -/
def winC (ps : List Pt) (i : Nat) : List Value := [.int .i64 (i : Int), .int .i64 (stOf ps i), .int .i64 (stOf ps i + lnOf ps i)]
theorem winC_len (ps : List Pt) (i : Nat) : (winC ps i).length = 3 := rfl
theorem winC_one (ps : List Pt) (i : Nat) : ∀ u ∈ winC ps i, u.oneCell' = true := by
  intro u hu
  simp [winC] at hu
  rcases hu with rfl | rfl | rfl <;> rfl
theorem At.win {w : World} {A : Option Addr} {n j i : Nat} {ps : List Pt} {l : List Nat} (h : At (winC ps) w A n l) (hx : l[j]? = some i) : ∃ a, A = some a ∧ w.cell? (a.add (j * 3)) = some (.int .i64 (i : Int)) ∧ w.cell? ⟨(a.add (j * 3)).block, (a.add (j * 3)).off + 1, none⟩ = some (.int .i64 (stOf ps i)) ∧
    w.cell? ⟨(a.add (j * 3)).block, (a.add (j * 3)).off + 2, none⟩ = some (.int .i64 (stOf ps i + lnOf ps i)) := by
  obtain ⟨a, rfl, h0⟩ := h.2 (j * 3) _ ((flat_get (winC_len ps) l j 0 i hx (by decide)).trans rfl)
  obtain ⟨a1, e, h1⟩ := h.2 (j * 3 + 1) _ ((flat_get (winC_len ps) l j 1 i hx (by decide)).trans rfl)
  injection e with e
  subst e
  obtain ⟨a2, e, h2⟩ := h.2 (j * 3 + 2) _ ((flat_get (winC_len ps) l j 2 i hx (by decide)).trans rfl)
  injection e with e
  subst e
  rw [← add_add, addr_lit _ _ (by decide)] at h1 h2
  exact ⟨a, rfl, h0, h1, h2⟩
/-- Is a time in a window? -/
def inW (ps : List Pt) (i : Nat) (t : Int) : Prop := stOf ps i ≤ t ∧ t < stOf ps i + lnOf ps i
/-- Whose window a time is in. -/
def AtIs (ps : List Pt) (node t r : Int) : Prop := (∃ i : Nat, i < ps.length ∧ ndOf ps i = node ∧ inW ps i t ∧ r = i) ∨ ((∀ i, i < ps.length → ndOf ps i = node → ¬ inW ps i t) ∧ r = -1)
theorem dis_in {ps : List Pt} {node t : Int} {i k : Nat} (hd : Dis ps) (h1 : i < ps.length) (h2 : ndOf ps i = node) (h3 : inW ps i t) (h4 : k < ps.length) (h5 : ndOf ps k = node) (h6 : inW ps k t) : i = k := by
  have e1 := List.getElem?_eq_getElem h1
  have e2 := List.getElem?_eq_getElem h4
  rw [ndOf_at e1] at h2
  rw [ndOf_at e2] at h5
  unfold inW at h3 h6
  rw [stOf_at e1, lnOf_at e1] at h3
  rw [stOf_at e2, lnOf_at e2] at h6
  rcases Nat.lt_trichotomy i k with h | h | h
  · exact absurd ⟨h2.trans h5.symm, by omega, by omega⟩ (hd i k _ _ e1 e2 (by omega))
  · exact h
  · exact absurd ⟨h2.trans h5.symm, by omega, by omega⟩ (hd i k _ _ e1 e2 (by omega))
theorem AtIs.uniq {ps : List Pt} {node t r s : Int} (hd : Dis ps) (h : AtIs ps node t r) (k : AtIs ps node t s) : r = s := by
  rcases h with ⟨i, h1, h2, h3, rfl⟩ | ⟨h1, rfl⟩
  · rcases k with ⟨j, k1, k2, k3, rfl⟩ | ⟨k1, rfl⟩
    · rw [dis_in hd h1 h2 h3 k1 k2 k3]
    · exact absurd h3 (k1 i h1 h2)
  · rcases k with ⟨j, k1, k2, k3, rfl⟩ | ⟨k1, rfl⟩
    · exact absurd k3 (h1 j k1 k2)
    · rfl
/-- The ends of a node's windows. -/
def EndOf (ps : List Pt) (node e : Int) : Prop := ∃ i : Nat, i < ps.length ∧ ndOf ps i = node ∧ (e = stOf ps i ∨ e = stOf ps i + lnOf ps i)
/-- The first of some times behind a time. -/
def NextOf (E : Int → Prop) (t b : Int) (fd : Bool) : Prop := (fd = true ∧ E b ∧ t < b ∧ ∀ e, E e → t < e → b ≤ e) ∨ (fd = false ∧ b = 0 ∧ ∀ e, E e → ¬ t < e)
theorem NextOf.uniq {E : Int → Prop} {t b c : Int} {f g : Bool} (h : NextOf E t b f) (k : NextOf E t c g) : b = c ∧ f = g := by
  rcases h with ⟨rfl, h1, h2, h3⟩ | ⟨rfl, rfl, h1⟩
  · rcases k with ⟨rfl, k1, k2, k3⟩ | ⟨rfl, rfl, k1⟩
    · have := h3 c k1 k2
      have := k3 b h1 h2
      exact ⟨by omega, rfl⟩
    · exact absurd h2 (k1 b h1)
  · rcases k with ⟨rfl, k1, k2, k3⟩ | ⟨rfl, rfl, k1⟩
    · exact absurd k2 (h1 c k1)
    · exact ⟨rfl, rfl⟩
theorem NextOf.none (E : Int → Prop) (hE : ∀ e, ¬ E e) (t : Int) : NextOf E t 0 false := .inr ⟨rfl, rfl, fun e h => absurd h (hE e)⟩
theorem NextOf.same {E F : Int → Prop} {t b : Int} {f : Bool} (h : NextOf E t b f) (k : ∀ e, E e ↔ F e) : NextOf F t b f := by
  rcases h with ⟨rfl, h1, h2, h3⟩ | ⟨rfl, rfl, h1⟩
  · exact .inl ⟨rfl, (k b).1 h1, h2, fun e he => h3 e ((k e).2 he)⟩
  · exact .inr ⟨rfl, rfl, fun e he => h1 e ((k e).2 he)⟩
/-- One more. -/
theorem NextOf.skip {E : Int → Prop} {t b x : Int} {f : Bool} (h : NextOf E t b f) (hx : t < x → f = true ∧ b ≤ x) : NextOf (fun e => E e ∨ e = x) t b f := by
  rcases h with ⟨rfl, h1, h2, h3⟩ | ⟨rfl, rfl, h1⟩
  · exact .inl ⟨rfl, .inl h1, h2, fun e he ht => he.elim (fun h => h3 e h ht) fun h => by subst h; exact (hx ht).2⟩
  · refine .inr ⟨rfl, rfl, fun e he ht => he.elim (fun h => h1 e h ht) fun h => ?_⟩
    subst h
    have := (hx ht).1
    cases this
theorem NextOf.take {E : Int → Prop} {t b x : Int} {f : Bool} (h : NextOf E t b f) (hx : t < x) (hb : f = true → x ≤ b) : NextOf (fun e => E e ∨ e = x) t x true := by
  rcases h with ⟨rfl, h1, h2, h3⟩ | ⟨rfl, rfl, h1⟩
  · exact .inl ⟨rfl, .inr rfl, hx, fun e he ht => he.elim (fun h => by have := h3 e h ht; have := hb rfl; omega) fun h => by omega⟩
  · exact .inl ⟨rfl, .inr rfl, hx, fun e he ht => he.elim (fun h => absurd ht (h1 e h)) fun h => by omega⟩
/-- The ends of the first windows of a list. -/
def EndsL (ps : List Pt) (l : List Nat) (e : Int) : Prop := ∃ i ∈ l, e = stOf ps i ∨ e = stOf ps i + lnOf ps i
theorem EndsL.snoc (ps : List Pt) (l : List Nat) (i : Nat) (e : Int) : EndsL ps (l ++ [i]) e ↔ ((EndsL ps l e ∨ e = stOf ps i) ∨ e = stOf ps i + lnOf ps i) := by
  unfold EndsL
  constructor
  · rintro ⟨k, hk, h⟩
    rcases List.mem_append.1 hk with hk | hk
    · exact .inl (.inl ⟨k, hk, h⟩)
    · obtain rfl := List.mem_singleton.1 hk
      exact h.elim (fun h => .inl (.inr h)) .inr
  · rintro ((⟨k, hk, h⟩ | h) | h)
    · exact ⟨k, List.mem_append_left _ hk, h⟩
    · exact ⟨i, by simp, .inl h⟩
    · exact ⟨i, by simp, .inr h⟩
theorem EndsL.ord {ps : List Pt} {node : Int} {l : List Nat} (h : Ord ps node l) (e : Int) : EndsL ps l e ↔ EndOf ps node e := by
  constructor
  · rintro ⟨i, hi, he⟩
    obtain ⟨h1, h2⟩ := h.mem.1 hi
    exact ⟨i, h1, h2, he⟩
  · rintro ⟨i, h1, h2, he⟩
    exact ⟨i, h.mem.2 ⟨h1, h2⟩, he⟩
/-- How long a list's windows are together. -/
def sumL (ps : List Pt) : List Nat → Int
  | [] => 0
  | i :: l => lnOf ps i + sumL ps l
theorem sumL_app (ps : List Pt) : ∀ l m, sumL ps (l ++ m) = sumL ps l + sumL ps m
  | [], m => by simp [sumL]
  | i :: l, m => by simp [sumL, sumL_app ps l m]; omega
theorem sumL_perm {ps : List Pt} {l m : List Nat} (h : l.Perm m) : sumL ps l = sumL ps m := by
  induction h with
  | nil => rfl
  | cons x _ ih => simp [sumL, ih]
  | swap x y l => simp only [sumL]; omega
  | trans _ _ h1 h2 => exact h1.trans h2
theorem sumL_bd {ps : List Pt} (hi : ∀ p ∈ ps, PtIn p) : ∀ l : List Nat, 0 ≤ sumL ps l ∧ sumL ps l ≤ 268435456 * l.length
  | [] => by simp [sumL]
  | i :: l => by
    have ih := sumL_bd hi l
    have h1 : 0 ≤ lnOf ps i ∧ lnOf ps i ≤ 268435456 := by
      unfold lnOf
      rcases h : ps[i]? with _ | p
      · simp
      · have := hi p (List.mem_of_getElem? h)
        have h1 := this.c
        have h2 := this.d
        simp only [Option.map_some, Option.getD_some]
        omega
    simp only [sumL, List.length_cons]
    omega
theorem st_bd {ps : List Pt} (hi : ∀ p ∈ ps, PtIn p) (i : Nat) : 0 ≤ stOf ps i ∧ stOf ps i ≤ 268435456 ∧ 0 ≤ lnOf ps i ∧ lnOf ps i ≤ 268435456 := by
  unfold lnOf stOf
  rcases h : ps[i]? with _ | p
  · simp
  · have := hi p (List.mem_of_getElem? h)
    have h1 := this.a
    have h2 := this.b
    have h3 := this.c
    have h4 := this.d
    simp only [Option.map_some, Option.getD_some]
    omega
end Go.Proofs.Ytcamoldjljfbeaa
