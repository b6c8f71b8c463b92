/- QueuePlays walked. -/
import Derived.Test.YtjejkmnlkmcckaaQuS
import Derived.Test.YtjejkmnlkmcckaaApp
namespace Go.Proofs.Ytjejkmnlkmcckaa
open Go.RowKit

/-- The acts that came in. -/
def Acts (w : World) (A : Option Addr) (es : List (Bool × Int × Int × Int)) : Prop :=
  ∀ (i : Nat) e, es[i]? = some e → ∃ a, A = some a ∧ w.cell? (a.add (i * 4)) = some (.bool e.1) ∧ w.cell? ⟨(a.add (i * 4)).block, (a.add (i * 4)).off + 1, none⟩ = some (.int .i64 e.2.1) ∧
    w.cell? ⟨(a.add (i * 4)).block, (a.add (i * 4)).off + 2, none⟩ = some (.int .i64 e.2.2.1) ∧ w.cell? ⟨(a.add (i * 4)).block, (a.add (i * 4)).off + 3, none⟩ = some (.int .i64 e.2.2.2)
theorem four {w : World} {r : List Value} (hl : r.length = 4) (hf : ∀ (j : Nat) s v, [Sh.bool, .int .i64, .int .i64, .int .i64][j]? = some s → r[j]? = some v → Fits w s v) : ∃ e : Bool × Int × Int × Int, r = [.bool e.1, .int .i64 e.2.1, .int .i64 e.2.2.1, .int .i64 e.2.2.2] := by
  obtain ⟨x, r1, rfl, e1⟩ := arr_cons hl
  obtain ⟨y, r2, rfl, e2⟩ := arr_cons e1
  obtain ⟨z, r3, rfl, e3⟩ := arr_cons e2
  obtain ⟨u, r4, rfl, e4⟩ := arr_cons e3
  obtain rfl := List.length_eq_zero_iff.1 e4
  obtain ⟨x', rfl⟩ := (hf 0 _ _ rfl rfl).bool_inv
  obtain ⟨y', rfl, _⟩ := (hf 1 _ _ rfl rfl).int_inv
  obtain ⟨z', rfl, _⟩ := (hf 2 _ _ rfl rfl).int_inv
  obtain ⟨u', rfl, _⟩ := (hf 3 _ _ rfl rfl).int_inv
  exact ⟨(x', y', z', u'), rfl⟩
theorem acts_of {w : World} {A : Option Addr} {len cap : Nat} {rows : List (List Value)} (h : Rows' w [.bool, .int .i64, .int .i64, .int .i64] A len cap rows) : ∃ es, es.length = len ∧ Acts w A es := by
  classical
  have hr : ∀ r ∈ rows, ∃ e : Bool × Int × Int × Int, r = [.bool e.1, .int .i64 e.2.1, .int .i64 e.2.2.1, .int .i64 e.2.2.2] := fun r hr => four (h.each r hr) (h.fits r hr)
  refine ⟨rows.map fun r => if h : r ∈ rows then (hr r h).choose else (false, 0, 0, 0), by rw [List.length_map]; exact h.n, fun i e he => ?_⟩
  rw [List.getElem?_map, Option.map_eq_some_iff] at he
  obtain ⟨r, hri, rfl⟩ := he
  have hm := List.mem_of_getElem? hri
  rw [dif_pos hm]
  have e := (hr r hm).choose_spec
  generalize (hr r hm).choose = x at e ⊢
  subst e
  obtain ⟨a, rfl, h0⟩ := h.cell i 0 _ _ hri rfl
  obtain ⟨a1, e1, h1⟩ := h.cell i 1 _ _ hri rfl
  obtain ⟨a2, e2, h2⟩ := h.cell i 2 _ _ hri rfl
  obtain ⟨a3, e3, h3⟩ := h.cell i 3 _ _ hri rfl
  injection e1 with e1
  injection e2 with e2
  injection e3 with e3
  subst e1 e2 e3
  rw [← add_add, addr_lit _ _ (by decide)] at h1 h2 h3
  exact ⟨a, rfl, h0, h1, h2, h3⟩

def wcells (wl : List It) : List Value := wl.flatMap fun x => [.int .i64 x.at_, .int .i64 x.rank, .int .i64 x.what]
theorem wcells_append (l m : List It) : wcells (l ++ m) = wcells l ++ wcells m := by simp [wcells]
theorem wcells_len (l : List It) : (wcells l).length = l.length * 3 := by
  induction l with
  | nil => rfl
  | cons x l ih => rw [show wcells (x :: l) = [.int .i64 x.at_, .int .i64 x.rank, .int .i64 x.what] ++ wcells l from rfl, List.length_append, ih, List.length_cons, List.length_cons, List.length_cons, List.length_cons, List.length_nil]; omega
theorem wcells_one (l : List It) : ∀ u ∈ wcells l, u.oneCell' = true := by
  intro u hu
  obtain ⟨x, _, hx⟩ := List.mem_flatMap.1 hu
  simp at hx
  rcases hx with rfl | rfl | rfl <;> rfl
theorem wcells_take (l : List It) (b : Nat) (hb : b ≤ l.length) : (wcells l).take (b * 3) = wcells (l.take b) := by
  have h := wcells_append (l.take b) (l.drop b)
  rw [List.take_append_drop] at h
  rw [h]
  have hl : (wcells (l.take b)).length = b * 3 := by rw [wcells_len, List.length_take, Nat.min_eq_left hb]
  rw [← hl, List.take_left']
  rfl
theorem wcells_drop (l : List It) (b : Nat) (hb : b ≤ l.length) : (wcells l).drop (b * 3) = wcells (l.drop b) := by
  have h := wcells_append (l.take b) (l.drop b)
  rw [List.take_append_drop] at h
  rw [h]
  have hl : (wcells (l.take b)).length = b * 3 := by rw [wcells_len, List.length_take, Nat.min_eq_left hb]
  rw [← hl, List.drop_left']
  rfl
theorem wcells_get : ∀ (l : List It) (i j : Nat) (x : It), l[i]? = some x → j < 3 → (wcells l)[i * 3 + j]? = [Value.int .i64 x.at_, .int .i64 x.rank, .int .i64 x.what][j]?
  | [], i, j, x, h, _ => by simp at h
  | y :: l, 0, j, x, h, hj => by
    injection h with h
    subst h
    rw [wcells, List.flatMap_cons, List.getElem?_append_left (by simp; omega), Nat.zero_mul, Nat.zero_add]
  | y :: l, i + 1, j, x, h, hj => by
    rw [wcells, List.flatMap_cons, List.getElem?_append_right (by simp; omega), show (i + 1) * 3 + j - [Value.int .i64 y.at_, .int .i64 y.rank, .int .i64 y.what].length = i * 3 + j by simp; omega]
    exact wcells_get l i j x (by simpa using h) hj
theorem want_at {w : World} {A : Option Addr} {l : List It} (h : Cells w A (wcells l)) {i : Nat} {x : It} (hx : l[i]? = some x) : ∃ a, A = some a ∧ w.cell? (a.add (i * 3)) = some (.int .i64 x.at_) ∧
    w.cell? ⟨(a.add (i * 3)).block, (a.add (i * 3)).off + 1, none⟩ = some (.int .i64 x.rank) ∧ w.cell? ⟨(a.add (i * 3)).block, (a.add (i * 3)).off + 2, none⟩ = some (.int .i64 x.what) := by
  obtain ⟨a, rfl, h0⟩ := h _ _ (wcells_get l i 0 x hx (by decide))
  obtain ⟨a1, e1, h1⟩ := h _ _ (wcells_get l i 1 x hx (by decide))
  obtain ⟨a2, e2, h2⟩ := h _ _ (wcells_get l i 2 x hx (by decide))
  injection e1 with e1
  injection e2 with e2
  subst e1 e2
  rw [← add_add, addr_lit _ _ (by decide)] at h1 h2
  exact ⟨a, rfl, h0, h1, h2⟩

/-- The law's own order, and its choice. -/
def lt2 (a b : It) : Bool := decide (a.at_ < b.at_ ∨ (a.at_ = b.at_ ∧ a.rank < b.rank))
def bst (wl : List It) : Nat → Nat
  | 0 => 0
  | k + 1 => if lt2 (gt wl k) (gt wl (bst wl k)) = true then k else bst wl k
theorem bst_spec (wl : List It) : ∀ k, (bst wl k = 0 ∨ bst wl k < k) ∧ (∀ j, j < k → lt2 (gt wl j) (gt wl (bst wl k)) = false) ∧ ∀ j, j < bst wl k → lt2 (gt wl (bst wl k)) (gt wl j) = true
  | 0 => ⟨.inl rfl, fun j h => by omega, fun j h => by simp [bst] at h⟩
  | k + 1 => by
    obtain ⟨h1, h2, h3⟩ := bst_spec wl k
    rw [bst]
    split
    · rename_i h
      refine ⟨.inr (Nat.lt_succ_self k), fun j hj => ?_, fun j hj => ?_⟩
      · by_cases hjk : j = k
        · subst hjk
          simp [lt2]
        · have := h2 j (by omega)
          simp only [lt2, decide_eq_true_eq, decide_eq_false_iff_not] at h this ⊢
          omega
      · have := h2 j hj
        simp only [lt2, decide_eq_true_eq, decide_eq_false_iff_not] at h this ⊢
        omega
    · rename_i h
      refine ⟨by omega, fun j hj => ?_, h3⟩
      by_cases hjk : j = k
      · subst hjk
        simpa using h
      · exact h2 j (by omega)

structure Plays (l wl : List It) (n : Nat) : Prop where
  heap : IsHeap l
  perm : l.Perm wl
  asc : wl.Pairwise fun a b => a.n < b.n
  top : ∀ x ∈ wl, x.n ≤ n
theorem plays_put {l wl : List It} {n : Nat} (h : Plays l wl n) (e0 e1 e2 : Int) : Plays (qput l e0 e1 e2 n) (wl ++ [⟨e0, e1, e2, ((n + 1 : Nat) : Int)⟩]) (n + 1) := by
  obtain ⟨h1, h2⟩ := qput_heap h.heap e0 e1 e2 n
  refine ⟨h1, h2.trans ((List.Perm.cons _ h.perm).trans (List.perm_append_comm (l₁ := [_]) (l₂ := wl))), ?_, ?_⟩
  · rw [List.pairwise_append]
    refine ⟨h.asc, by simp, fun a ha b hb => ?_⟩
    have := h.top a ha
    obtain rfl := List.mem_singleton.1 hb
    show a.n < ((n + 1 : Nat) : Int)
    omega
  · intro x hx
    rcases List.mem_append.1 hx with hx | hx
    · have := h.top x hx; omega
    · obtain rfl := List.mem_singleton.1 hx
      exact Int.le_refl _
theorem plays_take {l wl : List It} {n m : Nat} {z y : It} (h : Plays l wl n) (hl : l.length = m + 1) (hz : l[0]? = some z) (hy : l[m]? = some y) :
    bst wl (m + 1) < m + 1 ∧ wl[bst wl (m + 1)]? = some z ∧ Plays (qtake l y) (wl.take (bst wl (m + 1)) ++ wl.drop (bst wl (m + 1) + 1)) n := by
  obtain ⟨h1, h2, h3⟩ := qtake_heap h.heap hl hz hy
  obtain ⟨b1, b2, b3⟩ := bst_spec wl (m + 1)
  have hb : bst wl (m + 1) < m + 1 := by omega
  generalize bst wl (m + 1) = b at b1 b2 b3 hb ⊢
  have hwl : wl.length = m + 1 := by rw [← h.perm.length_eq, hl]
  have hzw : z ∈ wl := h.perm.mem_iff.1 (List.mem_of_getElem? hz)
  obtain ⟨j, hj, hje⟩ := List.getElem_of_mem hzw
  have hgj : gt wl j = z := by rw [gt_some (List.getElem?_eq_getElem hj), hje]
  have hle : le z (gt wl b) := h3 _ (h.perm.mem_iff.2 (List.mem_of_getElem? (some_gt (by omega))))
  have hno := b2 j (by omega)
  rw [hgj] at hno
  have hjb : j = b := by
    rw [le_iff] at hle
    simp only [lt2, decide_eq_false_iff_not] at hno
    rcases Nat.lt_trichotomy j b with hlt | rfl | hlt
    · have h' := b3 j hlt
      rw [hgj] at h'
      simp only [lt2, decide_eq_true_eq] at h'
      omega
    · rfl
    · have h' := List.pairwise_iff_getElem.1 h.asc b j (by omega) hj hlt
      rw [hje] at h'
      have e : wl[b]'(by omega) = gt wl b := (gt_some (List.getElem?_eq_getElem (by omega))).symm
      rw [e] at h'
      omega
  subst hjb
  have hzj : wl[j]? = some z := by rw [List.getElem?_eq_getElem hj, hje]
  refine ⟨hb, hzj, h1, ?_, ?_, fun x hx => ?_⟩
  · have e : wl.take j ++ z :: wl.drop (j + 1) = wl := by
      conv => rhs; rw [← List.take_append_drop j wl, List.drop_eq_getElem_cons hj, hje]
    have hp : (z :: (wl.take j ++ wl.drop (j + 1))).Perm wl := by
      conv => rhs; rw [← e]
      exact List.perm_middle.symm
    exact ((h2.trans h.perm).trans hp.symm).cons_inv
  · refine h.asc.sublist ?_
    conv => rhs; rw [← List.take_append_drop j wl]
    exact List.Sublist.append (List.Sublist.refl _) (by rw [← List.drop_drop]; exact List.drop_sublist _ _)
  · refine h.top x ?_
    rcases List.mem_append.1 hx with hx | hx
    · exact List.mem_of_mem_take hx
    · exact List.mem_of_mem_drop hx

theorem info_ev : (Try.prog.info? 28).map (fun i => (i.zero, i.size, i.bytes)) = some (some (.agg #[.int .i64 0, .int .i64 0, .int .i64 0]), 3, 24) := by kernel_rfl
set_option maxRecDepth 100000 in
set_option maxHeartbeats 4000000 in
theorem queuePlays_walk (A0 : Option Addr) (len0 cap0 : Nat) (z0 : List (List Value)) (w : World) (hr : Rows' w [.bool, .int .i64, .int .i64, .int .i64] A0 len0 cap0 z0) :
    Calls Try.prog 3 #[.slice A0 len0 cap0] w fun e w' => e = .returned (.bool true) ∧ Below w.heap.size w w' := by
  obtain ⟨es, hel, hev⟩ := acts_of hr
  clear hr
  replace hel := Hidd.mk hel
  replace hev := Hidd.mk hev
  obtain ⟨iE, hE⟩ := info_parts info_ev
  replace hE := Hidd.mk hE
  go_enter Try.func3, Try.ntmps3
  go_wp2_with (first
    | (go_at_call 13; refine (awake_any _).mono ?_; rintro e w1 ⟨rfl, hb1⟩; have ho1 := Hidd.mk ((Own.nil w (fun _ => False)).ext hb1); clear hb1)
    | (go_at_call 14; refine (new_own _).mono ?_; rintro e w2 ⟨b, rfl, hn2⟩; have ho2 := ho1.out.made hn2; replace ho2 := Hidd.mk ((ho2.new (wres 28 3 none 0 0 []) (Below.refl _ _) (wres_nil _ _ _) (fun i hi => by cases hi)).perm (List.Perm.swap _ _ _)); clear hn2))
  go_loopw [4, 5] (fun v4 v5 wr => ∃ (i m n : Nat) (A : Option Addr) (cap : Nat) (B : Option Addr) (capB : Nat) (l wl : List It), v5 = .int .i64 i ∧ i ≤ len0 ∧ i ≤ 400 ∧ v4 = .slice B m capB ∧ n ≤ i ∧ m ≤ i ∧ Hidd (Own w (fun _ => False) wr [qres b A m cap l n, wres 28 3 B m capB (wcells wl)]) ∧ Hidd (Plays l wl n)) (fun _ v5 _ => len0 - (intOf v5).toNat)
  case atStart => exact ⟨0, 0, 0, none, 0, none, 0, [], [], rfl, Nat.zero_le _, by decide, rfl, by decide, by decide, ho2, ⟨isHeap_nil, List.Perm.refl _, List.Pairwise.nil, by simp⟩⟩
  case round =>
    clear ho2
    obtain ⟨i, m, n, A, cap, B, capB, l, wl, rfl, hi, hi4, rfl, hn, hm, ho, hp⟩ := hrel
    by_cases hlt : i < len0 ∧ i < 400
    · obtain ⟨hlt1, hlt2⟩ := hlt
      have hd1 : decide ((i : Int) < (len0 : Int)) = true := by rw [decide_eq_true_eq]; omega
      have hd2 : decide ((i : Int) < 400) = true := by rw [decide_eq_true_eq]; omega
      obtain ⟨⟨t, e0, e1, e2⟩, hx⟩ : ∃ x, es[i]? = some x := ⟨_, List.getElem?_eq_getElem (by rw [hel.out]; exact hlt1)⟩
      obtain ⟨ad, rfl, x0, x1, x2, x3⟩ := hev.out i _ hx
      have hw1 := Hidd.mk x1
      have hw2 := Hidd.mk x2
      have hw3 := Hidd.mk x3
      replace x0 := bkeep (ho.out.below fun _ => id) x0
      replace x1 := bkeep (ho.out.below fun _ => id) x1
      replace x2 := bkeep (ho.out.below fun _ => id) x2
      replace x3 := bkeep (ho.out.below fun _ => id) x3
      simp only at x0 x1 x2 x3
      clear hx
      cases t
      · have hpp := Hidd.mk (plays_put hp.out e0 e1 e2)
        go_wp2_with (first
          | (go_at_call 15; refine (put_own 0 ho.out rfl _ _ _ (by omega) (by omega)).mono ?_; rintro e w5 ⟨rfl, A', cap', ho5⟩; replace ho5 := Hidd.mk ho5; have y1 := bkeep (ho5.out.below fun _ => id) hw1.out; have y2 := bkeep (ho5.out.below fun _ => id) hw2.out; have y3 := bkeep (ho5.out.below fun _ => id) hw3.out; simp only at y1 y2 y3)
          | (at_builtin; refine wpList_want rfl _ _ 26 rfl 28 iE (.agg #[.int .i64 0, .int .i64 0, .int .i64 0]) 3 24 (by rfl) hE.out.1 hE.out.2.1 hE.out.2.2.1 hE.out.2.2.2 (by rfl) (by decide) (ho5.out.alloc _) 2 B m capB (wcells wl) rfl rfl _ 1 1 [.int .i64 e0, .int .i64 e1, .int .i64 e2] rfl rfl (Cells.new _ _ _ _ rfl) (wcells_one [⟨e0, e1, e2, 0⟩]) (by decide) (by unfold maxLen; omega) (by omega) ?_; intro B' capB' w6 ho6; replace ho6 := Hidd.mk ho6.tail))
        go_roundw
        case rel => exact ⟨i + 1, m + 1, n + 1, A', cap', B', capB', _, _, by go_num, by omega, by omega, rfl, by omega, by omega, ⟨by have h := ho6.out; rw [show wcells wl ++ [Value.int .i64 e0, .int .i64 e1, .int .i64 e2] = wcells (wl ++ [⟨e0, e1, e2, ((n + 1 : Nat) : Int)⟩]) from (wcells_append wl [⟨e0, e1, e2, ((n + 1 : Nat) : Int)⟩]).symm] at h; exact h⟩, hpp⟩
        case measure => simp [intOf]; omega
      · rcases m with _ | m
        · go_wp2_with (first
            | (go_at_call 16; refine (takeNone_own 0 ho.out rfl).mono ?_; rintro e w5 ⟨rfl, ho5⟩; replace ho5 := Hidd.mk ho5)
            | (go_at_call 17; refine (readNil 10 (by decide) (by decide) _).mono ?_; rintro e w8 ⟨rfl, hb8⟩; have ho8 := Hidd.mk (((ho5.out.alloc _).ext hb8).tail))
            | (go_at_call 18; refine (e_any 10 _ (by decide) (by decide)).mono ?_; rintro e w9 ⟨rfl, hb9⟩; have ho9 := Hidd.mk (ho8.out.ext hb9)))
          go_roundw
          case rel => exact ⟨i + 1, 0, n, A, cap, B, capB, l, wl, by go_num, by omega, by omega, rfl, by omega, by omega, ho9, hp⟩
          case measure => simp [intOf]; omega
        · have hll := Hidd.mk (ho.out.qlen 0 rfl)
          obtain ⟨z, hz⟩ : ∃ z, l[0]? = some z := ⟨_, List.getElem?_eq_getElem (by rw [hll.out]; omega)⟩
          obtain ⟨y, hy⟩ : ∃ z, l[m]? = some z := ⟨_, List.getElem?_eq_getElem (by rw [hll.out]; omega)⟩
          obtain ⟨hb1, hb2, hb3⟩ := plays_take hp.out hll.out hz hy
          have hwl : Hidd (wl.length = m + 1) := ⟨by rw [← hp.out.perm.length_eq, hll.out]⟩
          obtain ⟨z0, z1, z2, z3⟩ := z
          replace hb2 := Hidd.mk hb2
          replace hb3 := Hidd.mk hb3
          replace hz := Hidd.mk hz
          replace hy := Hidd.mk hy
          obtain ⟨ab, rfl, _⟩ := want_at (show WIn wr 28 3 B (m + 1) capB (wcells wl) from ho.out.get 1 rfl).cells hb2.out
          have hcap := (show WIn wr 28 3 (some ab) (m + 1) capB (wcells wl) from ho.out.get 1 rfl).le.1
          have hm0 : ((m : Int) + 1 == 0) = false := by rw [beq_eq_false_iff_ne]; omega
          clear x1 x2 x3
          go_wp2_with (go_at_call 16; refine (take_own 0 ho.out rfl (last := m) (by omega) hz.out hy.out).mono ?_; rintro e w5 ⟨rfl, ho5⟩; replace ho5 := Hidd.mk (ho5.alloc (.cells #[.int .i64 z0, .int .i64 z1, .int .i64 z2] 28)))
          generalize w5.heap.size = p6 at ho5 ⊢
          generalize w5.alloc _ = w6 at ho5 ⊢
          clear x0
          go_loopw [8, 64] (fun v8 v64 wx => ∃ (k b' : Nat), v64 = .int .i64 k ∧ k ≤ m + 1 ∧ v8 = .int .i64 b' ∧ b' < m + 1 ∧ Hidd (bst wl k = b') ∧ Hidd (Own w (fun _ => False) wx [blk p6 (.cells #[.int .i64 z0, .int .i64 z1, .int .i64 z2] 28), qres b A m cap (qtake l y) n, wres 28 3 (some ab) (m + 1) capB (wcells wl)])) (fun _ v64 _ => m + 1 - (intOf v64).toNat)
          case atStart => exact ⟨0, 0, rfl, by omega, rfl, by omega, ⟨rfl⟩, ho5⟩
          case round =>
            clear ho5
            obtain ⟨k, b', rfl, hk, rfl, hb', hbk, ho6⟩ := hrel
            by_cases hkl : k < m + 1
            · obtain ⟨x, hx⟩ : ∃ x, wl[k]? = some x := ⟨_, List.getElem?_eq_getElem (by rw [hwl.out]; exact hkl)⟩
              obtain ⟨y', hy'⟩ : ∃ x, wl[b']? = some x := ⟨_, List.getElem?_eq_getElem (by rw [hwl.out]; exact hb')⟩
              have hbs : bst wl (k + 1) = if lt2 x y' = true then k else b' := by rw [bst, hbk.out, gt_some hx, gt_some hy']
              obtain ⟨q0, q1, q2, q3⟩ := x
              obtain ⟨r0, r1, r2, r3⟩ := y'
              replace hx := Hidd.mk hx
              replace hy' := Hidd.mk hy'
              have hgo : ∀ G : Prop, (q0 < r0 → Hidd (bst wl (k + 1) = k) → G) → (q0 = r0 → q1 < r1 → Hidd (bst wl (k + 1) = k) → G) → (q0 = r0 → ¬ q1 < r1 → Hidd (bst wl (k + 1) = b') → G) → (r0 < q0 → Hidd (bst wl (k + 1) = b') → G) → G := fun G g1 g2 g3 g4 => by
                rcases Int.lt_trichotomy q0 r0 with h | h | h
                · exact g1 h ⟨by rw [hbs, if_pos (by simp [lt2]; omega)]⟩
                · by_cases h1 : q1 < r1
                  · exact g2 h h1 ⟨by rw [hbs, if_pos (by simp [lt2]; omega)]⟩
                  · exact g3 h h1 ⟨by rw [hbs, if_neg (by simp [lt2]; omega)]⟩
                · exact g4 h ⟨by rw [hbs, if_neg (by simp [lt2]; omega)]⟩
              clear hbs
              have bk0 : (0 : Int) ≤ (k : Int) := by omega
              have bk1 : (k : Int) < (m : Int) + 1 := by omega
              have bb0 : (0 : Int) ≤ (b' : Int) := by omega
              have bb1 : (b' : Int) < (m : Int) + 1 := by omega
              refine hgo _ (fun h hs => ?ca) (fun h h1 hs => ?cb) (fun h h1 hs => ?cc) (fun h hs => ?cd)
              all_goals clear hgo
              case' ca =>
                have d1 : decide (q0 < r0) = true := by rw [decide_eq_true_eq]; exact h
                clear h
              case' cb =>
                subst h
                have d1 : decide (q1 < r1) = true := by rw [decide_eq_true_eq]; exact h1
                clear h1
              case' cc =>
                subst h
                have d1 : decide (q1 < r1) = false := by rw [decide_eq_false_iff_not]; exact h1
                clear h1
              case' cd =>
                have d1 : decide (q0 < r0) = false := by rw [decide_eq_false_iff_not]; omega
                have d2 : (q0 == r0) = false := by rw [beq_eq_false_iff_ne]; omega
                clear h
              all_goals
                go_wp2
                obtain ⟨wy, hwy⟩ : ∃ zz, zz = World.drew wr := ⟨_, rfl⟩
                refine wp_region_still_lit (by kernel_rfl) (by kernel_rfl) (StW.out ?_)
                rw [show ({ wr with drawn := wr.drawn + 1 } : World) = wy from hwy.symm]
                replace hwy := Hidd.mk hwy
                have ho7 : Hidd (Own w (fun _ => False) wy [blk p6 (.cells #[.int .i64 z0, .int .i64 z1, .int .i64 z2] 28), qres b A m cap (qtake l y) n, wres 28 3 (some ab) (m + 1) capB (wcells wl)]) := ⟨by rw [hwy.out]; exact ho6.out.drew⟩
                clear hwy ho6
                obtain ⟨_, e1, q0', q1', _⟩ := want_at (show WIn wy 28 3 (some ab) (m + 1) capB (wcells wl) from ho7.out.get 2 rfl).cells hx.out
                injection e1 with e1
                subst e1
                obtain ⟨_, e1, r0', r1', _⟩ := want_at (show WIn wy 28 3 (some ab) (m + 1) capB (wcells wl) from ho7.out.get 2 rfl).cells hy'.out
                injection e1 with e1
                subst e1
                simp only at q0' q1' r0' r1'
                repeat (first | (refine StW.skip (by rfl) ?_; simp only [Act.put, List.setIfInBounds_toArray, List.set_cons_zero, List.set_cons_succ]) | (refine StW.go (by rfl) (fun K hK => ?_); go_simp; refine hK.out _ ?_; clear hK K))
                refine StW.nil ?_
                go_wp2
                go_roundw
                case rel => first | exact ⟨k + 1, k, by go_num, by omega, rfl, by omega, hs, ho7⟩ | exact ⟨k + 1, b', by go_num, by omega, rfl, by omega, hs, ho7⟩
                case measure => simp [intOf]; omega
            · obtain rfl : k = m + 1 := by omega
              rw [hbk.out] at hb2 hb3
              obtain ⟨d, rfl⟩ : ∃ d, m = b' + d := ⟨m - b', by omega⟩
              go_wp2
              obtain ⟨wy, hwy⟩ : ∃ zz, zz = World.drew wr := ⟨_, rfl⟩
              refine wp_region_still_lit (by kernel_rfl) (by kernel_rfl) (StW.out ?_)
              rw [show ({ wr with drawn := wr.drawn + 1 } : World) = wy from hwy.symm]
              replace hwy := Hidd.mk hwy
              have ho7 : Hidd (Own w (fun _ => False) wy [blk p6 (.cells #[.int .i64 z0, .int .i64 z1, .int .i64 z2] 28), qres b A (b' + d) cap (qtake l y) n, wres 28 3 (some ab) (b' + d + 1) capB (wcells wl)]) := ⟨by rw [hwy.out]; exact ho6.out.drew⟩
              clear hwy ho6
              obtain ⟨_, e1, r0', r1', r2'⟩ := want_at (show WIn wy 28 3 (some ab) (b' + d + 1) capB (wcells wl) from ho7.out.get 2 rfl).cells hb2.out
              injection e1 with e1
              subst e1
              have y0 := ho7.out.cell 0 rfl 0
              have y1 := ho7.out.cell 0 rfl 1
              have y2 := ho7.out.cell 0 rfl 2
              simp at y0 y1 y2
              simp only at r0' r1' r2'
              have bb0 : (0 : Int) ≤ (b' : Int) := by omega
              have bb1 : (b' : Int) < (b' : Int) + (d : Int) + 1 := by omega
              repeat (first | (refine StW.skip (by rfl) ?_; simp only [Act.put, List.setIfInBounds_toArray, List.set_cons_zero, List.set_cons_succ]) | (refine StW.go (by rfl) (fun K hK => ?_); go_simp; refine hK.out _ ?_; clear hK K))
              refine StW.nil ?_
              go_wp2
              have hcb : b' ≤ capB := by omega
              have hcb1 : b' + 1 ≤ capB := by omega
              have hcb2 : b' + 1 ≤ b' + d + 1 := by omega
              have hcb3 : (b' : Int) ≤ (b' : Int) + 1 := by omega
              have hcb4 : ((b' + 1 : Nat) : Int) ≤ (b' : Int) + (d : Int) + 1 := by omega
              have hcb5 : (0 : Int) ≤ (b' : Int) + 1 := by omega
              have hcb6 : (b' : Int) ≤ (b' : Int) + (d : Int) := by omega
              have hwr : IntKind.i64.wrap ((b' : Int) + 1) = ((b' + 1 : Nat) : Int) := (IntWalk.i64_in ((b' : Int) + 1) (by omega)).trans (by omega)
              have hcl := wcells_take wl b' (by rw [hwl.out]; omega)
              have hdr : Hidd ((wcells wl).drop ((b' + 1) * 3) = wcells (wl.drop (b' + 1))) := ⟨wcells_drop wl (b' + 1) (by rw [hwl.out]; omega)⟩
              have hlen : Hidd ((wcells (wl.drop (b' + 1))).length = d * 3) := ⟨by rw [wcells_len, List.length_drop, hwl.out]; congr 1; omega⟩
              replace hcl := Hidd.mk hcl
              by_cases hcc : capB = b' + 1
              case' pos =>
                obtain rfl : d = 0 := by omega
                have hB : Hidd (∀ w : World, Cells w (some ab) (wcells (wl.drop (b' + 1)))) := ⟨fun w => by
                  have : wcells (wl.drop (b' + 1)) = [] := List.length_eq_zero_iff.1 (by rw [hlen.out])
                  rw [this]; exact Cells.nil _ _⟩
              case' neg =>
                have hB : Hidd (∀ w : World, Cells w (some ab) (wcells wl) → Cells w (some (ab.add ((b' + 1) * 3))) (wcells (wl.drop (b' + 1)))) := ⟨fun w h => by have h' := h.drop ((b' + 1) * 3); rw [hdr.out] at h'; exact h'⟩
              all_goals
                obtain ⟨wz, hwz⟩ : ∃ zz, zz = World.drew wy := ⟨_, rfl⟩
                refine wp_region_order [] [0, 1, 2, 3, 4, 5, 6, 7] [8, 9] (by kernel_rfl) (by kernel_rfl) ?_
                rw [show ({ wy with drawn := wy.drawn + 1 } : World) = wz from hwz.symm]
                replace hwz := Hidd.mk hwz
                simp only [List.map_cons, List.map_nil, List.getD_cons_succ, List.getD_cons_zero]
                have ho8 : Hidd (Own w (fun _ => False) wz [blk p6 (.cells #[.int .i64 z0, .int .i64 z1, .int .i64 z2] 28), qres b A _ cap (qtake l y) n, wres 28 3 (some ab) _ capB (wcells wl)]) := ⟨by rw [hwz.out]; exact ho7.out.drew⟩
                clear hwz ho7 y0 y1 y2 r0' r1' r2'
                repeat (refine StW.go (by rfl) (fun K hK => ?_); go_simp; refine hK.out _ ?_; clear hK K)
                refine StW.nil ?_
                show StW _ _ _ _ _ _
                repeat (refine StW.go (by rfl) (fun K hK => ?_); go_simp; refine hK.out _ ?_; clear hK K)
                refine StW.nil ?_
              case' pos =>
                refine wpList_cut rfl _ _ 26 rfl 28 iE (.agg #[.int .i64 0, .int .i64 0, .int .i64 0]) 3 24 (by rfl) hE.out.1 hE.out.2.1 hE.out.2.2.1 hE.out.2.2.2 (by rfl) ho8.out 2 (some ab) _ _ (wcells wl) rfl b' (by omega) rfl (some ab) 0 0 (wcells (wl.drop (b' + 1))) rfl hlen.out (hB.out _) (wcells_one _) (by intro h; omega) (by unfold maxLen; omega) (by omega) ?_
              case' neg =>
                refine wpList_cut rfl _ _ 26 rfl 28 iE (.agg #[.int .i64 0, .int .i64 0, .int .i64 0]) 3 24 (by rfl) hE.out.1 hE.out.2.1 hE.out.2.2.1 hE.out.2.2.2 (by rfl) ho8.out 2 (some ab) _ capB (wcells wl) rfl b' (by omega) rfl (some (ab.add ((b' + 1) * 3))) d _ (wcells (wl.drop (b' + 1))) rfl hlen.out (hB.out _ (show WIn wz 28 3 (some ab) (b' + d + 1) capB (wcells wl) from ho8.out.get 2 rfl).cells) (wcells_one _) (by intro _ h; cases h) (by unfold maxLen; omega) (by omega) ?_
              all_goals
                intro B' capB' w6 ho9
                rw [hcl.out] at ho9
                rw [← wcells_append] at ho9
                replace ho9 := Hidd.mk ho9.tail
                go_wp2
                refine Calm.normal ?_
                go_wp2
                go_roundw
                case rel => exact ⟨i + 1, _, n, A, cap, B', capB', qtake l y, _, by go_num, by omega, by omega, rfl, by omega, by omega, ho9, hb3⟩
                case measure => simp [intOf]; omega
    · have hd : ((decide ((i : Int) < (len0 : Int)) = false) ∨ (decide ((i : Int) < (len0 : Int)) = true ∧ decide ((i : Int) < 400) = false)) := by simp only [decide_eq_false_iff_not, decide_eq_true_eq]; omega
      rcases hd with hd | ⟨hd1, hd2⟩
      · have hni : ¬ i < len0 := by rw [decide_eq_false_iff_not] at hd; omega
        go_wp2_with (go_at_call 19; refine (len_own 0 ho.out rfl).mono ?_; rintro e w10 ⟨rfl, rfl⟩)
        go_ret
        exact ⟨rfl, ho.out.below (fun _ => id)⟩
      · have hni : ¬ i < 400 := by rw [decide_eq_false_iff_not] at hd2; omega
        have hni2 : i < len0 := by rw [decide_eq_true_eq] at hd1; omega
        go_wp2_with (go_at_call 19; refine (len_own 0 ho.out rfl).mono ?_; rintro e w10 ⟨rfl, rfl⟩)
        go_ret
        exact ⟨rfl, ho.out.below (fun _ => id)⟩
end Go.Proofs.Ytjejkmnlkmcckaa
