/- What is heard twice over: the two sides have the same members and frames. -/
import Derived.Test.YtjejkmnlkmcckaaMemN
import Derived.Test.YtjejkmnlkmcckaaMemH
namespace Go.Proofs.Ytjejkmnlkmcckaa
open Go.RowKit

theorem foldl_bit {α : Type} (f : α → Nat) (j : Nat) : ∀ (l : List α) (a : Nat), (l.foldl (fun a x => a ||| f x) a).testBit j = (a.testBit j || l.any fun x => (f x).testBit j)
  | [], a => by simp
  | x :: l, a => by rw [List.foldl_cons, foldl_bit f j l, Nat.testBit_or, List.any_cons, Bool.or_assoc]
theorem orS_bit (l : List Fr) (j : Nat) : (orS l).testBit j = l.any fun x => decide (x.s = j) := by
  unfold orS
  rw [foldl_bit]
  simp [Nat.testBit_two_pow]
theorem members_bit {l : List Fr} (hs : ∀ x ∈ l, x.s < 7) (rr mm j : Nat) : (membersN l rr mm).testBit j = l.any fun x => isM rr mm j x := by
  have e : ∀ (l : List Fr) (a : Nat), (∀ x ∈ l, x.s < 7) → l.foldl (memStep rr mm) a = l.foldl (fun a x => a ||| if x.r = rr ∧ x.m = mm then 2 ^ x.s else 0) a := by
    intro l
    induction l with
    | nil => exact fun _ _ => rfl
    | cons x l ih =>
      intro a hx
      rw [List.foldl_cons, List.foldl_cons, ih _ fun y hy => hx y (List.mem_cons_of_mem _ hy)]
      congr 1
      unfold memStep
      by_cases h : x.r = rr ∧ x.m = mm
      · rw [if_pos h, if_pos h, ofN_bit _ (hx x List.mem_cons_self)]
      · rw [if_neg h, if_neg h, Nat.or_zero]
  unfold membersN
  rw [e l 0 hs, foldl_bit, Nat.zero_testBit, Bool.false_or]
  congr 1
  funext x
  unfold isM
  by_cases h : x.r = rr ∧ x.m = mm
  · rw [if_pos h, Nat.testBit_two_pow]
    simp [h]
  · rw [if_neg h, Nat.zero_testBit]
    symm
    rw [decide_eq_false_iff_not]
    exact fun hh => h hh.2
theorem mem_frR {l : List Fr} {rr mm n : Nat} {x : Fr} : x ∈ frR l rr mm n ↔ x ∈ l ∧ x.s < n ∧ x.r = rr ∧ x.m = mm := by
  unfold frR
  rw [List.mem_flatMap]
  constructor
  · rintro ⟨k, hk, hx⟩
    have hk := List.mem_range.1 hk
    obtain ⟨h1, h2⟩ := List.mem_filter.1 hx
    unfold isM at h2
    rw [decide_eq_true_eq] at h2
    exact ⟨h1, by omega, h2.2⟩
  · rintro ⟨h1, h2, h3⟩
    exact ⟨x.s, List.mem_range.2 h2, List.mem_filter.2 ⟨h1, by unfold isM; rw [decide_eq_true_eq]; exact ⟨rfl, h3⟩⟩⟩
theorem or_members {l : List Fr} (hs : ∀ x ∈ l, x.s < 7) (rr mm : Nat) : orS (frR l rr mm 7) = membersN l rr mm := by
  refine Nat.eq_of_testBit_eq fun j => ?_
  rw [orS_bit, members_bit hs, Bool.eq_iff_iff, List.any_eq_true, List.any_eq_true]
  constructor
  · rintro ⟨x, hx, hj⟩
    obtain ⟨h1, h2, h3⟩ := mem_frR.1 hx
    rw [decide_eq_true_eq] at hj
    exact ⟨x, h1, by unfold isM; rw [decide_eq_true_eq]; exact ⟨hj, h3⟩⟩
  · rintro ⟨x, hx, hj⟩
    unfold isM at hj
    rw [decide_eq_true_eq] at hj
    exact ⟨x, mem_frR.2 ⟨hx, hs x hx, hj.2⟩, by rw [decide_eq_true_eq]; exact hj.1⟩
theorem filter_flat {α β : Type} (p : α → Bool) (g : α → List β) : ∀ L : List α, (L.filter p).flatMap g = L.flatMap fun n => if p n = true then g n else []
  | [] => rfl
  | x :: L => by
    rw [List.flatMap_cons, ← filter_flat p g L]
    by_cases h : p x = true
    · rw [List.filter_cons_of_pos h, List.flatMap_cons, if_pos h]
    · rw [List.filter_cons_of_neg h, if_neg h, List.nil_append]
def Uniq (l : List Fr) : Prop := ∀ x ∈ l, ∀ y ∈ l, x.s = y.s → x = y
theorem frames_eq {l : List Fr} (hs : ∀ x ∈ l, x.s < 7) (hu : Uniq l) (rr mm : Nat) : frameL l (bitsTo (membersN l rr mm) 7) = frR l rr mm 7 := by
  unfold frameL bitsTo frR
  rw [filter_flat]
  congr 1
  funext n
  rw [members_bit hs]
  by_cases h : (l.any fun x => isM rr mm n x) = true
  · rw [if_pos h]
    obtain ⟨x, hx, hm⟩ := List.any_eq_true.1 h
    unfold isM at hm
    rw [decide_eq_true_eq] at hm
    refine List.filter_congr fun y hy => ?_
    unfold isM
    rw [Bool.eq_iff_iff, decide_eq_true_eq, decide_eq_true_eq]
    constructor
    · intro e
      have := hu y hy x hx (e.trans hm.1.symm)
      subst this
      exact hm
    · exact fun e => e.1
  · rw [if_neg h]
    symm
    rw [List.filter_eq_nil_iff]
    intro y hy hm
    exact h (List.any_eq_true.2 ⟨y, hy, hm⟩)

/-- A frame that was heard by both. -/
structure HP where
  s : Nat
  r : Nat
  m : Nat
  k0 : Int
  k1 : Int
  k2 : Int
  k3 : Int
  n : Nat
  q : Nat
  A : Option Addr
  c : Nat
  B : Option Addr
  d : Nat
  A' : Option Addr
  c' : Nat
  B' : Option Addr
  d' : Nat
  ms : List (Int × List Int)
  rs : List Rec5
def HP.f (p : HP) : Fr := ⟨p.s, p.r, p.m, p.A, p.n, p.c, p.k0, p.k1, p.k2, p.k3, p.B, p.q, p.d⟩
def HP.g (p : HP) : Fr := ⟨p.s, p.r, p.m, p.A', p.n, p.c', p.k0, p.k1, p.k2, p.k3, p.B', p.q, p.d'⟩
/-- What the given side says, and its sizes; what the copied side says. -/
structure HP.In (w : World) (p : HP) : Prop where
  a : MsgsAt w p.A' p.n p.ms
  b : RecsAt w p.B' p.q p.rs
  n : p.n ≤ 1000000000000000
  q : p.q ≤ 1000000000000000
def HP.Cp (w : World) (p : HP) : Prop := MsgsAt w p.A p.n p.ms ∧ RecsAt w p.B p.q p.rs
theorem hp_ok (ps : List HP) (line : Int) (p : HP) : hearOk (ps.map HP.g) line p.g = hearOk (ps.map HP.f) line p.f := by
  unfold hearOk
  simp only [List.mem_map, forall_exists_index, and_imp, forall_apply_eq_imp_iff₂]
  rfl
theorem hp_right (ps : List HP) (r m : Nat) (kn : Bool) : rightN r m kn (ps.map HP.g) = rightN r m kn (ps.map HP.f) := by
  unfold rightN
  rw [List.map_map, List.map_map]
  rfl
theorem hp_members (ps : List HP) (rr mm : Nat) : membersN (ps.map HP.g) rr mm = membersN (ps.map HP.f) rr mm := by
  unfold membersN
  rw [List.foldl_map, List.foldl_map]
  rfl
/-- A frame more. -/
theorem hp_step (ps : List HP) (line : Int) (p : HP) (hs : ∀ q ∈ ps, q.s < 7) (hu : Uniq (ps.map HP.f)) : ∃ ps' : List HP, heardL (ps.map HP.f) line p.f = ps'.map HP.f ∧ heardL (ps.map HP.g) line p.g = ps'.map HP.g ∧ (∀ q ∈ ps', q.s < 7) ∧ Uniq (ps'.map HP.f) ∧ (∀ q ∈ ps', q ∈ ps ∨ q = p) ∧ ps'.length ≤ ps.length + 1 := by
  by_cases h : hearOk (ps.map HP.f) line p.f = true
  · have h2 := hp_ok ps line p
    rw [h] at h2
    refine ⟨ps ++ [p], by unfold heardL; rw [if_pos h, List.map_append]; rfl, by unfold heardL; rw [if_pos h2, List.map_append]; rfl, fun q hq => ?_, fun x hx y hy e => ?_, fun q hq => ?_, by simp⟩
    · unfold hearOk at h
      rw [decide_eq_true_eq] at h
      rcases List.mem_append.1 hq with hq | hq
      · exact hs q hq
      · obtain rfl := List.mem_singleton.1 hq
        have h3 : ((q.s : Nat) : Int) = line := h.2.2.1
        have := h.2.1
        omega
    · unfold hearOk at h
      rw [decide_eq_true_eq] at h
      have hn := h.2.2.2
      rw [List.map_append] at hx hy
      rcases List.mem_append.1 hx with hx | hx <;> rcases List.mem_append.1 hy with hy | hy
      · exact hu x hx y hy e
      · obtain rfl := List.mem_singleton.1 hy
        exact absurd e (hn x hx)
      · obtain rfl := List.mem_singleton.1 hx
        exact absurd e.symm (hn y hy)
      · rw [List.mem_singleton.1 hx, List.mem_singleton.1 hy]
    · rcases List.mem_append.1 hq with hq | hq
      · exact .inl hq
      · exact .inr (List.mem_singleton.1 hq)
  · have h2 := hp_ok ps line p
    rw [Bool.eq_false_iff.2 h] at h2
    exact ⟨ps, by unfold heardL; rw [if_neg h], by unfold heardL; rw [if_neg (by rw [h2]; decide)], hs, hu, fun q hq => .inl hq, by omega⟩
def pfR (ps : List HP) (rr mm n : Nat) : List HP := (List.range n).flatMap fun k => ps.filter fun p => isM rr mm k p.f
theorem hp_frf (ps : List HP) (rr mm n : Nat) : frR (ps.map HP.f) rr mm n = (pfR ps rr mm n).map HP.f := by
  unfold frR pfR
  rw [List.map_flatMap]
  congr 1
  funext k
  rw [List.filter_map]
  rfl
theorem hp_frg (ps : List HP) (rr mm n : Nat) : frR (ps.map HP.g) rr mm n = (pfR ps rr mm n).map HP.g := by
  unfold frR pfR
  rw [List.map_flatMap]
  congr 1
  funext k
  rw [List.filter_map]
  rfl
theorem pfR_mem {ps : List HP} {rr mm n : Nat} {p : HP} (h : p ∈ pfR ps rr mm n) : p ∈ ps := by
  unfold pfR at h
  obtain ⟨k, _, h⟩ := List.mem_flatMap.1 h
  exact (List.mem_filter.1 h).1
/-- All that is asked of both, at the end. -/
theorem hp_end (ps : List HP) (hs : ∀ p ∈ ps, p.s < 7) (hu : Uniq (ps.map HP.f)) (r m : Nat) (kn : Bool) : ∃ (rr mm : Nat) (ok : Bool) (M : Nat) (fl : List HP), rightN r m kn (ps.map HP.f) = ((rr, mm), ok) ∧ rightN r m kn (ps.map HP.g) = ((rr, mm), ok) ∧
    (if ok = true then membersN (ps.map HP.f) rr mm else 0) = M ∧ frameL (ps.map HP.f) (bitsTo M 7) = fl.map HP.f ∧ (if ok = true then frR (ps.map HP.g) rr mm 7 else []) = fl.map HP.g ∧ orS (fl.map HP.g) = M ∧ (∀ p ∈ fl, p ∈ ps) ∧ M < 256 ∧ fl.length ≤ 7 * ps.length := by
  obtain ⟨⟨⟨rr, mm⟩, ok⟩, hr⟩ : ∃ x, rightN r m kn (ps.map HP.f) = x := ⟨_, rfl⟩
  have hsf : ∀ x ∈ ps.map HP.f, x.s < 7 := fun x hx => by
    obtain ⟨p, hp, rfl⟩ := List.mem_map.1 hx
    exact hs p hp
  have hsg : ∀ x ∈ ps.map HP.g, x.s < 7 := fun x hx => by
    obtain ⟨p, hp, rfl⟩ := List.mem_map.1 hx
    exact hs p hp
  cases ok
  · refine ⟨rr, mm, false, 0, [], hr, (hp_right ..).trans hr, by rw [if_neg (by decide)], ?_, by rw [if_neg (by decide)]; rfl, rfl, by simp, by decide, by simp⟩
    rw [show bitsTo 0 7 = [] from by decide +kernel]
    rfl
  · refine ⟨rr, mm, true, membersN (ps.map HP.f) rr mm, pfR ps rr mm 7, hr, (hp_right ..).trans hr, by rw [if_pos rfl], ?_, by rw [if_pos rfl, hp_frg], ?_, fun p hp => pfR_mem hp, Nat.lt_of_lt_of_le (members_lt _ _ _) (by decide), ?_⟩
    · rw [frames_eq hsf hu, hp_frf]
    · rw [← hp_frg, or_members hsg, hp_members]
    · have := frR_len (ps.map HP.f) rr mm 7
      rw [hp_frf, List.length_map, List.length_map] at this
      exact this
end Go.Proofs.Ytjejkmnlkmcckaa
