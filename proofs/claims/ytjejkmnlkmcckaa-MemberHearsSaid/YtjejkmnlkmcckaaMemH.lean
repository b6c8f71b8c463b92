/- MemberSame: the plain part. -/
import Derived.Test.YtjejkmnlkmcckaaMemE
namespace Go.Proofs.Ytjejkmnlkmcckaa
open Go.RowKit

theorem most_perm {l m : List Int} (h : l.Perm m) : mostV l = mostV m := by
  have hl := h.length_eq
  have hc : ∀ x, l.count x = m.count x := fun x => h.count_eq x
  cases hb : (mostV l).2 with
  | true =>
    have e : mostV l = ((mostV l).1, true) := by rw [← hb]
    have h1 := (most_spec l _).1 e
    rw [hc, hl] at h1
    rw [(most_spec m _).2 h1, e]
  | false =>
    obtain ⟨e, h1⟩ := most_none l hb
    cases hb' : (mostV m).2 with
    | true =>
      have e' : mostV m = ((mostV m).1, true) := by rw [← hb']
      have h2 := (most_spec m _).1 e'
      have := h1 (mostV m).1
      rw [hc, hl] at this
      omega
    | false =>
      obtain ⟨e', _⟩ := most_none m hb'
      rw [e, e']
theorem right_perm {l m : List Fr} (h : l.Perm m) (r k : Nat) (kn : Bool) : rightN r k kn l = rightN r k kn m := by
  unfold rightN
  rw [most_perm (h.map num)]
theorem members_perm {l m : List Fr} (h : l.Perm m) (rr mm : Nat) : membersN l rr mm = membersN m rr mm := by
  unfold membersN
  refine h.foldl_eq' (fun x _ y _ s => ?_) 0
  unfold memStep
  split <;> split <;> first | rfl | rw [Nat.or_assoc, Nat.or_comm (ofN _) (ofN _), ← Nat.or_assoc]

/-- The frame of node i. -/
def frS (st : List (Nat × Nat)) (i : Nat) : Fr := ⟨i, (st.getD i (0, 0)).1, (st.getD i (0, 0)).2, none, 0, 0, 0, 0, 0, 0, none, 0, 0⟩
def seen (st : List (Nat × Nat)) (g : Nat → Nat) (i : Nat) : List Fr := (List.range i).map fun j => frS st (g j)
theorem seen_succ (st : List (Nat × Nat)) (g : Nat → Nat) (i : Nat) : seen st g (i + 1) = seen st g i ++ [frS st (g i)] := by
  unfold seen
  rw [List.range_succ, List.map_append]
  rfl
theorem seen_len (st : List (Nat × Nat)) (g : Nat → Nat) (i : Nat) : (seen st g i).length = i := by simp [seen]
theorem seen_hear {st : List (Nat × Nat)} {g : Nat → Nat} {i : Nat} (h7 : g i < 7) (hne : ∀ j, j < i → g j ≠ g i) : hearOk (seen st g i) (g i : Int) (frS st (g i)) = true ∧ heardL (seen st g i) (g i : Int) (frS st (g i)) = seen st g (i + 1) := by
  have h : hearOk (seen st g i) (g i : Int) (frS st (g i)) = true := by
    unfold hearOk
    rw [decide_eq_true_eq]
    refine ⟨by omega, by omega, rfl, fun x hx => ?_⟩
    obtain ⟨j, hj, rfl⟩ := List.mem_map.1 hx
    exact hne j (List.mem_range.1 hj)
  exact ⟨h, by unfold heardL; rw [if_pos h, seen_succ]⟩
theorem rot_inj {n f i j : Nat} (hi : i < n) (hj : j < n) (h : (i + f) % n = (j + f) % n) : i = j := by
  have h1 := Nat.div_add_mod (i + f) n
  have h2 := Nat.div_add_mod (j + f) n
  rw [h] at h1
  rcases Nat.lt_trichotomy ((i + f) / n) ((j + f) / n) with h3 | h3 | h3
  · have := Nat.mul_le_mul_left n h3
    rw [Nat.mul_succ] at this
    omega
  · rw [h3] at h1; omega
  · have := Nat.mul_le_mul_left n h3
    rw [Nat.mul_succ] at this
    omega
theorem rot_perm {n f : Nat} (hf : f < n) : ((List.range n).map fun j => (j + f) % n).Perm (List.range n) := by
  have hnd : ((List.range n).map fun j => (j + f) % n).Nodup := by
    rw [List.nodup_iff_pairwise_ne, List.pairwise_map]
    refine List.Pairwise.imp_of_mem ?_ (List.nodup_range (n := n))
    intro a b ha hb hab h
    exact hab (rot_inj (List.mem_range.1 ha) (List.mem_range.1 hb) h)
  refine (List.perm_ext_iff_of_nodup hnd (List.nodup_range (n := n))).2 fun x => ?_
  simp only [List.mem_map, List.mem_range]
  constructor
  · rintro ⟨j, _, rfl⟩
    exact Nat.mod_lt _ (by omega)
  · intro hx
    refine ⟨(x + (n - f)) % n, Nat.mod_lt _ (by omega), ?_⟩
    rw [Nat.mod_add_mod, show x + (n - f) + f = x + n by omega, Nat.add_mod_right, Nat.mod_eq_of_lt hx]
theorem seen_perm (st : List (Nat × Nat)) {n f : Nat} (hf : f < n) : (seen st (fun j => (j + f) % n) n).Perm (seen st (fun j => j) n) := by
  have h := (rot_perm hf).map (frS st)
  rw [List.map_map] at h
  exact h

theorem len_or : ∀ i : Nat, i < 7 → ∀ s : Nat, s < 2 ^ i → lenN (s ||| ofN [(i : Int)]) = lenN s + 1 := by decide +kernel
theorem ofN_bit (i : Nat) (h : i < 7) : ofN [(i : Int)] = 2 ^ i := by
  show ofStep 0 _ = _
  unfold ofStep
  rw [if_pos (by omega), Nat.zero_or, Int.toNat_natCast]
theorem members_count (st : List (Nat × Nat)) (hst : ∀ p ∈ st, p.2 < 256) (rr mm : Nat) (hm : mm < 256) : ∀ i, i ≤ 7 → membersN (seen st (fun j => j) i) rr mm < 2 ^ i ∧ lenN (membersN (seen st (fun j => j) i) rr mm) = ((seen st (fun j => j) i).map num).count ((rr : Int) * 256 + (mm : Int))
  | 0, _ => ⟨by show 0 < 1; decide, by simp [seen, membersN]; decide +kernel⟩
  | i + 1, hi => by
    obtain ⟨h1, h2⟩ := members_count st hst rr mm hm i (by omega)
    rw [seen_succ]
    have e : membersN (seen st (fun j => j) i ++ [frS st i]) rr mm = memStep rr mm (membersN (seen st (fun j => j) i) rr mm) (frS st i) := by unfold membersN; rw [List.foldl_append]; rfl
    rw [e, List.map_append, List.count_append, ← h2]
    have hx : (frS st i).m < 256 := by
      show (st.getD i (0, 0)).2 < 256
      rw [List.getD_eq_getElem?_getD]
      rcases h : st[i]? with _ | p
      · decide
      · exact hst p (List.mem_of_getElem? h)
    have hp : 2 ^ (i + 1) = 2 * 2 ^ i := by rw [Nat.pow_succ, Nat.mul_comm]
    unfold memStep
    split
    · rename_i hq
      have hs : (frS st i).s = i := rfl
      refine ⟨?_, ?_⟩
      · rw [hs, ofN_bit i (by omega)]
        exact Nat.or_lt_two_pow (by omega) (by rw [hp]; have := Nat.two_pow_pos i; omega)
      · rw [hs, len_or i (by omega) _ h1]
        have : num (frS st i) = (rr : Int) * 256 + (mm : Int) := by unfold num; rw [hq.1, hq.2]
        simp [this]
    · rename_i hq
      refine ⟨by omega, ?_⟩
      have : ¬ num (frS st i) = (rr : Int) * 256 + (mm : Int) := fun h => hq (by unfold num at h; omega)
      simp [this]
/-- What is right, and who belongs to it. -/
theorem same_plain (st : List (Nat × Nat)) (hst : ∀ p ∈ st, p.1 < 4294967296 ∧ p.2 < 256) {n f : Nat} (hf : f < n) (hn : n ≤ 7) : ∃ rr mm M : Nat, ∃ ok : Bool, rightN 0 0 false (seen st (fun j => j) n) = ((rr, mm), ok) ∧ rightN 0 0 false (seen st (fun j => (j + f) % n) n) = ((rr, mm), ok) ∧
    rr < 4294967296 ∧ mm < 256 ∧ (if ok = true then membersN (seen st (fun j => j) n) rr mm else 0) = M ∧ (if ok = true then membersN (seen st (fun j => (j + f) % n) n) rr mm else 0) = M ∧ M < 256 ∧ (ok = true → n < 2 * lenN M) ∧ (ok = false → M = 0) ∧ lenN M ≤ 8 := by
  have hp := seen_perm st hf
  obtain ⟨⟨⟨rr, mm⟩, ok⟩, hr⟩ : ∃ x, rightN 0 0 false (seen st (fun j => j) n) = x := ⟨_, rfl⟩
  have hb : rr < 4294967296 ∧ mm < 256 ∧ (ok = true → mostV ((seen st (fun j => j) n).map num) = ((rr : Int) * 256 + (mm : Int), true)) := by
    have hr' := hr
    unfold rightN at hr'
    rw [if_neg (by decide)] at hr'
    split at hr'
    · rename_i ht
      have hok : ∀ x ∈ seen st (fun j => j) n, x.Ok := fun x hx => by
        obtain ⟨j, hj, rfl⟩ := List.mem_map.1 hx
        have hj := List.mem_range.1 hj
        have h0 : (st.getD j (0, 0)).1 < 4294967296 ∧ (st.getD j (0, 0)).2 < 256 := by
          rw [List.getD_eq_getElem?_getD]
          rcases h : st[j]? with _ | p
          · decide
          · exact hst p (List.mem_of_getElem? h)
        exact ⟨by show j < 256; omega, h0.1, h0.2⟩
      obtain ⟨r', m', g1, g2, g3⟩ := most_num hok ht
      injection hr' with h1 h2
      injection h1 with h1 h3
      have e1 : rr = r' := by rw [← h1, g3]; omega
      have e2 : mm = m' := by rw [← h3, g3]; omega
      subst e1 e2
      exact ⟨g1, g2, fun _ => by rw [← g3, ← ht]⟩
    · injection hr' with h1 h2
      injection h1 with h1 h3
      exact ⟨by omega, by omega, fun h => by rw [h] at h2; cases h2⟩
  obtain ⟨b1, b2, b3⟩ := hb
  have hM : ∀ ok' : Bool, (if ok' = true then membersN (seen st (fun j => j) n) rr mm else 0) < 128 := fun ok' => by
    split
    · exact members_lt _ _ _
    · decide
  refine ⟨rr, mm, _, ok, hr, by rw [right_perm hp, hr], b1, b2, rfl, by rw [members_perm hp], Nat.lt_of_lt_of_le (hM ok) (by decide), fun h => ?_, fun h => ?_, bitsTo_len _ 8⟩
  · rw [if_pos h, (members_count st (fun p hp => (hst p hp).2) rr mm b2 n hn).2]
    have := (most_spec _ _).1 (b3 h)
    rw [List.length_map, seen_len] at this
    exact this
  · rw [if_neg (by rw [h]; decide)]
end Go.Proofs.Ytjejkmnlkmcckaa
