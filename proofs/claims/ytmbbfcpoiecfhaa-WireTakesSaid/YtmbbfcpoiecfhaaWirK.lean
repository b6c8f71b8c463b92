/- WireBack: what the acts write, and what is read of it. -/
import Derived.Test.YtmbbfcpoiecfhaaWirS
namespace Go.Proofs.Ytmbbfcpoiecfhaa
open Go.RowKit

def szB (z : Int) : Nat := 1 + (IntKind.u64.wrap z % 4).toNat
def encA (a : WAct) : List Int := if a.kind = 1 then ((min a.len 255 : Nat) : Int) :: a.data.take (min a.len 255) else wputN a.n (szB a.size)
def encL (es : List WAct) (i : Nat) : List Int := (es.take i).flatMap encA
theorem encL_zero (es : List WAct) : encL es 0 = [] := rfl
theorem encL_succ {es : List WAct} {i : Nat} {e : WAct} (h : es[i]? = some e) : encL es (i + 1) = encL es i ++ encA e := by
  unfold encL
  rw [List.take_add_one, h, List.flatMap_append]
  simp
theorem szB_le (z : Int) : 1 ≤ szB z ∧ szB z ≤ 4 := by unfold szB; omega
theorem encA_len (e : WAct) (h : e.data.length = e.len) : (encA e).length ≤ 256 := by
  unfold encA
  split
  · rw [List.length_cons, List.length_take]; omega
  · rw [wputN_length]; have := szB_le e.size; omega
theorem wputN_range (v : Nat) : ∀ k, ∀ x ∈ wputN v k, 0 ≤ x ∧ x < 256
  | 0, x, h => by cases h
  | k + 1, x, h => by
    rcases List.mem_cons.1 h with rfl | h
    · omega
    · exact wputN_range v k x h
theorem encA_range (e : WAct) (h : ∀ x ∈ e.data, 0 ≤ x ∧ x < 256) : ∀ x ∈ encA e, 0 ≤ x ∧ x < 256 := by
  unfold encA
  intro x hx
  split at hx
  · rcases List.mem_cons.1 hx with rfl | hx
    · omega
    · exact h x (List.mem_of_mem_take hx)
  · exact wputN_range _ _ x hx
theorem encL_len (es : List WAct) (h : ∀ e ∈ es, e.data.length = e.len) : ∀ i, (encL es i).length ≤ 256 * i
  | 0 => by rw [encL_zero]; exact Nat.zero_le _
  | i + 1 => by
    have ih := encL_len es h i
    rcases he : es[i]? with _ | e
    · unfold encL at ih ⊢
      rw [List.take_add_one, he]
      simp at ih ⊢
      omega
    · rw [encL_succ he, List.length_append]
      have := encA_len e (h e (List.mem_of_getElem? he))
      omega
theorem encL_range (es : List WAct) (h : ∀ e ∈ es, ∀ x ∈ e.data, 0 ≤ x ∧ x < 256) (i : Nat) : ∀ x ∈ encL es i, 0 ≤ x ∧ x < 256 := by
  intro x hx
  obtain ⟨e, he, hx⟩ := List.mem_flatMap.1 hx
  exact encA_range e (h e (List.mem_of_mem_take he)) x hx
theorem encL_drop {es : List WAct} {i m : Nat} {e : WAct} (h : es[i]? = some e) (hm : i < m) : ∃ r, (encL es m).drop (encL es i).length = encA e ++ r := by
  have h1 : encL es m = encL es (i + 1) ++ ((es.take m).drop (i + 1)).flatMap encA := by
    unfold encL
    rw [← List.flatMap_append]
    congr 1
    have h2 := List.take_append_drop (i + 1) (es.take m)
    rw [List.take_take, Nat.min_eq_left (by omega)] at h2
    exact h2.symm
  rw [h1, encL_succ h, List.append_assoc, List.drop_left]
  exact ⟨_, rfl⟩
theorem valN_cons (x : Int) (l : List Int) : valN (x :: l) = x.toNat * 256 ^ l.length + valN l := by
  have key : ∀ (l : List Int) (a : Nat), l.foldl (fun a x => a * 256 + x.toNat) a = a * 256 ^ l.length + l.foldl (fun a x => a * 256 + x.toNat) 0 := by
    intro l
    induction l with
    | nil => intro a; simp
    | cons y l ih =>
      intro a
      rw [List.foldl_cons, List.foldl_cons, ih (a * 256 + y.toNat), ih (0 * 256 + y.toNat), List.length_cons, Nat.pow_succ]
      simp only [Nat.add_mul, Nat.zero_mul, Nat.zero_add, Nat.mul_assoc, Nat.add_assoc, Nat.mul_comm (256 ^ l.length) 256]
  unfold valN
  rw [List.foldl_cons, key]
  simp
theorem valN_wput (v : Nat) : ∀ k, valN (wputN v k) = v % 256 ^ k
  | 0 => by simp [wputN, valN, Nat.mod_one]
  | k + 1 => by
    rw [wputN, valN_cons, valN_wput v k, wputN_length, Int.toNat_natCast, Nat.mod_pow_succ]
    rw [Nat.mul_comm, Nat.add_comm]
theorem drop_bound {α : Type} {xs a r : List α} {p : Nat} (h : xs.drop p = a ++ r) (ha : 0 < a.length) : p + a.length ≤ xs.length := by
  have := congrArg List.length h
  rw [List.length_drop, List.length_append] at this
  omega
theorem text_at {xs ys r : List Int} {p t : Nat} (h : xs.drop p = ((t : Nat) : Int) :: ys ++ r) (hy : ys.length = t) : textR xs xs.length p none = (ys, p + 1 + t, none) := by
  have hb : p + ((t : Int) :: ys).length ≤ xs.length := drop_bound (by simpa using h) (by simp)
  rw [List.length_cons] at hb
  have h0 : xs.getD p 0 = t := by
    have := congrArg List.head? h
    rw [List.head?_drop] at this
    rw [List.getD_eq_getElem?_getD, this]
    rfl
  have h1 : xs.drop (p + 1) = ys ++ r := by
    rw [← List.drop_drop, h]
    rfl
  unfold textR moreB
  rw [h0, if_pos (by simp; omega), if_pos (by simp; omega), h1, Int.toNat_natCast, ← hy, List.take_left]
theorem take_at {xs ws r : List Int} {p s : Nat} (h : xs.drop p = ws ++ r) (hw : ws.length = s) (h1 : 1 ≤ s) (h4 : s ≤ 4) : takeR xs xs.length p none (s : Int) = (valN ws, p + s, none) := by
  have hb := drop_bound h (by omega)
  unfold takeR moreB
  rw [if_neg (by omega), if_pos (by simp; omega), Int.toNat_natCast, h, ← hw, List.take_left]
theorem end_at (n : Nat) : endE n n none = none := by unfold endE; simp
theorem wsz_at {s : Nat} (h1 : 1 ≤ s) (h4 : s ≤ 4) : wsz (s : Int) = s := by unfold wsz; rw [if_pos (by omega)]; rfl
end Go.Proofs.Ytmbbfcpoiecfhaa
