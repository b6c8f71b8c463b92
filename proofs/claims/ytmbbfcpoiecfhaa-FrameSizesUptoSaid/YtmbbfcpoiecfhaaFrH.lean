/- Encode of a frame: what it answers. -/
import Derived.Test.YtmbbfcpoiecfhaaFrF
import Derived.Test.YtmbbfcpoiecfhaaWirF
import Derived.Test.YtmbbfcpoiecfhaaWirP0
import Derived.Test.YtmbbfcpoiecfhaaCrcN
namespace Go.Proofs.Ytmbbfcpoiecfhaa
open Go.RowKit

def hdrB (s r m k : Nat) : List Int := wputN s 1 ++ wputN r 4 ++ wputN m 1 ++ wputN k 1
def encM (q : Int × List Int) : List Int := wputN q.1.toNat 1 ++ [(q.2.length : Int)] ++ q.2
def cmdB (k0 k1 k2 k3 k : Nat) : List Int := wputN k0 1 ++ wputN k1 1 ++ wputN k2 2 ++ wputN k3 2 ++ wputN k 1
def encR (x : Rec5) : List Int := wputN x.r 4 ++ wputN x.n 1 ++ wputN x.p 1 ++ wputN x.k 1 ++ wputN x.d 1
def encFr (s r m : Nat) (ms : List (Int × List Int)) (k0 k1 k2 k3 : Nat) (rs : List Rec5) : List Int := hdrB s r m ms.length ++ ms.flatMap encM ++ cmdB k0 k1 k2 k3 rs.length ++ rs.flatMap encR
theorem flat_take {α : Type} (f : α → List Int) {l : List α} {i : Nat} {x : α} (h : l[i]? = some x) : (l.take (i + 1)).flatMap f = (l.take i).flatMap f ++ f x := by
  rw [List.take_add_one, h, List.flatMap_append]
  simp
theorem encM_len {q : Int × List Int} (h : q.2.length ≤ 16) : (encM q).length ≤ 18 := by unfold encM; simp only [List.length_append, wputN_length, List.length_cons, List.length_nil]; omega
theorem encMs_len {ms : List (Int × List Int)} (h : ∀ q ∈ ms, q.2.length ≤ 16) : ∀ i, ((ms.take i).flatMap encM).length ≤ 18 * i
  | 0 => by simp
  | i + 1 => by
    have ih := encMs_len h i
    rcases he : ms[i]? with _ | e
    · rw [List.take_of_length_le (by have := List.getElem?_eq_none_iff.1 he; omega)]
      rw [List.take_of_length_le (by have := List.getElem?_eq_none_iff.1 he; omega)] at ih
      omega
    · rw [flat_take encM he, List.length_append]
      have := encM_len (h e (List.mem_of_getElem? he))
      omega
theorem encR_len (x : Rec5) : (encR x).length = 8 := by unfold encR; simp [wputN_length]
theorem encRs_len (rs : List Rec5) : (rs.flatMap encR).length = rs.length * 8 := by
  induction rs with
  | nil => rfl
  | cons x l ih => rw [List.flatMap_cons, List.length_append, ih, encR_len, List.length_cons, Nat.add_mul]; omega
theorem hdrB_len (s r m k : Nat) : (hdrB s r m k).length = 7 := by unfold hdrB; simp [wputN_length]
theorem cmdB_len (k0 k1 k2 k3 k : Nat) : (cmdB k0 k1 k2 k3 k).length = 7 := by unfold cmdB; simp [wputN_length]
/-- What a sound frame says of its parts. -/
theorem msgE_none : ∀ (ms : List (Int × List Int)) (i : Nat), msgE ms i = none → ∀ q ∈ ms, 0 ≤ q.1 ∧ q.1 < 24 ∧ q.2.length ≤ 16
  | [], _, _, q, hq => by cases hq
  | m :: l, i, h, q, hq => by
    unfold msgE at h
    split at h
    · cases h
    · split at h
      · cases h
      · rcases List.mem_cons.1 hq with rfl | hq
        · omega
        · exact msgE_none l (i + 1) h q hq
theorem chk_none {s : Nat} {ms : List (Int × List Int)} {k0 k1 k2 k3 : Nat} {rs : List Rec5} (h : chkE s ms k0 k1 k2 k3 rs = none) : s < 7 ∧ ms.length ≤ 96 ∧ rs.length ≤ 4 ∧ (∀ q ∈ ms, 0 ≤ q.1 ∧ q.1 < 24 ∧ q.2.length ≤ 16) ∧ cmdE k0 k1 k2 k3 = none ∧ recE rs 0 = none := by
  unfold chkE at h
  split at h
  · cases h
  · split at h
    · cases h
    · split at h
      · cases h
      · rename_i hm
        split at h
        · cases h
        · rename_i hc
          exact ⟨by omega, by omega, by omega, msgE_none ms 0 hm, hc, h⟩
theorem body_bound {s r m : Nat} {ms : List (Int × List Int)} (h : ∀ q ∈ ms, q.2.length ≤ 16) (hl : ms.length ≤ 96) (i : Nat) (hi : i ≤ ms.length) {n : Nat} (hn : (hdrB s r m ms.length ++ (ms.take i).flatMap encM).length = n) : n ≤ 2000 := by
  rw [List.length_append, hdrB_len] at hn
  have := encMs_len h i
  omega
end Go.Proofs.Ytmbbfcpoiecfhaa
