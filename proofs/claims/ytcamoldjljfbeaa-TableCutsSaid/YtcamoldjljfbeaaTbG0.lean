/- What is read of an image: plain facts. -/
import Derived.Test.YtcamoldjljfbeaaTaE
import Derived.Test.YtcamoldjljfbeaaSoA
namespace Go.Proofs.Ytcamoldjljfbeaa

/-- How many bytes were taken; the error. -/
structure RS where
  p : Nat
  er : Option (Int × Int)
def tk (xs : List Int) (n : Nat) (sz : Nat) (s : RS) : Nat × RS := ((takeR xs n s.p s.er (sz : Int)).1, ⟨(takeR xs n s.p s.er (sz : Int)).2.1, (takeR xs n s.p s.er (sz : Int)).2.2⟩)
def takes (xs : List Int) (n : Nat) : List Nat → RS → List Nat × RS
  | [], s => ([], s)
  | z :: zs, s => ((tk xs n z s).1 :: (takes xs n zs (tk xs n z s).2).1, (takes xs n zs (tk xs n z s).2).2)
section
variable {xs : List Int} {n : Nat}
theorem takes_app (a b : List Nat) (s : RS) : takes xs n (a ++ b) s = ((takes xs n a s).1 ++ (takes xs n b (takes xs n a s).2).1, (takes xs n b (takes xs n a s).2).2) := by
  induction a generalizing s with
  | nil => rfl
  | cons z a ih => simp only [List.cons_append, takes, ih]
theorem takes_len : ∀ (a : List Nat) (s : RS), (takes xs n a s).1.length = a.length
  | [], _ => rfl
  | z :: a, s => by simp only [takes, List.length_cons, takes_len a]
theorem takes_snoc {a : List Nat} {z : Nat} {s s1 s2 : RS} {vs : List Nat} {v : Nat} (h : takes xs n a s = (vs, s1)) (k : tk xs n z s1 = (v, s2)) : takes xs n (a ++ [z]) s = (vs ++ [v], s2) := by
  rw [takes_app, h]
  simp only [takes, k]
theorem takes_one {z : Nat} {s s2 : RS} {v : Nat} (k : tk xs n z s = (v, s2)) : takes xs n [z] s = ([v], s2) := by simp only [takes, k]
theorem tk_pos {z : Nat} {s s2 : RS} {v : Nat} (k : tk xs n z s = (v, s2)) (hp : s.p ≤ n) : s2.p ≤ n := by
  unfold tk takeR at k
  injection k with k1 k2
  subst k2
  simp only
  split
  · exact hp
  · split
    · rename_i h
      unfold moreB at h
      simp only [Bool.and_eq_true, decide_eq_true_eq] at h
      simp only [Int.toNat_natCast]
      omega
    · exact hp
theorem valN_bd (l : List Int) (hl : ∀ x ∈ l, 0 ≤ x ∧ x < 256) : valN l < 256 ^ l.length := by
  have := valN_lt l hl l.length
  rwa [List.take_length] at this
theorem tk_lt {z : Nat} {s s2 : RS} {v : Nat} (hx : ∀ x ∈ xs, 0 ≤ x ∧ x < 256) (k : tk xs n z s = (v, s2)) : v < 256 ^ z := by
  unfold tk takeR at k
  injection k with k1 k2
  subst k1
  split
  · exact Nat.pow_pos (by decide)
  · split
    · simp only [Int.toNat_natCast]
      refine Nat.lt_of_lt_of_le (valN_bd _ fun x h => hx x (List.mem_of_mem_drop (List.mem_of_mem_take h))) (Nat.pow_le_pow_right (by decide) ?_)
      rw [List.length_take]
      omega
    · exact Nat.pow_pos (by decide)
theorem tk_err {z : Nat} {s : RS} (h : s.er.isSome = true) : tk xs n z s = (0, s) := by
  unfold tk takeR moreB moreE
  rcases s with ⟨p, er⟩
  rcases er with _ | q
  · cases h
  · simp
end
def ptOf (v : List Nat) : Pt := ⟨(v.getD 0 0 : Nat), (v.getD 1 0 : Nat), (v.getD 2 0 : Nat), (v.getD 3 0 : Nat), (v.getD 4 0 : Nat), v.getD 5 0, v.getD 6 0, v.getD 7 0, v.getD 8 0⟩
def qtOf (v : List Nat) : Qt := ⟨(v.getD 0 0 : Nat), v.getD 1 0, decide (v.getD 2 0 = 1), (v.getD 3 0 : Nat), (v.getD 4 0 : Nat), (v.getD 5 0 : Nat)⟩
def rtOf (v : List Nat) : Rt := ⟨(v.getD 0 0 : Nat), (v.getD 1 0 : Nat)⟩
def ptsR (xs : List Int) (n : Nat) : Nat → RS → List Pt × RS
  | 0, s => ([], s)
  | k + 1, s => if s.er.isSome = true then ([], s) else
    (ptOf (takes xs n [1, 4, 4, 1, 1, 1, 1, 1, 1] s).1 :: (ptsR xs n k (takes xs n [1, 4, 4, 1, 1, 1, 1, 1, 1] s).2).1, (ptsR xs n k (takes xs n [1, 4, 4, 1, 1, 1, 1, 1, 1] s).2).2)
def badOut (a : List Nat × RS) : Bool := a.2.er.isNone && decide (1 < a.1.getD 2 0)
def qtsR (xs : List Int) (n : Nat) : Nat → Nat → RS → Option (Int × Int) × List Qt × RS
  | 0, _, s => (none, [], s)
  | k + 1, i, s => if s.er.isSome = true then (none, [], s) else if badOut (takes xs n [1, 1, 1] s) = true then (some (8, (i : Int)), [], (takes xs n [1, 1, 1] s).2) else
    ((qtsR xs n k (i + 1) (takes xs n [1, 1, 1, 1, 1, 1] s).2).1, qtOf (takes xs n [1, 1, 1, 1, 1, 1] s).1 :: (qtsR xs n k (i + 1) (takes xs n [1, 1, 1, 1, 1, 1] s).2).2.1, (qtsR xs n k (i + 1) (takes xs n [1, 1, 1, 1, 1, 1] s).2).2.2)
def rtsR (xs : List Int) (n : Nat) : Nat → RS → List Rt × RS
  | 0, s => ([], s)
  | k + 1, s => if s.er.isSome = true then ([], s) else
    (rtOf (takes xs n [1, 1] s).1 :: (rtsR xs n k (takes xs n [1, 1] s).2).1, (rtsR xs n k (takes xs n [1, 1] s).2).2)
/-- What is read: an error of the reading's own; the eleven numbers; the lists; where it stands. -/
structure Rd where
  e : Option (Int × Int)
  h : List Nat
  ps : List Pt
  qs : List Qt
  rs : List Rt
  s : RS
def rdT (xs : List Int) (n : Nat) : Rd :=
  if (tk xs n 4 ⟨0, none⟩).1 ≠ 1163084593 ∧ (tk xs n 4 ⟨0, none⟩).2.er.isNone = true then ⟨some (7, 0), [], [], [], [], (tk xs n 4 ⟨0, none⟩).2⟩ else
    let h := takes xs n [1, 1, 4, 4, 4, 4, 4, 4, 1, 1, 1] (tk xs n 4 ⟨0, none⟩).2
    let P := ptsR xs n (h.1.getD 8 0) h.2
    let Q := qtsR xs n (h.1.getD 9 0) 0 P.2
    if Q.1.isSome = true then ⟨Q.1, [], [], [], [], Q.2.2⟩ else
      let R := rtsR xs n (h.1.getD 10 0) Q.2.2
      ⟨none, h.1, P.1, Q.2.1, R.1, R.2⟩
end Go.Proofs.Ytcamoldjljfbeaa
