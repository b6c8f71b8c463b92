/- What Decode says: plain facts. -/
import Derived.Test.YtcamoldjljfbeaaTbG0
import Derived.Test.YtcamoldjljfbeaaSoI
import Derived.Test.YtcamoldjljfbeaaCrcN
namespace Go.Proofs.Ytcamoldjljfbeaa

def rdC (r : Rd) : Option (Int × Int) := tabE (r.h.getD 0 0 : Nat) (r.h.getD 1 0 : Nat) (r.h.getD 2 0 : Nat) (r.h.getD 3 0 : Nat) (r.h.getD 4 0 : Nat) (r.h.getD 5 0 : Nat) (r.h.getD 6 0 : Nat) (r.h.getD 7 0 : Nat) r.ps r.qs r.rs
def rdE (n : Nat) (r : Rd) : Option (Int × Int) := match r.e with
  | some q => some q
  | none => match endE n r.s.p r.s.er with
    | some q => some q
    | none => rdC r
def decR (xs : List Int) : Rd := rdT (xs.take (xs.length - 4)) (xs.length - 4)
/-- Where, and why. -/
def decE (xs : List Int) : Option (Int × (Int × Int)) :=
  if 4096 < xs.length then some (-1, (3, -1)) else if fits xs = false then some (-1, (6, -1)) else (rdE (xs.length - 4) (decR xs)).map fun q => (((decR xs).s.p : Int), q)
section
variable {xs : List Int} {n : Nat}
theorem takes_bd (hx : ∀ x ∈ xs, 0 ≤ x ∧ x < 256) : ∀ (a : List Nat) (s : RS) (j : Nat), (takes xs n a s).1.getD j 0 < 256 ^ (a.getD j 0)
  | [], s, j => by simp [takes]
  | z :: a, s, 0 => by
    simp only [takes, List.getD_cons_zero]
    exact tk_lt hx rfl
  | z :: a, s, j + 1 => by
    simp only [takes, List.getD_cons_succ]
    exact takes_bd hx a _ j
theorem w64_nat {a z : Nat} (h : a < 256 ^ z) (hz : z ≤ 4) : W64 (a : Int) := by
  have : 256 ^ z ≤ 256 ^ 4 := Nat.pow_le_pow_right (by decide) hz
  unfold W64
  omega
theorem ptsR_ok (hx : ∀ x ∈ xs, 0 ≤ x ∧ x < 256) : ∀ (k : Nat) (s : RS), ∀ p ∈ (ptsR xs n k s).1, p.Ok
  | 0, s, p, h => by simp [ptsR] at h
  | k + 1, s, p, h => by
    unfold ptsR at h
    split at h
    · simp at h
    · rcases List.mem_cons.1 h with rfl | h
      · have hb := takes_bd (n := n) hx [1, 4, 4, 1, 1, 1, 1, 1, 1] s
        exact ⟨w64_nat (hb 0) (by decide), w64_nat (hb 1) (by decide), w64_nat (hb 2) (by decide), w64_nat (hb 3) (by decide), w64_nat (hb 4) (by decide), hb 5, hb 6, hb 7, hb 8⟩
      · exact ptsR_ok hx k _ p h
theorem qtsR_ok (hx : ∀ x ∈ xs, 0 ≤ x ∧ x < 256) : ∀ (k i : Nat) (s : RS), ∀ p ∈ (qtsR xs n k i s).2.1, p.Ok
  | 0, i, s, p, h => by simp [qtsR] at h
  | k + 1, i, s, p, h => by
    unfold qtsR at h
    split at h
    · simp at h
    · split at h
      · simp at h
      · rcases List.mem_cons.1 h with rfl | h
        · have hb := takes_bd (n := n) hx [1, 1, 1, 1, 1, 1] s
          exact ⟨w64_nat (hb 0) (by decide), hb 1, w64_nat (hb 3) (by decide), w64_nat (hb 4) (by decide), w64_nat (hb 5) (by decide)⟩
        · exact qtsR_ok hx k _ _ p h
theorem rdT_ok (hx : ∀ x ∈ xs, 0 ≤ x ∧ x < 256) : (∀ p ∈ (rdT xs n).ps, p.Ok) ∧ (∀ p ∈ (rdT xs n).qs, p.Ok) := by
  unfold rdT
  split
  · exact ⟨by simp, by simp⟩
  · simp only
    split
    · exact ⟨by simp, by simp⟩
    · exact ⟨ptsR_ok hx _ _, qtsR_ok hx _ _ _⟩
theorem takes_pos : ∀ (a : List Nat) (s : RS), s.p ≤ n → (takes xs n a s).2.p ≤ n
  | [], _, h => h
  | _ :: a, _, h => takes_pos a _ (tk_pos rfl h)
theorem ptsR_pos : ∀ (k : Nat) (s : RS), s.p ≤ n → (ptsR xs n k s).2.p ≤ n
  | 0, s, h => h
  | k + 1, s, h => by
    unfold ptsR
    split
    · exact h
    · exact ptsR_pos k _ (takes_pos _ _ h)
theorem qtsR_pos : ∀ (k i : Nat) (s : RS), s.p ≤ n → (qtsR xs n k i s).2.2.p ≤ n
  | 0, i, s, h => h
  | k + 1, i, s, h => by
    unfold qtsR
    split
    · exact h
    · split
      · exact takes_pos _ _ h
      · exact qtsR_pos k _ _ (takes_pos _ _ h)
theorem rtsR_pos : ∀ (k : Nat) (s : RS), s.p ≤ n → (rtsR xs n k s).2.p ≤ n
  | 0, s, h => h
  | k + 1, s, h => by
    unfold rtsR
    split
    · exact h
    · exact rtsR_pos k _ (takes_pos _ _ h)
theorem rdT_pos : (rdT xs n).s.p ≤ n := by
  have h0 : (tk xs n 4 ⟨0, none⟩).2.p ≤ n := tk_pos (s := ⟨0, none⟩) rfl (Nat.zero_le _)
  unfold rdT
  split
  · exact h0
  · simp only
    split
    · exact qtsR_pos _ _ _ (ptsR_pos _ _ (takes_pos _ _ h0))
    · exact rtsR_pos _ _ (qtsR_pos _ _ _ (ptsR_pos _ _ (takes_pos _ _ h0)))
end
end Go.Proofs.Ytcamoldjljfbeaa
