/- The bank's calls, what they answer in the document's words. -/
import Derived.Test.YtjbhcmkloamcmaaBkN
namespace Go.Proofs.Ytjbhcmkloamcmaa
open Go.RowKit

section
variable {w w0 : World} {S : Nat → Prop} {L : List Res} {p f : Nat} {M : FA} {t : St} {s : Fs} {v : Vw} {N : Nat}
theorem own_err {w' : World} {er : Option (Int × Int)} {x : Value} {r : Res} (h : Own w0 S w' (eres er x :: L.set 0 r)) : IsE w' er x := h.get 0 rfl
theorem chunk_v (k : Nat) (hO : Own w0 S w L) (hk : L[k]? = some (bankR p f M t s)) (h : Ok t s v N) (hN : N ≤ 9000) (A : Option Addr) (n c : Nat) (bs : List Int) (hA : Cells w A (nums .u8 bs)) (hb : Bytes bs) (hn : bs.length = n) (hn2 : n ≤ 100000) (er : Option (Int × Int)) (v' : Vw) (hx : rchunk bs v = (er, v')) :
    Calls Try.prog 14 #[.pointer (some ⟨p, 0, none⟩), .slice A n c] w fun e w' => ∃ x, e = .returned x ∧ IsE w' er x ∧ ∃ M' t' s', Ok t' s' v' (N + 1) ∧ Own w0 S w' (L.set k (bankR p f M' t' s')) := by
  obtain ⟨⟨er1, t1, s1⟩, hx1⟩ : ∃ r, chunkX bs t s = r := ⟨_, rfl⟩
  obtain ⟨v1, h1, h2⟩ := chunk_sim h hN bs hb hx1
  rw [hx] at h1
  injection h1 with e1 e2
  subst e1 e2
  refine (chunk_own k hO hk h.st h.fs A n c bs hA hb hn hn2 _ _ _ hx1 ⟨Nat.le_trans h.bnd.1 (Nat.le_trans hN (by decide)), Nat.le_trans h.bnd.2.1 (Nat.le_trans hN (by decide))⟩).mono ?_
  rintro e w' ⟨x, rfl, M', ho⟩
  exact ⟨x, rfl, ho.get 0 rfl, M', t1, s1, h2, ho.tail⟩
theorem commit_v (k : Nat) (hO : Own w0 S w L) (hk : L[k]? = some (bankR p f M t s)) (h : Ok t s v N) (hN : N ≤ 9000) (er : Option (Int × Int)) (v' : Vw) (hx : rcommit v = (er, v')) :
    Calls Try.prog 20 #[.pointer (some ⟨p, 0, none⟩)] w fun e w' => ∃ x, e = .returned x ∧ IsE w' er x ∧ ∃ M' t' s', Ok t' s' v' (N + 1) ∧ Own w0 S w' (L.set k (bankR p f M' t' s')) := by
  obtain ⟨⟨er1, t1, s1⟩, hx1⟩ : ∃ r, commitX t s = r := ⟨_, rfl⟩
  obtain ⟨v1, h1, h2⟩ := commit_sim h hN hx1
  rw [hx] at h1
  injection h1 with e1 e2
  subst e1 e2
  refine (commit_own k hO hk h.st h.fs _ _ _ hx1 (Nat.le_trans h.bnd.2.2 (Nat.le_trans hN (by decide)))).mono ?_
  rintro e w' ⟨x, rfl, M', ho⟩
  exact ⟨x, rfl, ho.get 0 rfl, M', t1, s1, h2, ho.tail⟩
theorem begin_v (k : Nat) (hO : Own w0 S w L) (hk : L[k]? = some (bankR p f M t s)) (h : Ok t s v N) (hN : N ≤ 9000) (n : Int) (sum : List Int) (hsum : sum.length = 32) (er : Option (Int × Int)) (v' : Vw) (hx : rbegin n sum v = (er, v')) :
    Calls Try.prog 13 #[.pointer (some ⟨p, 0, none⟩), .int .i64 n, .agg (nums .u8 sum).toArray] w fun e w' => ∃ x, e = .returned x ∧ IsE w' er x ∧ ∃ M' t' s', Ok t' s' v' N ∧ Own w0 S w' (L.set k (bankR p f M' t' s')) := by
  obtain ⟨⟨er1, t1, s1⟩, hx1⟩ : ∃ r, beginX n sum t s = r := ⟨_, rfl⟩
  obtain ⟨v1, h1, h2⟩ := begin_sim h hN n sum hsum hx1
  rw [hx] at h1
  injection h1 with e1 e2
  subst e1 e2
  refine (begin_own k hO hk h.st.sum h.fs.left n sum hsum _ _ _ hx1).mono ?_
  rintro e w' ⟨x, rfl, M', ho⟩
  exact ⟨x, rfl, ho.get 0 rfl, M', t1, s1, h2, ho.tail⟩
def leftV (v : Vw) : Int := if v.opn = true then v.size - v.got.length else 0
theorem left_v (k : Nat) (hO : Own w0 S w L) (hk : L[k]? = some (bankR p f M t s)) (h : Ok t s v N) (z : Int) (hz : leftV v = z) : Calls Try.prog 21 #[.pointer (some ⟨p, 0, none⟩)] w fun e w' => e = .returned (.int .i64 z) ∧ w = w' := by
  refine (left_own k hO hk h.st.sum).mono ?_
  rintro e w' ⟨rfl, rfl⟩
  refine ⟨?_, rfl⟩
  rw [← hz, leftV, h.inv.opn]
  by_cases ho : v.opn = true
  · rw [if_pos ho, if_pos ho, (h.inv.dl ho).2.2.1]
  · rw [if_neg ho, if_neg ho]
theorem image_v (k : Nat) (hO : Own w0 S w L) (hk : L[k]? = some (bankR p f M t s)) (h : Ok t s v N) (xs : List Int) (m : Nat) (hx : v.image = xs) (hm : xs.length = m) (b : Bool) (hb : v.has = b) :
    Calls Try.prog 17 #[.pointer (some ⟨p, 0, none⟩)] w fun e w' => ∃ A c, e = .returned (.tuple #[.slice A m c, .bool b]) ∧ Own w0 S w' (row 5 1 (.slice A m c) m (nums .u8 xs) :: L) := by
  obtain ⟨h1, h2⟩ := image_ok h
  refine (image_own k hO hk h.st h.fs m (by rw [h1, hx]; exact hm)).mono ?_
  rintro e w' ⟨A, c, rfl, ho⟩
  rw [h1, hx] at ho
  rw [h2, hb]
  exact ⟨A, c, rfl, ho⟩
end
theorem read_v (c a : Int) (x : Value) (w : World) (h : IsE w (some (c, a)) x) (hc : c ≠ 0 ∧ -9223372036854775808 < c ∧ c ≤ 9223372036854775807 ∧ -1 ≤ a ∧ a ≤ 9223372036854775807) (b : ByteArray) (hb : errB [(c, a)] none = b) :
    Calls Try.prog 19 #[x] w fun e w' => e = .returned (.string b) ∧ Below w.heap.size w w' := by
  rw [← hb]
  exact read_any [(c, a)] none x w h.isErr ⟨by simp, by simpa using hc, by simp⟩
end Go.Proofs.Ytjbhcmkloamcmaa
