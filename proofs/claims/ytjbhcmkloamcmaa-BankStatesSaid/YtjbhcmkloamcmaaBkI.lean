/- The bank's calls in plain words: what they keep; what the document says they do. -/
import Derived.Test.YtjbhcmkloamcmaaBkC
namespace Go.Proofs.Ytjbhcmkloamcmaa
open Go.RowKit

/-- At most so many pages, marks. -/
def Bnd (s : Fs) (n : Nat) : Prop := s.b0.length ≤ n ∧ s.b1.length ≤ n ∧ s.mrk.length ≤ n
/-- What the document keeps of a store. -/
structure Vw where
  has : Bool
  opn : Bool
  image : List Int
  want : List Int
  got : List Int
  size : Int
  left : Int
def decL (n : Int) : Int := if n ≤ 0 then n else n - 1
def rbegin (n : Int) (sum : List Int) (v : Vw) : Option (Int × Int) × Vw :=
  if n < 0 ∨ 512 < n then (some (2, if n < 0 then -1 else n), v)
  else if v.left = 0 then (some (16, -1), { v with opn := false })
  else (none, { v with opn := true, size := n, want := sum, got := [], left := decL v.left })
def rchunk (b : List Int) (v : Vw) : Option (Int × Int) × Vw :=
  if v.opn = false then (some (15, -1), v)
  else if b.length < 1 ∨ 32 < b.length then (some (12, b.length), v)
  else if v.size - v.got.length < b.length then (some (5, -1), v)
  else if v.left = 0 then (some (16, -1), { v with opn := false })
  else (none, { v with got := v.got ++ b, left := decL v.left })
def rcommit (v : Vw) : Option (Int × Int) × Vw :=
  if v.opn = false then (some (15, -1), v)
  else if v.size - v.got.length ≠ 0 then (some (4, v.size - v.got.length), v)
  else if sha v.got ≠ v.want then (some (6, -1), { v with opn := false })
  else if v.left = 0 then (some (16, -1), { v with opn := false })
  else (none, { v with opn := false, has := true, image := v.got, left := decL v.left })
def rcrash (v : Vw) : Vw := { v with opn := false, left := -1 }
def rarm (n : Int) (v : Vw) : Vw := { v with left := if n < -1 then -1 else n }
def Vw.new : Vw := ⟨false, false, [], [], [], 0, -1⟩
/-- The store and its flash say what the document keeps. -/
structure Inv (t : St) (s : Fs) (v : Vw) : Prop where
  left : s.left = v.left
  opn : t.opn = v.opn
  mark : markR s.mrk (-1, 0) = (t.active, t.size)
  none_ : t.active = -1 → v.has = false ∧ v.image = [] ∧ t.size = 0
  some_ : t.active ≠ -1 → v.has = true ∧ (s.bank t.active.toNat).flatMap openP = v.image ∧ t.size = v.image.length
  act : t.active = -1 ∨ t.active = 0 ∨ t.active = 1
  size : v.image.length ≤ 512 ∧ v.got.length ≤ 512
  dl : v.opn = true → (s.bank (oth t)).flatMap openP = v.got ∧ t.total = v.size ∧ t.left = v.size - v.got.length ∧ t.sum = v.want ∧ v.got.length ≤ v.size ∧ v.size ≤ 512
structure Ok (t : St) (s : Fs) (v : Vw) (n : Nat) : Prop where
  inv : Inv t s v
  st : StOk t
  fs : FsOk s
  bnd : Bnd s n
theorem oth_lt (t : St) : oth t < 2 := by unfold oth; split <;> decide
theorem oth_ne {t : St} (h : t.active ≠ -1) (ha : t.active = -1 ∨ t.active = 0 ∨ t.active = 1) : t.active.toNat ≠ oth t := by
  unfold oth
  rcases ha with h1 | h1 | h1
  · exact absurd h1 h
  · rw [h1]; decide
  · rw [h1]; decide
theorem act_nat {t : St} (h : t.active ≠ -1) (ha : t.active = -1 ∨ t.active = 0 ∨ t.active = 1) : t.active.toNat < 2 := by
  rcases ha with h1 | h1 | h1
  · exact absurd h1 h
  · rw [h1]; decide
  · rw [h1]; decide
theorem bank_same (s : Fs) (o : Nat) (l : List (List Int)) : (s.put o l).bank o = l := by unfold Fs.put Fs.bank; split <;> simp_all
theorem bank_apart (s : Fs) {o a : Nat} (ho : o < 2) (ha : a < 2) (h : a ≠ o) (l : List (List Int)) : (s.put o l).bank a = s.bank a := by
  unfold Fs.put Fs.bank
  obtain rfl | rfl : o = 0 ∨ o = 1 := by omega
  · obtain rfl : a = 1 := by omega
    rfl
  · obtain rfl : a = 0 := by omega
    rfl
theorem put_mrk (s : Fs) (o : Nat) (l : List (List Int)) : (s.put o l).mrk = s.mrk := by unfold Fs.put; split <;> rfl
theorem put_left (s : Fs) (o : Nat) (l : List (List Int)) : (s.put o l).left = s.left := by unfold Fs.put; split <;> rfl
theorem put_ok {s : Fs} (h : FsOk s) {n : Nat} (hb : Bnd s n) (hn : n ≤ 10000) (o : Nat) (l : List (List Int)) (hl : ∀ p ∈ l, Bytes p ∧ p.length ≤ 100) (hll : l.length ≤ n) : FsOk (s.put o l) ∧ Bnd (s.put o l) n := by
  unfold Fs.put
  split
  · exact ⟨⟨hl, h.p1, h.mrk, by show l.length ≤ 10000; omega, h.l1, h.lm, h.left⟩, hll, hb.2.1, hb.2.2⟩
  · exact ⟨⟨h.p0, hl, h.mrk, h.l0, by show l.length ≤ 10000; omega, h.lm, h.left⟩, hb.1, hll, hb.2.2⟩
theorem step_ok {s : Fs} (h : FsOk s) : FsOk (stepS s) := ⟨h.p0, h.p1, h.mrk, h.l0, h.l1, h.lm, by have := h.left; unfold stepS; dsimp only; split <;> omega⟩
theorem step_bnd {s : Fs} {n : Nat} (h : Bnd s n) : Bnd (stepS s) n := h
theorem bank_ok {s : Fs} (h : FsOk s) (o : Nat) : ∀ p ∈ s.bank o, Bytes p ∧ p.length ≤ 100 := by unfold Fs.bank; split <;> first | exact h.p0 | exact h.p1
theorem bank_bnd {s : Fs} {n : Nat} (h : Bnd s n) (o : Nat) : (s.bank o).length ≤ n := by unfold Fs.bank; split <;> first | exact h.1 | exact h.2.1
theorem bnd_mono {s : Fs} {n m : Nat} (h : Bnd s n) (hm : n ≤ m) : Bnd s m := ⟨by have := h.1; omega, by have := h.2.1; omega, by have := h.2.2; omega⟩
theorem step_bank (s : Fs) (o : Nat) : (stepS s).bank o = s.bank o := rfl
theorem inv_shut {t : St} {s : Fs} {v : Vw} (h : Inv t s v) : Inv { t with opn := false } s { v with opn := false } :=
  ⟨h.left, rfl, h.mark, h.none_, h.some_, h.act, h.size, fun e => by cases e⟩
theorem openP_seal {b : List Int} (hb : Bytes b) : openP (crcSeal b) = b := by
  unfold openP
  rw [if_pos (fits_seal hb), crcSeal_length, Nat.add_sub_cancel, seal_take]
theorem flat_snoc (l : List (List Int)) (p : List Int) : (l ++ [p]).flatMap openP = l.flatMap openP ++ openP p := by simp
theorem begin_sim {t : St} {s : Fs} {v : Vw} {N : Nat} (h : Ok t s v N) (hN : N ≤ 9000) (n : Int) (sum : List Int) (hsum : sum.length = 32) {er : Option (Int × Int)} {t' : St} {s' : Fs} (hx : beginX n sum t s = (er, t', s')) :
    ∃ v', rbegin n sum v = (er, v') ∧ Ok t' s' v' N := by
  unfold beginX at hx
  unfold rbegin
  by_cases h1 : n < 0 ∨ 512 < n
  · rw [if_pos h1] at hx ⊢
    injection hx with e1 e2
    injection e2 with e2 e3
    subst e1 e2 e3
    exact ⟨v, rfl, h⟩
  · rw [if_neg h1] at hx ⊢
    by_cases h2 : s.left = 0
    · rw [if_pos h2] at hx
      rw [if_pos (by rw [← h.inv.left]; exact h2)]
      injection hx with e1 e2
      injection e2 with e2 e3
      subst e1 e2 e3
      exact ⟨_, rfl, inv_shut h.inv, ⟨h.st.active, h.st.size, h.st.sum, h.st.total, h.st.left⟩, h.fs, h.bnd⟩
    · rw [if_neg h2] at hx
      rw [if_neg (by rw [← h.inv.left]; exact h2)]
      injection hx with e1 e2
      injection e2 with e2 e3
      subst e1 e2 e3
      obtain ⟨k1, k2⟩ := put_ok (step_ok h.fs) (step_bnd h.bnd) (by omega) (oth t) [] (by simp) (by simp)
      refine ⟨_, rfl, ⟨?_, rfl, ?_, h.inv.none_, fun ha => ?_, h.inv.act, ⟨h.inv.size.1, by simp⟩, fun _ => ⟨?_, rfl, by simp, rfl, by simp; omega, by simp; omega⟩⟩, ⟨h.st.active, h.st.size, hsum, by simp; omega, by simp; omega⟩, k1, k2⟩
      · rw [put_left, ← h.inv.left]; rfl
      · rw [put_mrk]; exact h.inv.mark
      · obtain ⟨a1, a2, a3⟩ := h.inv.some_ ha
        refine ⟨a1, ?_, a3⟩
        rw [bank_apart _ (oth_lt t) (act_nat ha h.inv.act) (oth_ne ha h.inv.act)]
        exact a2
      · show ((stepS s).put (oth t) [] |>.bank (oth t)).flatMap openP = []
        rw [bank_same]
        rfl
theorem chunk_sim {t : St} {s : Fs} {v : Vw} {N : Nat} (h : Ok t s v N) (hN : N ≤ 9000) (b : List Int) (hb : Bytes b) {er : Option (Int × Int)} {t' : St} {s' : Fs} (hx : chunkX b t s = (er, t', s')) :
    ∃ v', rchunk b v = (er, v') ∧ Ok t' s' v' (N + 1) := by
  unfold chunkX at hx
  unfold rchunk
  have hup : Ok t s v (N + 1) := ⟨h.inv, h.st, h.fs, bnd_mono h.bnd (by omega)⟩
  by_cases h1 : t.opn = false
  · rw [if_pos h1] at hx
    rw [if_pos (by rw [← h.inv.opn]; exact h1)]
    injection hx with e1 e2
    injection e2 with e2 e3
    subst e1 e2 e3
    exact ⟨v, rfl, hup⟩
  · rw [if_neg h1] at hx
    rw [if_neg (by rw [← h.inv.opn]; exact h1)]
    obtain ⟨d1, d2, d3, d4, d5, d6⟩ := h.inv.dl (by rw [← h.inv.opn]; simpa using h1)
    by_cases h2 : b.length < 1 ∨ 32 < b.length
    · rw [if_pos h2] at hx ⊢
      injection hx with e1 e2
      injection e2 with e2 e3
      subst e1 e2 e3
      exact ⟨v, rfl, hup⟩
    · rw [if_neg h2] at hx ⊢
      by_cases h3 : t.left < b.length
      · rw [if_pos h3] at hx
        rw [if_pos (by rw [← d3]; exact h3)]
        injection hx with e1 e2
        injection e2 with e2 e3
        subst e1 e2 e3
        exact ⟨v, rfl, hup⟩
      · rw [if_neg h3] at hx
        rw [if_neg (by rw [← d3]; exact h3)]
        have hcb := crcSeal_bytes hb
        have hcl := crcSeal_length b
        by_cases h4 : s.left = 0
        · rw [if_pos h4] at hx
          rw [if_pos (by rw [← h.inv.left]; exact h4)]
          injection hx with e1 e2
          injection e2 with e2 e3
          subst e1 e2 e3
          obtain ⟨k1, k2⟩ := put_ok h.fs (bnd_mono h.bnd (Nat.le_succ N)) (by omega) (oth t) (s.bank (oth t) ++ [halfP true (crcSeal b)]) (fun p hp => by
            rcases List.mem_append.1 hp with hp | hp
            · exact bank_ok h.fs _ p hp
            · obtain rfl := List.mem_singleton.1 hp
              unfold halfP
              rw [if_pos rfl]
              exact ⟨bytes_take hcb _, by rw [List.length_take]; omega⟩) (by have := bank_bnd h.bnd (oth t); simp; omega)
          refine ⟨_, rfl, ⟨?_, rfl, ?_, h.inv.none_, fun ha => ?_, h.inv.act, h.inv.size, fun e => by cases e⟩, ⟨h.st.active, h.st.size, h.st.sum, h.st.total, h.st.left⟩, k1, k2⟩
          · rw [put_left]; exact h.inv.left
          · rw [put_mrk]; exact h.inv.mark
          · obtain ⟨a1, a2, a3⟩ := h.inv.some_ ha
            refine ⟨a1, ?_, a3⟩
            show ((s.put (oth t) _).bank t.active.toNat).flatMap openP = v.image
            rw [bank_apart _ (oth_lt t) (act_nat ha h.inv.act) (oth_ne ha h.inv.act)]
            exact a2
        · rw [if_neg h4] at hx
          rw [if_neg (by rw [← h.inv.left]; exact h4)]
          injection hx with e1 e2
          injection e2 with e2 e3
          subst e1 e2 e3
          obtain ⟨k1, k2⟩ := put_ok (step_ok h.fs) (bnd_mono (step_bnd h.bnd) (Nat.le_succ N)) (by omega) (oth t) (s.bank (oth t) ++ [crcSeal b]) (fun p hp => by
            rcases List.mem_append.1 hp with hp | hp
            · exact bank_ok h.fs _ p hp
            · obtain rfl := List.mem_singleton.1 hp
              exact ⟨hcb, by omega⟩) (by have := bank_bnd h.bnd (oth t); simp; omega)
          have hgl : (v.got ++ b).length = v.got.length + b.length := List.length_append
          refine ⟨_, rfl, ⟨?_, h.inv.opn, ?_, h.inv.none_, fun ha => ?_, h.inv.act, ⟨h.inv.size.1, by show (v.got ++ b).length ≤ 512; omega⟩, fun e => ⟨?_, d2, ?_, d4, ?_, d6⟩⟩, ⟨h.st.active, h.st.size, h.st.sum, h.st.total, ?_⟩, k1, k2⟩
          · rw [put_left, ← h.inv.left]; rfl
          · rw [put_mrk]; exact h.inv.mark
          · obtain ⟨a1, a2, a3⟩ := h.inv.some_ ha
            refine ⟨a1, ?_, a3⟩
            show (((stepS s).put (oth t) _).bank t.active.toNat).flatMap openP = v.image
            rw [bank_apart _ (oth_lt t) (act_nat ha h.inv.act) (oth_ne ha h.inv.act)]
            exact a2
          · show (((stepS s).put (oth t) (s.bank (oth t) ++ [crcSeal b])).bank (oth t)).flatMap openP = v.got ++ b
            rw [bank_same, flat_snoc, d1, openP_seal hb]
          · show t.left - b.length = v.size - ((v.got ++ b).length : Int)
            rw [hgl]
            omega
          · show ((v.got ++ b).length : Int) ≤ v.size
            rw [hgl]
            omega
          · have := h.st.left
            show 0 ≤ t.left - b.length ∧ t.left - b.length ≤ 512
            omega
theorem mark_snoc_full {s : Fs} {o n : Nat} (ho : o < 2) (hn : n ≤ 512) : markR (s.mrk ++ [markP o n]) (-1, 0) = ((o : Int), (n : Int)) := by
  rw [markR_snoc, if_pos (mark_fits o n ho hn), mark_read]
theorem mark_half (o n : Nat) (ho : o < 2) (hn : n ≤ 512) : (halfP true (markP o n)).length < 4 ∧ Bytes (halfP true (markP o n)) := by
  unfold halfP
  rw [if_pos rfl, mark_len]
  exact ⟨by rw [List.length_take]; omega, bytes_take (mark_all o n ho hn) _⟩
theorem short_fits {m : List Int} (h : m.length < 4) : fits m = false := by
  unfold fits
  rw [decide_eq_false (by omega)]
  rfl
theorem commit_sim {t : St} {s : Fs} {v : Vw} {N : Nat} (h : Ok t s v N) (hN : N ≤ 9000) {er : Option (Int × Int)} {t' : St} {s' : Fs} (hx : commitX t s = (er, t', s')) :
    ∃ v', rcommit v = (er, v') ∧ Ok t' s' v' (N + 1) := by
  unfold commitX at hx
  unfold rcommit
  have hup : Ok t s v (N + 1) := ⟨h.inv, h.st, h.fs, bnd_mono h.bnd (by omega)⟩
  by_cases h1 : t.opn = false
  · rw [if_pos h1] at hx
    rw [if_pos (by rw [← h.inv.opn]; exact h1)]
    injection hx with e1 e2
    injection e2 with e2 e3
    subst e1 e2 e3
    exact ⟨v, rfl, hup⟩
  · rw [if_neg h1] at hx
    rw [if_neg (by rw [← h.inv.opn]; exact h1)]
    obtain ⟨d1, d2, d3, d4, d5, d6⟩ := h.inv.dl (by rw [← h.inv.opn]; simpa using h1)
    by_cases h2 : t.left ≠ 0
    · rw [if_pos h2] at hx
      rw [if_pos (by rw [← d3]; exact h2), ← d3]
      injection hx with e1 e2
      injection e2 with e2 e3
      subst e1 e2 e3
      exact ⟨v, rfl, hup⟩
    · rw [if_neg h2] at hx
      rw [if_neg (by rw [← d3]; exact h2)]
      have hsz : t.total.toNat = v.got.length := by omega
      have htn : t.total = ((v.got.length : Nat) : Int) := by omega
      have hrd : readB (s.bank (oth t)) t.total.toNat = v.got := by
        unfold readB
        rw [d1, hsz, List.take_length]
      have hgl := h.inv.size.2
      rw [hrd] at hx
      have hup2 : Ok { t with opn := false } s { v with opn := false } (N + 1) := ⟨inv_shut h.inv, ⟨h.st.active, h.st.size, h.st.sum, h.st.total, h.st.left⟩, h.fs, bnd_mono h.bnd (by omega)⟩
      by_cases h3 : sha v.got ≠ v.want
      · rw [if_pos (by rw [d4]; exact h3)] at hx
        rw [if_pos h3]
        injection hx with e1 e2
        injection e2 with e2 e3
        subst e1 e2 e3
        exact ⟨_, rfl, hup2⟩
      · rw [if_neg (by rw [d4]; exact h3)] at hx
        rw [if_neg h3]
        have hmb : ∀ m ∈ s.mrk, MarkOk m := h.fs.mrk
        by_cases h4 : s.left = 0
        · rw [if_pos h4] at hx
          rw [if_pos (by rw [← h.inv.left]; exact h4)]
          injection hx with e1 e2
          injection e2 with e2 e3
          subst e1 e2 e3
          rw [htn]
          obtain ⟨q1, q2⟩ := mark_half (oth t) v.got.length (oth_lt t) hgl
          refine ⟨_, rfl, ⟨h.inv.left, rfl, ?_, h.inv.none_, h.inv.some_, h.inv.act, h.inv.size, fun e => by cases e⟩, ⟨h.st.active, h.st.size, h.st.sum, by have := h.st.total; show 0 ≤ ((v.got.length : Nat) : Int) ∧ ((v.got.length : Nat) : Int) ≤ 512; omega, h.st.left⟩,
            ⟨h.fs.p0, h.fs.p1, fun m hm => ?_, h.fs.l0, h.fs.l1, by have := h.bnd.2.2; show (s.mrk ++ [_]).length ≤ 10000; simp; omega, h.fs.left⟩, by have := h.bnd.1; show s.b0.length ≤ N + 1; omega, by have := h.bnd.2.1; show s.b1.length ≤ N + 1; omega, by have := h.bnd.2.2; show (s.mrk ++ [_]).length ≤ N + 1; simp; omega⟩
          · show markR (s.mrk ++ [_]) (-1, 0) = (t.active, t.size)
            rw [markR_snoc, short_fits q1]
            exact h.inv.mark
          · rcases List.mem_append.1 hm with hm | hm
            · exact hmb m hm
            · obtain rfl := List.mem_singleton.1 hm
              exact .inr ⟨q1, q2⟩
        · rw [if_neg h4] at hx
          rw [if_neg (by rw [← h.inv.left]; exact h4)]
          injection hx with e1 e2
          injection e2 with e2 e3
          subst e1 e2 e3
          rw [htn]
          have ho := oth_lt t
          refine ⟨_, rfl, ⟨?_, rfl, ?_, fun ha => ?_, fun ha => ⟨rfl, ?_, rfl⟩, ?_, ⟨hgl, hgl⟩, fun e => by cases e⟩, ⟨?_, ?_, h.st.sum, ?_, h.st.left⟩,
            ⟨h.fs.p0, h.fs.p1, fun m hm => ?_, h.fs.l0, h.fs.l1, by have := h.bnd.2.2; show (s.mrk ++ [_]).length ≤ 10000; simp; omega, (step_ok h.fs).left⟩, by have := h.bnd.1; show s.b0.length ≤ N + 1; omega, by have := h.bnd.2.1; show s.b1.length ≤ N + 1; omega, by have := h.bnd.2.2; show (s.mrk ++ [_]).length ≤ N + 1; simp; omega⟩
          · show (stepS s).left = decL v.left
            rw [← h.inv.left]; rfl
          · show markR (s.mrk ++ [_]) (-1, 0) = (((oth t : Nat) : Int), ((v.got.length : Nat) : Int))
            exact mark_snoc_full ho hgl
          · have : ((oth t : Nat) : Int) = -1 := ha
            omega
          · show (s.bank ((oth t : Nat) : Int).toNat).flatMap openP = v.got
            rw [Int.toNat_natCast]
            exact d1
          · show ((oth t : Nat) : Int) = -1 ∨ ((oth t : Nat) : Int) = 0 ∨ ((oth t : Nat) : Int) = 1
            omega
          · show ((oth t : Nat) : Int) = -1 ∨ ((oth t : Nat) : Int) = 0 ∨ ((oth t : Nat) : Int) = 1
            omega
          · show 0 ≤ ((v.got.length : Nat) : Int) ∧ ((v.got.length : Nat) : Int) ≤ 100000
            omega
          · have := h.st.total
            show 0 ≤ ((v.got.length : Nat) : Int) ∧ ((v.got.length : Nat) : Int) ≤ 512
            omega
          · rcases List.mem_append.1 hm with hm | hm
            · exact hmb m hm
            · obtain rfl := List.mem_singleton.1 hm
              exact .inl ⟨oth t, v.got.length, ho, hgl, rfl⟩
/-- The power goes and comes back. -/
theorem crash_sim {t : St} {s : Fs} {v : Vw} {N : Nat} (h : Ok t s v N) : Ok (st0 t.active t.size) { s with left := -1 } (rcrash v) N :=
  ⟨⟨rfl, rfl, h.inv.mark, h.inv.none_, h.inv.some_, h.inv.act, h.inv.size, fun e => by cases e⟩, ⟨h.st.active, h.st.size, by simp [st0], by simp [st0], by simp [st0]⟩, ⟨h.fs.p0, h.fs.p1, h.fs.mrk, h.fs.l0, h.fs.l1, h.fs.lm, (show (-1 : Int) ≤ -1 ∧ (-1 : Int) ≤ 1000000 by decide)⟩, h.bnd⟩
/-- A store opened anew on the same flash. -/
theorem reopen_sim {t : St} {s : Fs} {v : Vw} {N : Nat} (h : Ok t s v N) : Ok (st0 t.active t.size) s { v with opn := false } N :=
  ⟨⟨h.inv.left, rfl, h.inv.mark, h.inv.none_, h.inv.some_, h.inv.act, h.inv.size, fun e => by cases e⟩, ⟨h.st.active, h.st.size, by simp [st0], by simp [st0], by simp [st0]⟩, h.fs, h.bnd⟩
theorem arm_sim {t : St} {s : Fs} {v : Vw} {N : Nat} (h : Ok t s v N) (n : Int) (hn : n ≤ 1000000) : Ok t (armS n s) (rarm n v) N :=
  ⟨⟨rfl, h.inv.opn, h.inv.mark, h.inv.none_, h.inv.some_, h.inv.act, h.inv.size, h.inv.dl⟩, h.st, ⟨h.fs.p0, h.fs.p1, h.fs.mrk, h.fs.l0, h.fs.l1, h.fs.lm, by unfold armS; dsimp only; split <;> omega⟩, h.bnd⟩
theorem new_ok : Ok (st0 (-1) 0) ⟨[], [], [], -1⟩ Vw.new 0 :=
  ⟨⟨rfl, rfl, rfl, fun _ => ⟨rfl, rfl, rfl⟩, fun h => absurd rfl h, .inl rfl, ⟨by decide, by decide⟩, fun e => by cases e⟩, ⟨.inl rfl, by decide, rfl, by decide, by decide⟩, ⟨by simp, by simp, by simp, by simp, by simp, by simp, by decide⟩, by decide, by decide, by decide⟩
/-- The image as the store tells it. -/
theorem image_ok {t : St} {s : Fs} {v : Vw} {N : Nat} (h : Ok t s v N) : imageL t s = v.image ∧ decide (0 ≤ t.active) = v.has := by
  unfold imageL
  by_cases ha : t.active = -1
  · rw [if_pos ha, ha]
    obtain ⟨a1, a2, _⟩ := h.inv.none_ ha
    rw [a1, a2]
    exact ⟨rfl, rfl⟩
  · rw [if_neg ha]
    obtain ⟨a1, a2, a3⟩ := h.inv.some_ ha
    rw [a1]
    refine ⟨?_, decide_eq_true (by have := h.inv.act; omega)⟩
    unfold readB
    rw [a2, a3, Int.toNat_natCast, List.take_length]
end Go.Proofs.Ytjbhcmkloamcmaa
