/- What comes of an image that is put, in plain words. -/
import Derived.Test.YtjbhcmkloamcmaaBkJ
namespace Go.Proofs.Ytjbhcmkloamcmaa
open Go.RowKit

theorem decL_neg : decL (-1) = -1 := rfl
/-- With the power on, all comes. -/
theorem feed_good (part : Nat) (hp1 : 1 ≤ part) (hp2 : part ≤ 32) : ∀ (k : Nat) (bs : List Int) (v : Vw), bs.length ≤ k → v.opn = true → v.left = -1 → v.size = ((v.got.length + bs.length : Nat) : Int) → sha (v.got ++ bs) = v.want →
    feedR part k bs v = (none, { v with opn := false, has := true, image := v.got ++ bs, got := v.got ++ bs }) := by
  have hcom : ∀ v : Vw, v.opn = true → v.left = -1 → v.size = (v.got.length : Int) → sha v.got = v.want → rcommit v = (none, { v with opn := false, has := true, image := v.got }) := fun v h1 h2 h3 h4 => by
    unfold rcommit
    rw [if_neg (by rw [h1]; decide), if_neg (by omega), if_neg (by simpa using h4), if_neg (by omega), h2, decL_neg]
  intro k
  induction k with
  | zero =>
    intro bs v hk ho hl hs hw
    obtain rfl : bs = [] := List.length_eq_zero_iff.1 (by omega)
    rw [feedR, hcom v ho hl (by simpa using hs) (by simpa using hw)]
    simp
  | succ k ih =>
    intro bs v hk ho hl hs hw
    rw [feedR]
    by_cases hb : bs = []
    · subst hb
      rw [if_pos rfl, hcom v ho hl (by simpa using hs) (by simpa using hw)]
      simp
    · rw [if_neg hb]
      have h0 : 0 < bs.length := List.length_pos_iff.2 hb
      have hcl : (bs.take part).length = min part bs.length := List.length_take
      have hch : rchunk (bs.take part) v = (none, { v with got := v.got ++ bs.take part }) := by
        unfold rchunk
        rw [if_neg (by rw [ho]; decide), if_neg (by omega), if_neg (by omega), if_neg (by omega), hl, decL_neg]
      rw [hch]
      simp only
      rw [ih (bs.drop part) { v with got := v.got ++ bs.take part } (by rw [List.length_drop]; omega) ho hl (by simp only [List.length_append, hcl, List.length_drop]; omega) (by simp only [List.append_assoc, List.take_append_drop]; exact hw)]
      simp only [List.append_assoc, List.take_append_drop]
theorem put_good {part : Nat} (hp1 : 1 ≤ part) (hp2 : part ≤ 32) {bs : List Int} (hb : bs.length ≤ 512) {v : Vw} (hl : v.left = -1) :
    putR part bs (sha bs) v = (none, ⟨true, false, bs, sha bs, bs, bs.length, -1⟩) := by
  unfold putR rbegin
  rw [if_neg (by omega), if_neg (by omega), hl, decL_neg]
  simp only
  rw [feed_good part hp1 hp2 bs.length bs _ (Nat.le_refl _) rfl rfl (by simp) (by simp)]
  simp
theorem rchunk_same {b : List Int} {v v' : Vw} {er : Option (Int × Int)} (h : rchunk b v = (er, v')) : v'.image = v.image ∧ v'.has = v.has ∧ v'.want = v.want ∧ (er = none → v'.got = v.got ++ b ∧ v'.size = v.size) := by
  unfold rchunk at h
  split at h
  · injection h with e1 e2; subst e1 e2; simp
  · split at h
    · injection h with e1 e2; subst e1 e2; simp
    · split at h
      · injection h with e1 e2; subst e1 e2; simp
      · split at h
        · injection h with e1 e2; subst e1 e2; simp
        · injection h with e1 e2; subst e1 e2; simp
theorem rcommit_same {v v' : Vw} {er : Option (Int × Int)} (h : rcommit v = (er, v')) : (er = none → v'.image = v.got ∧ v'.has = true ∧ sha v.got = v.want) ∧ (er ≠ none → v'.image = v.image ∧ v'.has = v.has) := by
  unfold rcommit at h
  split at h
  · injection h with e1 e2; subst e1 e2; simp
  · split at h
    · injection h with e1 e2; subst e1 e2; simp
    · split at h
      · injection h with e1 e2; subst e1 e2; simp
      · rename_i hsh
        split at h
        · injection h with e1 e2; subst e1 e2; simp
        · injection h with e1 e2
          subst e1 e2
          exact ⟨fun _ => ⟨rfl, rfl, by simpa using hsh⟩, fun h => absurd rfl h⟩
/-- Whatever the power does: the new one whole, or the old one. -/
theorem feed_whole (part : Nat) (_hp1 : 1 ≤ part) : ∀ (k : Nat) (bs : List Int) (v v' : Vw) (er : Option (Int × Int)), bs.length ≤ k → feedR part k bs v = (er, v') →
    (er = none → v'.image = v.got ++ bs ∧ v'.has = true ∧ sha (v.got ++ bs) = v.want) ∧ (er ≠ none → v'.image = v.image ∧ v'.has = v.has) := by
  intro k
  induction k with
  | zero =>
    intro bs v v' er hk h
    obtain rfl : bs = [] := List.length_eq_zero_iff.1 (by omega)
    rw [feedR] at h
    have := rcommit_same h
    simpa using this
  | succ k ih =>
    intro bs v v' er hk h
    rw [feedR] at h
    by_cases hb : bs = []
    · subst hb
      rw [if_pos rfl] at h
      have := rcommit_same h
      simpa using this
    · rw [if_neg hb] at h
      obtain ⟨er2, v2, h2⟩ : ∃ er2 v2, rchunk (bs.take part) v = (er2, v2) := ⟨_, _, rfl⟩
      obtain ⟨s1, s2, s3, s4⟩ := rchunk_same h2
      rw [h2] at h
      cases er2 with
      | some e =>
        injection h with e1 e2
        subst e1 e2
        exact ⟨fun h => (by cases h), fun _ => ⟨s1, s2⟩⟩
      | none =>
        simp only at h
        have h0 : 0 < bs.length := List.length_pos_iff.2 hb
        obtain ⟨g1, g2⟩ := ih (bs.drop part) v2 v' er (by rw [List.length_drop]; omega) h
        obtain ⟨s5, _⟩ := s4 rfl
        rw [s5, s3, List.append_assoc, List.take_append_drop] at g1
        rw [s1, s2] at g2
        exact ⟨g1, g2⟩
theorem put_whole {part : Nat} (hp1 : 1 ≤ part) {bs sum : List Int} {v v' : Vw} {er : Option (Int × Int)} (h : putR part bs sum v = (er, v')) :
    (er = none → v'.image = bs ∧ v'.has = true ∧ sha bs = sum) ∧ (er ≠ none → v'.image = v.image ∧ v'.has = v.has) := by
  unfold putR at h
  obtain ⟨er2, v2, h2⟩ : ∃ er2 v2, rbegin bs.length sum v = (er2, v2) := ⟨_, _, rfl⟩
  rw [h2] at h
  unfold rbegin at h2
  split at h2
  · injection h2 with e1 e2
    subst e1 e2
    injection h with e1 e2
    subst e1 e2
    simp
  · split at h2
    · injection h2 with e1 e2
      subst e1 e2
      injection h with e1 e2
      subst e1 e2
      simp
    · injection h2 with e1 e2
      subst e1 e2
      simp only at h
      have := feed_whole part hp1 _ _ _ _ _ (Nat.le_refl _) h
      simpa using this
/-- How many steps the parts take. -/
def cnt (part n : Nat) : Nat := (n + part - 1) / part
theorem cnt_zero (part : Nat) (hp : 1 ≤ part) : cnt part 0 = 0 := by unfold cnt; exact Nat.div_eq_of_lt (by omega)
theorem cnt_step {part n : Nat} (hp : 1 ≤ part) (hn : 0 < n) : cnt part n = cnt part (n - part) + 1 := by
  unfold cnt
  by_cases h : part ≤ n
  · rw [show n + part - 1 = (n - part + part - 1) + part by omega, Nat.add_div_right _ (by omega)]
  · rw [show n - part = 0 by omega]
    have h1 : (0 + part - 1) / part = 0 := Nat.div_eq_of_lt (by omega)
    have h2 : (n + part - 1) / part = 1 := by
      rw [Nat.div_eq_iff (by omega)]
      omega
    omega
/-- With so many steps. -/
theorem feed_steps (part : Nat) (hp1 : 1 ≤ part) (hp2 : part ≤ 32) : ∀ (k : Nat) (bs : List Int) (v : Vw) (m : Nat), bs.length ≤ k → v.opn = true → v.left = (m : Int) → v.size = ((v.got.length + bs.length : Nat) : Int) → sha (v.got ++ bs) = v.want →
    (cnt part bs.length < m → ∃ v', feedR part k bs v = (none, v') ∧ v'.image = v.got ++ bs ∧ v'.has = true) ∧ (m ≤ cnt part bs.length → ∃ v', feedR part k bs v = (some (16, -1), v') ∧ v'.image = v.image ∧ v'.has = v.has) := by
  have hcom : ∀ (v : Vw) (m : Nat), v.opn = true → v.left = (m : Int) → v.size = (v.got.length : Int) → sha v.got = v.want →
      (0 < m → ∃ v', rcommit v = (none, v') ∧ v'.image = v.got ∧ v'.has = true) ∧ (m ≤ 0 → ∃ v', rcommit v = (some (16, -1), v') ∧ v'.image = v.image ∧ v'.has = v.has) := fun v m h1 h2 h3 h4 => by
    unfold rcommit
    rw [if_neg (by rw [h1]; decide), if_neg (by omega), if_neg (by simpa using h4)]
    refine ⟨fun hm => ?_, fun hm => ?_⟩
    · rw [if_neg (by omega)]; exact ⟨_, rfl, rfl, rfl⟩
    · rw [if_pos (by omega)]; exact ⟨_, rfl, rfl, rfl⟩
  intro k
  induction k with
  | zero =>
    intro bs v m hk ho hl hs hw
    obtain rfl : bs = [] := List.length_eq_zero_iff.1 (by omega)
    rw [feedR, List.length_nil, cnt_zero part hp1]
    have := hcom v m ho hl (by simpa using hs) (by simpa using hw)
    simpa using this
  | succ k ih =>
    intro bs v m hk ho hl hs hw
    rw [feedR]
    by_cases hb : bs = []
    · subst hb
      rw [if_pos rfl, List.length_nil, cnt_zero part hp1]
      have := hcom v m ho hl (by simpa using hs) (by simpa using hw)
      simpa using this
    · rw [if_neg hb]
      have h0 : 0 < bs.length := List.length_pos_iff.2 hb
      have hcl : (bs.take part).length = min part bs.length := List.length_take
      have hcs := cnt_step hp1 h0
      rcases Nat.eq_zero_or_pos m with rfl | hm
      · have hch : rchunk (bs.take part) v = (some (16, -1), { v with opn := false }) := by
          unfold rchunk
          rw [if_neg (by rw [ho]; decide), if_neg (by omega), if_neg (by omega), if_pos (by omega)]
        rw [hch]
        exact ⟨fun h => by omega, fun _ => ⟨_, rfl, rfl, rfl⟩⟩
      · have hch : rchunk (bs.take part) v = (none, { v with got := v.got ++ bs.take part, left := ((m - 1 : Nat) : Int) }) := by
          unfold rchunk
          rw [if_neg (by rw [ho]; decide), if_neg (by omega), if_neg (by omega), if_neg (by omega)]
          have : decL v.left = ((m - 1 : Nat) : Int) := by unfold decL; rw [if_neg (by omega)]; omega
          rw [this]
        rw [hch]
        simp only
        obtain ⟨g1, g2⟩ := ih (bs.drop part) { v with got := v.got ++ bs.take part, left := ((m - 1 : Nat) : Int) } (m - 1) (by rw [List.length_drop]; omega) ho rfl (by simp only [List.length_append, hcl, List.length_drop]; omega) (by simp only [List.append_assoc, List.take_append_drop]; exact hw)
        rw [List.length_drop] at g1 g2
        simp only [List.append_assoc, List.take_append_drop] at g1 g2
        exact ⟨fun h => g1 (by omega), fun h => g2 (by omega)⟩
theorem put_steps {part : Nat} (hp1 : 1 ≤ part) (hp2 : part ≤ 32) {bs : List Int} (hb : bs.length ≤ 512) {v : Vw} {m : Nat} (hl : v.left = (m : Int)) :
    (cnt part bs.length + 2 ≤ m → ∃ v', putR part bs (sha bs) v = (none, v') ∧ v'.image = bs ∧ v'.has = true) ∧ (m < cnt part bs.length + 2 → ∃ v', putR part bs (sha bs) v = (some (16, -1), v') ∧ v'.image = v.image ∧ v'.has = v.has) := by
  unfold putR rbegin
  rw [if_neg (by omega)]
  rcases Nat.eq_zero_or_pos m with rfl | hm
  · rw [if_pos (by omega)]
    exact ⟨fun h => by omega, fun _ => ⟨_, rfl, rfl, rfl⟩⟩
  · rw [if_neg (by omega)]
    have : decL v.left = ((m - 1 : Nat) : Int) := by unfold decL; rw [if_neg (by omega)]; omega
    rw [this]
    simp only
    obtain ⟨g1, g2⟩ := feed_steps part hp1 hp2 bs.length bs { v with opn := true, size := (bs.length : Int), want := sha bs, got := [], left := ((m - 1 : Nat) : Int) } (m - 1) (Nat.le_refl _) rfl rfl (by simp) (by simp)
    simp only [List.nil_append] at g1
    exact ⟨fun h => g1 (by omega), fun h => g2 (by omega)⟩
end Go.Proofs.Ytjbhcmkloamcmaa
