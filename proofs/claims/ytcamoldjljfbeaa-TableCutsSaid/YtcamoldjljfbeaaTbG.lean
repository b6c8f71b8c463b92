/- table.read: what it reads. -/
import Derived.Test.YtcamoldjljfbeaaTbG0
import Derived.Test.YtcamoldjljfbeaaTbA
import Derived.Deep.DeepCutAuto
namespace Go.Proofs.Ytcamoldjljfbeaa
open Go.RowKit

def RdPost (w : World) (F : Nat → Prop) (b : Nat) (A : Option Addr) (n cap : Nat) (xs : List Int) (r : Rd) (e : Ending) (w' : World) : Prop :=
  (∀ q, r.e = some q → ∃ v ev, e = .returned (.tuple #[.agg #[.int .i64 0, .int .i64 0, .int .i64 0, .int .i64 0, .int .i64 0, .int .i64 0, .int .i64 0, .int .i64 0, .slice none 0 0, .slice none 0 0, .slice none 0 0], v]) ∧ (∃ bb, v = .iface 77 (.pointer (some ⟨bb, 0, none⟩))) ∧ IsE w' (some q) v ∧ Own w F w' [rdr b A n cap xs r.s.p r.s.er ev]) ∧
  (r.e = none → ∃ A1 c1 A2 c2 A3 c3 ev, e = .returned (.tuple #[.agg #[.int .i64 (r.h.getD 0 0 : Nat), .int .i64 (r.h.getD 1 0 : Nat), .int .i64 (r.h.getD 2 0 : Nat), .int .i64 (r.h.getD 3 0 : Nat), .int .i64 (r.h.getD 4 0 : Nat), .int .i64 (r.h.getD 5 0 : Nat), .int .i64 (r.h.getD 6 0 : Nat), .int .i64 (r.h.getD 7 0 : Nat), .slice A1 r.ps.length c1, .slice A2 r.qs.length c2, .slice A3 r.rs.length c3], .nilIface]) ∧
    Own w F w' [row 41 2 (.slice A3 r.rs.length c3) r.rs.length (r.rs.flatMap Rt.cells), row 44 6 (.slice A2 r.qs.length c2) r.qs.length (r.qs.flatMap Qt.cells), row 38 9 (.slice A1 r.ps.length c1) r.ps.length (r.ps.flatMap Pt.cells), rdr b A n cap xs r.s.p r.s.er ev])
theorem ev_none {w : World} {b n cap p : Nat} {A : Option Addr} {xs : List Int} {ev : Value} (h : RdIn w b A n cap xs p none ev) : ev = .nilIface := h.he
theorem ev_some {w : World} {b n cap p : Nat} {A : Option Addr} {xs : List Int} {q : Int × Int} {ev : Value} (h : RdIn w b A n cap xs p (some q) ev) : ∃ bb, ev = .iface 77 (.pointer (some ⟨bb, 0, none⟩)) := by
  obtain ⟨c, a⟩ := q
  obtain ⟨bb, h1, _⟩ := h.he
  exact ⟨bb, h1⟩
set_option maxRecDepth 100000
set_option maxHeartbeats 16000000
section
variable {w : World} {A : Option Addr} {n cap : Nat} {xs : List Int} {s : RS} {ev : Value}
theorem tkT_any (z : Nat) (_hz : z ≤ 4) (b : Nat) (hR : (rdr b A n cap xs s.p s.er ev).holds w) (hpn : s.p ≤ n) (hn : n ≤ 1000000) (hx : ∀ x ∈ xs, 0 ≤ x ∧ x < 256) :
    Calls Try.prog 85 #[.pointer (some ⟨b, 0, none⟩), .int .i64 (z : Int)] w fun e w' => ∃ (v : Nat) (s' : RS) (ev' : Value), e = .returned (.int .u32 (v : Int)) ∧ tk xs n z s = (v, s') ∧ Own w (rdr b A n cap xs s.p s.er ev).foot w' [rdr b A n cap xs s'.p s'.er ev'] := by
  obtain ⟨v, p', er', hr⟩ : ∃ v p' er', takeR xs n s.p s.er (z : Int) = (v, p', er') := ⟨_, _, _, rfl⟩
  refine (take_own 0 (Own.one (r := rdr b A n cap xs s.p s.er ev) hR) rfl hpn (by omega) hx (z : Int) v p' er' hr).mono ?_
  rintro e w' ⟨rfl, ev', hn'⟩
  exact ⟨v, ⟨p', er'⟩, ev', rfl, by unfold tk; rw [hr], hn'⟩
theorem oneT_any (p1 b : Nat) (hb : w.heap[p1]? = some (.cells #[.pointer (some ⟨b, 0, none⟩)] 97 (0, 0))) (hR : (rdr b A n cap xs s.p s.er ev).holds w) (hpn : s.p ≤ n) (hn : n ≤ 1000000) (hx : ∀ x ∈ xs, 0 ≤ x ∧ x < 256) :
    Calls Try.prog 84 #[.pointer (some ⟨p1, 0, none⟩)] w fun e w' => ∃ (v : Nat) (s' : RS) (ev' : Value), e = .returned (.int .i64 (v : Int)) ∧ tk xs n 1 s = (v, s') ∧ Own w (rdr b A n cap xs s.p s.er ev).foot w' [rdr b A n cap xs s'.p s'.er ev'] := by
  have c0 := cell_of_row w p1 0 _ _ _ hb
  simp at c0
  have hT := Hidd.mk (tkT_any 1 (by decide) b hR hpn hn hx)
  have hxx := Hidd.mk hx
  clear hb hR hx
  go_enter Try.func84, Try.ntmps84
  go_wp2_with (go_at_call 85; refine hT.out.mono ?_; rintro e w1 ⟨v, s', ev', rfl, htk, hn1⟩; have hv := tk_lt hxx.out htk; have hw := IntWalk.i64_in (v : Int) (by omega); have hn2 := Hidd.mk hn1; have htk2 := Hidd.mk htk; clear htk hn1)
  go_ret
  exact ⟨v, s', ev', rfl, htk2.out, hn2.out⟩
theorem fourT_any (p1 b : Nat) (hb : w.heap[p1]? = some (.cells #[.pointer (some ⟨b, 0, none⟩)] 97 (0, 0))) (hR : (rdr b A n cap xs s.p s.er ev).holds w) (hpn : s.p ≤ n) (hn : n ≤ 1000000) (hx : ∀ x ∈ xs, 0 ≤ x ∧ x < 256) :
    Calls Try.prog 86 #[.pointer (some ⟨p1, 0, none⟩)] w fun e w' => ∃ (v : Nat) (s' : RS) (ev' : Value), e = .returned (.int .i64 (v : Int)) ∧ tk xs n 4 s = (v, s') ∧ Own w (rdr b A n cap xs s.p s.er ev).foot w' [rdr b A n cap xs s'.p s'.er ev'] := by
  have c0 := cell_of_row w p1 0 _ _ _ hb
  simp at c0
  have hT := Hidd.mk (tkT_any 4 (by decide) b hR hpn hn hx)
  have hxx := Hidd.mk hx
  clear hb hR hx
  go_enter Try.func86, Try.ntmps86
  go_wp2_with (go_at_call 85; refine hT.out.mono ?_; rintro e w1 ⟨v, s', ev', rfl, htk, hn1⟩; have hv := tk_lt hxx.out htk; have hw := IntWalk.i64_in (v : Int) (by omega); have hn2 := Hidd.mk hn1; have htk2 := Hidd.mk htk; clear htk hn1)
  go_ret
  exact ⟨v, s', ev', rfl, htk2.out, hn2.out⟩
theorem errT_any (b : Nat) (hR : (rdr b A n cap xs s.p s.er ev).holds w) : Calls Try.prog 87 #[.pointer (some ⟨b, 0, none⟩)] w fun e w' => e = .returned ev ∧ w = w' := err_own 0 (Own.one (r := rdr b A n cap xs s.p s.er ev) hR) rfl
end
theorem rec_set (vs : List Nat) (k v : Nat) (hl : vs.length = 5 + k) (hk : k < 4) : (ptOf vs).cells.set (5 + k) (.int .u8 (v : Int)) = (ptOf (vs ++ [v])).cells := by
  have hg : ∀ j, j < 5 + k → (vs ++ [v]).getD j 0 = vs.getD j 0 := fun j hj => by simp [List.getD_eq_getElem?_getD, List.getElem?_append_left (show j < vs.length by omega)]
  have hv : (vs ++ [v]).getD (5 + k) 0 = v := by simp [List.getD_eq_getElem?_getD, ← hl]
  have hz : ∀ j, 5 + k < j → (vs ++ [v]).getD j 0 = 0 ∧ vs.getD j 0 = 0 := fun j hj => by simp [List.getD_eq_getElem?_getD, List.getElem?_eq_none (show (vs ++ [v]).length ≤ j by simp; omega), List.getElem?_eq_none (show vs.length ≤ j by omega)]
  unfold ptOf Pt.cells
  rcases k with _ | _ | _ | _ | k
  · simp only [hg 0 (by omega), hg 1 (by omega), hg 2 (by omega), hg 3 (by omega), hg 4 (by omega), show (vs ++ [v]).getD 5 0 = v from hv, (hz 6 (by omega)).1, (hz 6 (by omega)).2, (hz 7 (by omega)).1, (hz 7 (by omega)).2, (hz 8 (by omega)).1, (hz 8 (by omega)).2]
    rfl
  · simp only [hg 0 (by omega), hg 1 (by omega), hg 2 (by omega), hg 3 (by omega), hg 4 (by omega), hg 5 (by omega), show (vs ++ [v]).getD 6 0 = v from hv, (hz 7 (by omega)).1, (hz 7 (by omega)).2, (hz 8 (by omega)).1, (hz 8 (by omega)).2]
    rfl
  · simp only [hg 0 (by omega), hg 1 (by omega), hg 2 (by omega), hg 3 (by omega), hg 4 (by omega), hg 5 (by omega), hg 6 (by omega), show (vs ++ [v]).getD 7 0 = v from hv, (hz 8 (by omega)).1, (hz 8 (by omega)).2]
    rfl
  · simp only [hg 0 (by omega), hg 1 (by omega), hg 2 (by omega), hg 3 (by omega), hg 4 (by omega), hg 5 (by omega), hg 6 (by omega), hg 7 (by omega), show (vs ++ [v]).getD 8 0 = v from hv]
    rfl
  · omega
theorem rec_len (vs : List Nat) : (ptOf vs).cells.length = 9 := rfl
theorem ptsR_zero (xs : List Int) (n : Nat) (s : RS) : ptsR xs n 0 s = ([], s) := rfl
theorem ptsR_err (xs : List Int) (n k : Nat) (s : RS) (h : s.er.isSome = true) : ptsR xs n k s = ([], s) := by
  cases k with
  | zero => rfl
  | succ k => unfold ptsR; rw [if_pos h]
theorem ptsR_step {xs : List Int} {n k : Nat} {s s1 : RS} {vs : List Nat} (h : s.er = none) (hs : takes xs n [1, 4, 4, 1, 1, 1, 1, 1, 1] s = (vs, s1)) {l : List Pt} {R : List Pt × RS} (hR : R = (l ++ (ptsR xs n (k + 1) s).1, (ptsR xs n (k + 1) s).2)) :
    R = ((l ++ [ptOf vs]) ++ (ptsR xs n k s1).1, (ptsR xs n k s1).2) := by
  rw [hR]
  have : ptsR xs n (k + 1) s = (ptOf vs :: (ptsR xs n k s1).1, (ptsR xs n k s1).2) := by
    conv => lhs; unfold ptsR
    rw [h, if_neg (by simp), hs]
  rw [this]
  simp
theorem qtsR_err (xs : List Int) (n k i : Nat) (s : RS) (h : s.er.isSome = true) : qtsR xs n k i s = (none, [], s) := by
  cases k with
  | zero => rfl
  | succ k => unfold qtsR; rw [if_pos h]
theorem qtsR_bad {xs : List Int} {n k i : Nat} {s s1 : RS} {vs : List Nat} (h : s.er = none) (hs : takes xs n [1, 1, 1] s = (vs, s1)) (hb : badOut (vs, s1) = true) : qtsR xs n (k + 1) i s = (some (8, (i : Int)), [], s1) := by
  unfold qtsR
  rw [h, if_neg (by simp), hs, if_pos hb]
theorem qtsR_step {xs : List Int} {n k i : Nat} {s s1 s2 : RS} {vs us : List Nat} (h : s.er = none) (hs : takes xs n [1, 1, 1] s = (vs, s1)) (hb : badOut (vs, s1) = false) (ht : takes xs n [1, 1, 1, 1, 1, 1] s = (us, s2)) {l : List Qt} {R : Option (Int × Int) × List Qt × RS}
    (hR : R = ((qtsR xs n (k + 1) i s).1, l ++ (qtsR xs n (k + 1) i s).2.1, (qtsR xs n (k + 1) i s).2.2)) : R = ((qtsR xs n k (i + 1) s2).1, (l ++ [qtOf us]) ++ (qtsR xs n k (i + 1) s2).2.1, (qtsR xs n k (i + 1) s2).2.2) := by
  rw [hR]
  have : qtsR xs n (k + 1) i s = ((qtsR xs n k (i + 1) s2).1, qtOf us :: (qtsR xs n k (i + 1) s2).2.1, (qtsR xs n k (i + 1) s2).2.2) := by
    conv => lhs; unfold qtsR
    rw [h, if_neg (by simp), hs, hb, if_neg (by decide), ht]
  rw [this]
  simp
theorem rtsR_err (xs : List Int) (n k : Nat) (s : RS) (h : s.er.isSome = true) : rtsR xs n k s = ([], s) := by
  cases k with
  | zero => rfl
  | succ k => unfold rtsR; rw [if_pos h]
theorem rtsR_step {xs : List Int} {n k : Nat} {s s1 : RS} {vs : List Nat} (h : s.er = none) (hs : takes xs n [1, 1] s = (vs, s1)) {l : List Rt} {R : List Rt × RS} (hR : R = (l ++ (rtsR xs n (k + 1) s).1, (rtsR xs n (k + 1) s).2)) :
    R = ((l ++ [rtOf vs]) ++ (rtsR xs n k s1).1, (rtsR xs n k s1).2) := by
  rw [hR]
  have : rtsR xs n (k + 1) s = (rtOf vs :: (rtsR xs n k s1).1, (rtsR xs n k s1).2) := by
    conv => lhs; unfold rtsR
    rw [h, if_neg (by simp), hs]
  rw [this]
  simp
end Go.Proofs.Ytcamoldjljfbeaa
