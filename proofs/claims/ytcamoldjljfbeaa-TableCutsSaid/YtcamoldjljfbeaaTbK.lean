/- Both Decode of tables. -/
import Derived.Test.YtcamoldjljfbeaaTbK0
import Derived.Test.YtcamoldjljfbeaaTbJ
import Derived.Test.YtcamoldjljfbeaaSoC
import Derived.Test.YtcamoldjljfbeaaTbD
import Derived.Test.YtcamoldjljfbeaaRefOpen
namespace Go.Proofs.Ytcamoldjljfbeaa
open Go.RowKit

def DecPost (w : World) (xs : List Int) (e : Ending) (w' : World) : Prop :=
  (∀ q, decE xs = some q → ∃ v, e = .returned (.tuple #[.agg #[.int .i64 0, .int .i64 0, .int .i64 0, .int .i64 0, .int .i64 0, .int .i64 0, .int .i64 0, .int .i64 0, .slice none 0 0, .slice none 0 0, .slice none 0 0], v]) ∧ IsErr w' [(60, q.1), q.2] none v ∧ Below w.heap.size w w') ∧
  (decE xs = none → ∃ A1 c1 A2 c2 A3 c3 r, decR xs = r ∧ e = .returned (.tuple #[.agg #[.int .i64 (r.h.getD 0 0 : Nat), .int .i64 (r.h.getD 1 0 : Nat), .int .i64 (r.h.getD 2 0 : Nat), .int .i64 (r.h.getD 3 0 : Nat), .int .i64 (r.h.getD 4 0 : Nat), .int .i64 (r.h.getD 5 0 : Nat), .int .i64 (r.h.getD 6 0 : Nat), .int .i64 (r.h.getD 7 0 : Nat), .slice A1 r.ps.length c1, .slice A2 r.qs.length c2, .slice A3 r.rs.length c3], .nilIface]) ∧ Own w (fun _ => False) w' [row 41 2 (.slice A3 r.rs.length c3) r.rs.length (r.rs.flatMap Rt.cells), row 44 6 (.slice A2 r.qs.length c2) r.qs.length (r.qs.flatMap Qt.cells), row 38 9 (.slice A1 r.ps.length c1) r.ps.length (r.ps.flatMap Pt.cells)])
def RDecPost (w : World) (xs : List Int) (e : Ending) (w' : World) : Prop :=
  (∀ q, decE xs = some q → e = .returned (.tuple #[.agg #[.int .i64 0, .int .i64 0, .int .i64 0, .int .i64 0, .int .i64 0, .int .i64 0, .int .i64 0, .int .i64 0, .slice none 0 0, .slice none 0 0, .slice none 0 0], .string (atB 60 q.1 ++ ⟨#[62]⟩ ++ atB q.2.1 q.2.2)]) ∧ Below w.heap.size w w') ∧
  (decE xs = none → ∃ A1 c1 A2 c2 A3 c3 r, decR xs = r ∧ e = .returned (.tuple #[.agg #[.int .i64 (r.h.getD 0 0 : Nat), .int .i64 (r.h.getD 1 0 : Nat), .int .i64 (r.h.getD 2 0 : Nat), .int .i64 (r.h.getD 3 0 : Nat), .int .i64 (r.h.getD 4 0 : Nat), .int .i64 (r.h.getD 5 0 : Nat), .int .i64 (r.h.getD 6 0 : Nat), .int .i64 (r.h.getD 7 0 : Nat), .slice A1 r.ps.length c1, .slice A2 r.qs.length c2, .slice A3 r.rs.length c3], .string ⟨#[]⟩]) ∧ Own w (fun _ => False) w' [row 41 2 (.slice A3 r.rs.length c3) r.rs.length (r.rs.flatMap Rt.cells), row 44 6 (.slice A2 r.qs.length c2) r.qs.length (r.qs.flatMap Qt.cells), row 38 9 (.slice A1 r.ps.length c1) r.ps.length (r.ps.flatMap Pt.cells)])
theorem dec_long {xs : List Int} (h : 4096 < xs.length) : decE xs = some (-1, (3, -1)) := by unfold decE; rw [if_pos h]
theorem dec_bad {xs : List Int} (h : ¬ 4096 < xs.length) (hf : fits xs = false) : decE xs = some (-1, (6, -1)) := by unfold decE; rw [if_neg h, if_pos hf]
theorem dec_in {xs : List Int} (h : ¬ 4096 < xs.length) (hf : fits xs = true) {n : Nat} (hl : xs.length = n + 4) {r : Rd} (hr : rdT (xs.take n) n = r) {E : Option (Int × Int)} (hE : rdE n r = E) : decR xs = r ∧ decE xs = E.map fun q => ((r.s.p : Int), q) := by
  have h4 : xs.length - 4 = n := by omega
  have h1 : decR xs = r := by unfold decR; rw [h4, hr]
  refine ⟨h1, ?_⟩
  unfold decE
  rw [if_neg h, if_neg (by rw [hf]; decide), h1, h4, hE]
theorem err_keep {w w' : World} {p : Nat} {o : Obj} (hp : w.heap[p]? = some o) (ho : ∀ cs, o ≠ .cells cs 79 (0, 0)) (hk : ∀ i, i < w.heap.size → i ≠ p → w'.heap[i]? = w.heap[i]?) : ∀ {l : List (Int × Int)} {r : Option Int} {v : Value}, IsErr w l r v → IsErr w' l r v
  | [], none, _, h => h
  | [], some _, _, h => h
  | (_, _) :: _, _, _, ⟨b, cv, e, hc, h⟩ => ⟨b, cv, e, (hk b (Array.getElem?_eq_some_iff.1 hc).1 (fun hb => by subst hb; rw [hp] at hc; injection hc with hc; exact ho _ hc)).trans hc, err_keep hp ho hk h⟩
theorem zeros_err {w : World} {p : Nat} {cs : Array Value} (hp : w.heap[p]? = some (.cells cs 26 (0, 0))) {l : List (Int × Int)} {r : Option Int} {v : Value} (he : IsErr w l r v) : IsErr (((((((((((w.setCell ⟨p, 0, none⟩ (.int .i64 0)).setCell ⟨p, 1, none⟩ (.int .i64 0)).setCell ⟨p, 2, none⟩ (.int .i64 0)).setCell ⟨p, 3, none⟩ (.int .i64 0)).setCell ⟨p, 4, none⟩ (.int .i64 0)).setCell ⟨p, 5, none⟩ (.int .i64 0)).setCell ⟨p, 6, none⟩ (.int .i64 0)).setCell ⟨p, 7, none⟩ (.int .i64 0)).setCell ⟨p, 8, none⟩ (.slice none 0 0)).setCell ⟨p, 9, none⟩ (.slice none 0 0)).setCell ⟨p, 10, none⟩ (.slice none 0 0)) l r v := by
  have hk : Kept (fun q => q = p) w (((((((((((w.setCell ⟨p, 0, none⟩ (.int .i64 0)).setCell ⟨p, 1, none⟩ (.int .i64 0)).setCell ⟨p, 2, none⟩ (.int .i64 0)).setCell ⟨p, 3, none⟩ (.int .i64 0)).setCell ⟨p, 4, none⟩ (.int .i64 0)).setCell ⟨p, 5, none⟩ (.int .i64 0)).setCell ⟨p, 6, none⟩ (.int .i64 0)).setCell ⟨p, 7, none⟩ (.int .i64 0)).setCell ⟨p, 8, none⟩ (.slice none 0 0)).setCell ⟨p, 9, none⟩ (.slice none 0 0)).setCell ⟨p, 10, none⟩ (.slice none 0 0)) := by
    have s : ∀ (W : World) (j : Nat) (u : Value), Kept (fun q => q = p) W (W.setCell ⟨p, j, none⟩ u) := fun W j u => Kept.setCell W ⟨p, j, none⟩ u rfl
    exact (((((((((((s _ 0 _).trans (s _ 1 _)).trans (s _ 2 _)).trans (s _ 3 _)).trans (s _ 4 _)).trans (s _ 5 _)).trans (s _ 6 _)).trans (s _ 7 _)).trans (s _ 8 _)).trans (s _ 9 _)).trans (s _ 10 _))
  refine err_keep hp (fun cs h => ?_) (fun i hi hne => hk.block i hi hne) he
  injection h with _ h
  exact absurd h (by decide)
theorem refOpen_yes (A : Option Addr) (c n : Nat) (xs : List Int) (w : World) (hA : Cells w A (nums .u8 xs)) (hb : Bytes xs) (hn : n ≤ 140737488355000) (hl : xs.length = n + 4) (hc : n + 4 ≤ c) (hf : fits xs = true) :
    Calls Try.prog 74 #[.slice A (n + 4) c] w fun e w' => ∃ A' c', e = .returned (.tuple #[.slice A' n c', .bool true]) ∧ n ≤ c' ∧ Cells w' A' (nums .u8 (xs.take n)) ∧ Below w.heap.size w w' := by
  refine (refOpen_long A c n xs w hA hb hn hl hc).mono ?_
  rintro e w' ⟨h1, _⟩
  obtain ⟨v, rfl, h3, h5⟩ := h1 hf
  obtain ⟨A', c', rfl, h6, _, h7⟩ := Cells.of_own h3
  exact ⟨A', c', rfl, h6, h7, h5⟩
theorem refOpen_no (A : Option Addr) (c n : Nat) (xs : List Int) (w : World) (hA : Cells w A (nums .u8 xs)) (hb : Bytes xs) (hn : n ≤ 140737488355000) (hl : xs.length = n) (hc : n ≤ c) (hf : fits xs = false) :
    Calls Try.prog 74 #[.slice A n c] w fun e w' => e = .returned (.tuple #[.slice none 0 0, .bool false]) ∧ Below w.heap.size w w' := by
  by_cases h : n < 4
  · exact (refOpen_short A c n w h).mono fun e w' ⟨h1, h2⟩ => ⟨h1, by subst h2; exact Below.refl _ _⟩
  · obtain ⟨m, rfl⟩ : ∃ m, n = m + 4 := ⟨n - 4, by omega⟩
    exact (refOpen_long A c m xs w hA hb (by omega) hl hc).mono fun e w' ⟨_, h2⟩ => h2 hf
theorem fits_4 {xs : List Int} (h : fits xs = true) : 4 ≤ xs.length := by
  unfold fits at h
  simp at h
  exact h.1
set_option maxRecDepth 100000
set_option maxHeartbeats 16000000
theorem tabDec_any (A : Option Addr) (n c : Nat) (xs : List Int) (w : World) (hA : Cells w A (nums .u8 xs)) (hb : Bytes xs) (hl : xs.length = n) (hc : n ≤ c) (hn : n ≤ 100000) :
    Calls Try.prog 44 #[.slice A n c] w fun e w' => DecPost w xs e w' := by
  have o0 := Hidd.mk ((Own.nil w (fun _ => False)).alloc (.cells #[.int .i64 0, .int .i64 0, .int .i64 0, .int .i64 0, .int .i64 0, .int .i64 0, .int .i64 0, .int .i64 0, .slice none 0 0, .slice none 0 0, .slice none 0 0] 26))
  have hx := Hidd.mk (show ∀ x ∈ xs, 0 ≤ x ∧ x < 256 from fun x h => ⟨(hb x h).1, by have := (hb x h).2; omega⟩)
  replace hA := Hidd.mk hA
  replace hb := Hidd.mk hb
  replace hl := Hidd.mk hl
  by_cases hlen : 4096 < n
  · have hD := Hidd.mk (dec_long (xs := xs) (by rw [hl.out]; exact hlen))
    have d1 : decide ((4096 : Int) < (n : Int)) = true := decide_eq_true (by omega)
    clear hlen
    go_enter Try.func44, Try.ntmps44
    go_wp2_with (first
      | (go_at_call 52; have hq := o0.out; clear hq; refine (new_any 3 (-1) _ (by decide) (by decide)).mono ?_; rintro e w5 ⟨bb, rfl, he, hb5⟩; have o1 := Hidd.mk (o0.out.ext hb5); replace he := Hidd.mk he; clear hb5 o0)
      | (go_at_call 58; have hq := o1.out; clear hq; refine (wrapE_any 60 (-1) _ _ _ _ (by decide) (by decide) he.out.isErr).mono ?_; rintro e w6 ⟨b2, rfl, he2, hb6⟩; have hw9 := Hidd.mk (o1.out.ext hb6); replace he2 := Hidd.mk he2; clear hb6 he o1; obtain ⟨x0, x1, x2, x3, x4, x5, x6, x7, x8, x9, xA⟩ := cells11 hw9.out 0 rfl; have fz0 := hw9.out.frozen 0 rfl 0; have fz1 := hw9.out.frozen 0 rfl 1; have fz2 := hw9.out.frozen 0 rfl 2; have fz3 := hw9.out.frozen 0 rfl 3; have fz4 := hw9.out.frozen 0 rfl 4; have fz5 := hw9.out.frozen 0 rfl 5; have fz6 := hw9.out.frozen 0 rfl 6; have fz7 := hw9.out.frozen 0 rfl 7; have fz8 := hw9.out.frozen 0 rfl 8; have fz9 := hw9.out.frozen 0 rfl 9; have fz10 := hw9.out.frozen 0 rfl 10))
    have hz9 := (((((((((((hw9.out.set 0 rfl 0 (.int .i64 0)).set 0 rfl 1 (.int .i64 0)).set 0 rfl 2 (.int .i64 0)).set 0 rfl 3 (.int .i64 0)).set 0 rfl 4 (.int .i64 0)).set 0 rfl 5 (.int .i64 0)).set 0 rfl 6 (.int .i64 0)).set 0 rfl 7 (.int .i64 0)).set 0 rfl 8 (.slice none 0 0)).set 0 rfl 9 (.slice none 0 0)).set 0 rfl 10 (.slice none 0 0))
    simp only [List.set_cons_zero, List.set_cons_succ, List.setIfInBounds_toArray] at hz9
    replace hz9 := Hidd.mk hz9
    have he9 := Hidd.mk (zeros_err (hw9.out.get 0 rfl) he2.out)
    go_wp2
    clear x0 x1 x2 x3 x4 x5 x6 x7 x8 x9 xA fz0 fz1 fz2 fz3 fz4 fz5 fz6 fz7 fz8 fz9 fz10 hw9 he2
    generalize World.setCell _ _ _ = WZ at hz9 he9 ⊢
    obtain ⟨x0, x1, x2, x3, x4, x5, x6, x7, x8, x9, xA⟩ := cells11 hz9.out 0 rfl
    refine bodyPost_ret (v := .tuple #[.agg #[.int .i64 0, .int .i64 0, .int .i64 0, .int .i64 0, .int .i64 0, .int .i64 0, .int .i64 0, .int .i64 0, .slice none 0 0, .slice none 0 0, .slice none 0 0], .iface 77 (.pointer (some ⟨b2, 0, none⟩))]) (by simp [results, Try.results44, go_sem, x0, x1, x2, x3, x4, x5, x6, x7, x8, x9, xA]) rfl ?_
    exact ⟨fun q hq => by
      rw [hD.out] at hq
      injection hq with hq
      subst hq
      exact ⟨_, rfl, he9.out, hz9.out.below fun _ => id⟩, fun h => by rw [hD.out] at h; cases h⟩
  · have d1 : decide ((4096 : Int) < (n : Int)) = false := decide_eq_false (by omega)
    have hlen2 : ¬ 4096 < xs.length := by rw [hl.out]; exact hlen
    rcases hf : fits xs with _ | _
    · have hD := Hidd.mk (dec_bad hlen2 hf)
      replace hf := Hidd.mk hf
      clear hlen hlen2
      go_enter Try.func44, Try.ntmps44
      go_wp2_with (first
        | (go_at_call 69; refine (open_no A c n xs _ (hA.out.below (o0.out.below fun _ => id)) hb.out (by omega) hl.out hc hf.out).mono ?_; rintro e w2 ⟨rfl, hB⟩; replace o0 := Hidd.mk (o0.out.ext hB); clear hB hA)
        | (go_at_call 52; have hq := o0.out; clear hq; refine (new_any 6 (-1) _ (by decide) (by decide)).mono ?_; rintro e w5 ⟨bb, rfl, he, hb5⟩; have o1 := Hidd.mk (o0.out.ext hb5); replace he := Hidd.mk he; clear hb5 o0)
        | (go_at_call 58; have hq := o1.out; clear hq; refine (wrapE_any 60 (-1) _ _ _ _ (by decide) (by decide) he.out.isErr).mono ?_; rintro e w6 ⟨b2, rfl, he2, hb6⟩; have hw9 := Hidd.mk (o1.out.ext hb6); replace he2 := Hidd.mk he2; clear hb6 he o1; obtain ⟨x0, x1, x2, x3, x4, x5, x6, x7, x8, x9, xA⟩ := cells11 hw9.out 0 rfl; have fz0 := hw9.out.frozen 0 rfl 0; have fz1 := hw9.out.frozen 0 rfl 1; have fz2 := hw9.out.frozen 0 rfl 2; have fz3 := hw9.out.frozen 0 rfl 3; have fz4 := hw9.out.frozen 0 rfl 4; have fz5 := hw9.out.frozen 0 rfl 5; have fz6 := hw9.out.frozen 0 rfl 6; have fz7 := hw9.out.frozen 0 rfl 7; have fz8 := hw9.out.frozen 0 rfl 8; have fz9 := hw9.out.frozen 0 rfl 9; have fz10 := hw9.out.frozen 0 rfl 10))
      have hz9 := (((((((((((hw9.out.set 0 rfl 0 (.int .i64 0)).set 0 rfl 1 (.int .i64 0)).set 0 rfl 2 (.int .i64 0)).set 0 rfl 3 (.int .i64 0)).set 0 rfl 4 (.int .i64 0)).set 0 rfl 5 (.int .i64 0)).set 0 rfl 6 (.int .i64 0)).set 0 rfl 7 (.int .i64 0)).set 0 rfl 8 (.slice none 0 0)).set 0 rfl 9 (.slice none 0 0)).set 0 rfl 10 (.slice none 0 0))
      simp only [List.set_cons_zero, List.set_cons_succ, List.setIfInBounds_toArray] at hz9
      replace hz9 := Hidd.mk hz9
      have he9 := Hidd.mk (zeros_err (hw9.out.get 0 rfl) he2.out)
      go_wp2
      clear x0 x1 x2 x3 x4 x5 x6 x7 x8 x9 xA fz0 fz1 fz2 fz3 fz4 fz5 fz6 fz7 fz8 fz9 fz10 hw9 he2
      generalize World.setCell _ _ _ = WZ at hz9 he9 ⊢
      obtain ⟨x0, x1, x2, x3, x4, x5, x6, x7, x8, x9, xA⟩ := cells11 hz9.out 0 rfl
      refine bodyPost_ret (v := .tuple #[.agg #[.int .i64 0, .int .i64 0, .int .i64 0, .int .i64 0, .int .i64 0, .int .i64 0, .int .i64 0, .int .i64 0, .slice none 0 0, .slice none 0 0, .slice none 0 0], .iface 77 (.pointer (some ⟨b2, 0, none⟩))]) (by simp [results, Try.results44, go_sem, x0, x1, x2, x3, x4, x5, x6, x7, x8, x9, xA]) rfl ?_
      exact ⟨fun q hq => by
        rw [hD.out] at hq
        injection hq with hq
        subst hq
        exact ⟨_, rfl, he9.out, hz9.out.below fun _ => id⟩, fun h => by rw [hD.out] at h; cases h⟩
    · have h4 := fits_4 hf
      obtain ⟨m, rfl⟩ : ∃ m, n = m + 4 := ⟨n - 4, by rw [hl.out] at h4; omega⟩
      replace d1 : decide ((4096 : Int) < (m : Int) + 4) = false := decide_eq_false (by omega)
      obtain ⟨r, hr⟩ : ∃ r, rdT (xs.take m) m = r := ⟨_, rfl⟩
      have hxt := Hidd.mk (show ∀ x ∈ xs.take m, 0 ≤ x ∧ x < 256 from fun x h => hx.out x (List.mem_of_mem_take h))
      have hlt := Hidd.mk (show (xs.take m).length = m by rw [List.length_take, hl.out]; omega)
      obtain ⟨oP, oQ⟩ : (∀ p ∈ r.ps, p.Ok) ∧ (∀ p ∈ r.qs, p.Ok) := by rw [← hr]; exact rdT_ok hxt.out
      replace oP := Hidd.mk oP
      replace oQ := Hidd.mk oQ
      obtain ⟨H0, hH0⟩ : ∃ H : Nat, r.h.getD 0 0 = H := ⟨_, rfl⟩
      replace hH0 := Hidd.mk hH0
      obtain ⟨H1, hH1⟩ : ∃ H : Nat, r.h.getD 1 0 = H := ⟨_, rfl⟩
      replace hH1 := Hidd.mk hH1
      obtain ⟨H2, hH2⟩ : ∃ H : Nat, r.h.getD 2 0 = H := ⟨_, rfl⟩
      replace hH2 := Hidd.mk hH2
      obtain ⟨H3, hH3⟩ : ∃ H : Nat, r.h.getD 3 0 = H := ⟨_, rfl⟩
      replace hH3 := Hidd.mk hH3
      obtain ⟨H4, hH4⟩ : ∃ H : Nat, r.h.getD 4 0 = H := ⟨_, rfl⟩
      replace hH4 := Hidd.mk hH4
      obtain ⟨H5, hH5⟩ : ∃ H : Nat, r.h.getD 5 0 = H := ⟨_, rfl⟩
      replace hH5 := Hidd.mk hH5
      obtain ⟨H6, hH6⟩ : ∃ H : Nat, r.h.getD 6 0 = H := ⟨_, rfl⟩
      replace hH6 := Hidd.mk hH6
      obtain ⟨H7, hH7⟩ : ∃ H : Nat, r.h.getD 7 0 = H := ⟨_, rfl⟩
      replace hH7 := Hidd.mk hH7
      rcases hre : r.e with _ | ⟨qc, qa⟩
      · rcases hen : endE m r.s.p r.s.er with _ | ⟨qc, qa⟩
        · rcases hck : rdC r with _ | ⟨qc, qa⟩
          ·
            obtain ⟨hR, hD⟩ := dec_in hlen2 hf hl.out hr (show rdE m r = none from by unfold rdE; rw [hre]; simp only; rw [hen]; exact hck)
            replace hR := Hidd.mk hR
            replace hD := Hidd.mk hD
            replace hf := Hidd.mk hf
            replace hr := Hidd.mk hr
            replace hre := Hidd.mk hre
            replace hen := Hidd.mk hen
            unfold rdC at hck
            rw [hH0.out, hH1.out, hH2.out, hH3.out, hH4.out, hH5.out, hH6.out, hH7.out] at hck
            replace hck := Hidd.mk hck
            clear hlen hlen2 h4
            go_enter Try.func44, Try.ntmps44
            go_wp2_with (first
              | (go_at_call 69; have hq := o0.out; clear hq; refine (open_yes A c m xs _ (hA.out.below (o0.out.below fun _ => id)) hb.out (by omega) hl.out hc hf.out).mono ?_; rintro e w2 ⟨A', c', rfl, hcc, _, hcl, hB⟩; have o1 := Hidd.mk (o0.out.ext hB); replace hcl := Hidd.mk hcl; clear hB o0 hA)
              | (go_at_call 70; have hq := o1.out; clear hq; refine (read_own A' m c' (xs.take m) _ hcl.out hlt.out (by omega)).mono ?_; rintro e w3 ⟨b, A4, cap, rfl, hn3⟩; have o2 := Hidd.mk (o1.out.made hn3); clear hn3 o1 hcl)
              | (go_at_call 71; have hq := o2.out; clear hq; refine (readT b A4 m cap (xs.take m) _ (o2.out.get 0 rfl) (by omega) hxt.out r hr.out _ rfl).mono ?_; rintro e w4 ⟨hE, hN⟩; have hN2 := hN hre.out; rw [hH0.out, hH1.out, hH2.out, hH3.out, hH4.out, hH5.out, hH6.out, hH7.out] at hN2; obtain ⟨A1, c1, A2, c2, A3, c3, ev, rfl, hn4⟩ := hN2; have o3 := Hidd.mk (show Own w (fun _ => False) _ [_, _, _, _, _, _] from (o2.out.frame 0 rfl hn4).alloc (.cells #[.int .i64 (H0 : Int), .int .i64 (H1 : Int), .int .i64 (H2 : Int), .int .i64 (H3 : Int), .int .i64 (H4 : Int), .int .i64 (H5 : Int), .int .i64 (H6 : Int), .int .i64 (H7 : Int), .slice A1 r.ps.length c1, .slice A2 r.qs.length c2, .slice A3 r.rs.length c3] 26)); clear hE hN hn4 o2)
              | (go_at_call 72; have hq := o3.out; clear hq; refine (end_own 4 o3.out rfl _ hen.out).mono ?_; rintro e w5 ⟨v, rfl, he, hn5⟩; obtain rfl : v = .nilIface := he; have o4 := Hidd.mk hn5; clear hn5 o3; obtain ⟨y0, y1, y2, y3, y4, y5, y6, y7, y8, y9, yA⟩ := cells11 o4.out 0 rfl)
              | (go_at_call 31; have hq := o4.out; clear hq; refine (tabCheck_any _ _ _ _ _ _ _ _ A1 _ c1 A2 _ c2 A3 _ c3 r.ps r.qs r.rs _ ⟨rfl, row_cells o4.out 3 rfl⟩ ⟨rfl, row_cells o4.out 2 rfl⟩ ⟨rfl, row_cells o4.out 1 rfl⟩ oP.out oQ.out _ hck.out).mono ?_; rintro e w6 ⟨v, rfl, he, hB⟩; obtain rfl : v = .nilIface := he; have o5 := Hidd.mk (o4.out.ext hB); clear hB o4 y0 y1 y2 y3 y4 y5 y6 y7 y8 y9 yA; obtain ⟨y0, y1, y2, y3, y4, y5, y6, y7, y8, y9, yA⟩ := cells11 o5.out 0 rfl; obtain ⟨x0, x1, x2, x3, x4, x5, x6, x7, x8, x9, xA⟩ := cells11 o5.out 5 rfl; have fz0 := o5.out.frozen 5 rfl 0; have fz1 := o5.out.frozen 5 rfl 1; have fz2 := o5.out.frozen 5 rfl 2; have fz3 := o5.out.frozen 5 rfl 3; have fz4 := o5.out.frozen 5 rfl 4; have fz5 := o5.out.frozen 5 rfl 5; have fz6 := o5.out.frozen 5 rfl 6; have fz7 := o5.out.frozen 5 rfl 7; have fz8 := o5.out.frozen 5 rfl 8; have fz9 := o5.out.frozen 5 rfl 9; have fz10 := o5.out.frozen 5 rfl 10))
            have hz9 := (((((((((((o5.out.set 5 rfl 0 (.int .i64 (H0 : Int))).set 5 rfl 1 (.int .i64 (H1 : Int))).set 5 rfl 2 (.int .i64 (H2 : Int))).set 5 rfl 3 (.int .i64 (H3 : Int))).set 5 rfl 4 (.int .i64 (H4 : Int))).set 5 rfl 5 (.int .i64 (H5 : Int))).set 5 rfl 6 (.int .i64 (H6 : Int))).set 5 rfl 7 (.int .i64 (H7 : Int))).set 5 rfl 8 (.slice A1 r.ps.length c1)).set 5 rfl 9 (.slice A2 r.qs.length c2)).set 5 rfl 10 (.slice A3 r.rs.length c3))
            simp only [List.set_cons_zero, List.set_cons_succ, List.setIfInBounds_toArray] at hz9
            replace hz9 := Hidd.mk hz9
            go_wp2
            clear x0 x1 x2 x3 x4 x5 x6 x7 x8 x9 xA fz0 fz1 fz2 fz3 fz4 fz5 fz6 fz7 fz8 fz9 fz10 y0 y1 y2 y3 y4 y5 y6 y7 y8 y9 yA o5
            generalize World.setCell _ _ _ = WZ at hz9 ⊢
            obtain ⟨x0, x1, x2, x3, x4, x5, x6, x7, x8, x9, xA⟩ := cells11 hz9.out 5 rfl
            refine bodyPost_ret (v := .tuple #[.agg #[.int .i64 (H0 : Int), .int .i64 (H1 : Int), .int .i64 (H2 : Int), .int .i64 (H3 : Int), .int .i64 (H4 : Int), .int .i64 (H5 : Int), .int .i64 (H6 : Int), .int .i64 (H7 : Int), .slice A1 r.ps.length c1, .slice A2 r.qs.length c2, .slice A3 r.rs.length c3], .nilIface]) (by simp [results, Try.results44, go_sem, x0, x1, x2, x3, x4, x5, x6, x7, x8, x9, xA]) rfl ?_
            exact ⟨fun q hq => (by rw [hD.out] at hq; cases hq), fun _ => ⟨A1, c1, A2, c2, A3, c3, r, hR.out, by rw [hH0.out, hH1.out, hH2.out, hH3.out, hH4.out, hH5.out, hH6.out, hH7.out], hz9.out.reorder (M := [_, _, _]) [1, 2, 3] rfl (by decide)⟩⟩
          ·
            obtain ⟨hR, hD⟩ := dec_in hlen2 hf hl.out hr (show rdE m r = some (qc, qa) from by unfold rdE; rw [hre]; simp only; rw [hen]; exact hck)
            replace hR := Hidd.mk hR
            replace hD := Hidd.mk hD
            replace hf := Hidd.mk hf
            replace hr := Hidd.mk hr
            replace hre := Hidd.mk hre
            replace hen := Hidd.mk hen
            unfold rdC at hck
            rw [hH0.out, hH1.out, hH2.out, hH3.out, hH4.out, hH5.out, hH6.out, hH7.out] at hck
            replace hck := Hidd.mk hck
            clear hlen hlen2 h4
            go_enter Try.func44, Try.ntmps44
            go_wp2_with (first
              | (go_at_call 69; have hq := o0.out; clear hq; refine (open_yes A c m xs _ (hA.out.below (o0.out.below fun _ => id)) hb.out (by omega) hl.out hc hf.out).mono ?_; rintro e w2 ⟨A', c', rfl, hcc, _, hcl, hB⟩; have o1 := Hidd.mk (o0.out.ext hB); replace hcl := Hidd.mk hcl; clear hB o0 hA)
              | (go_at_call 70; have hq := o1.out; clear hq; refine (read_own A' m c' (xs.take m) _ hcl.out hlt.out (by omega)).mono ?_; rintro e w3 ⟨b, A4, cap, rfl, hn3⟩; have o2 := Hidd.mk (o1.out.made hn3); clear hn3 o1 hcl)
              | (go_at_call 71; have hq := o2.out; clear hq; refine (readT b A4 m cap (xs.take m) _ (o2.out.get 0 rfl) (by omega) hxt.out r hr.out _ rfl).mono ?_; rintro e w4 ⟨hE, hN⟩; have hN2 := hN hre.out; rw [hH0.out, hH1.out, hH2.out, hH3.out, hH4.out, hH5.out, hH6.out, hH7.out] at hN2; obtain ⟨A1, c1, A2, c2, A3, c3, ev, rfl, hn4⟩ := hN2; have o3 := Hidd.mk (show Own w (fun _ => False) _ [_, _, _, _, _, _] from (o2.out.frame 0 rfl hn4).alloc (.cells #[.int .i64 (H0 : Int), .int .i64 (H1 : Int), .int .i64 (H2 : Int), .int .i64 (H3 : Int), .int .i64 (H4 : Int), .int .i64 (H5 : Int), .int .i64 (H6 : Int), .int .i64 (H7 : Int), .slice A1 r.ps.length c1, .slice A2 r.qs.length c2, .slice A3 r.rs.length c3] 26)); clear hE hN hn4 o2)
              | (go_at_call 72; have hq := o3.out; clear hq; refine (end_own 4 o3.out rfl _ hen.out).mono ?_; rintro e w5 ⟨v, rfl, he, hn5⟩; obtain rfl : v = .nilIface := he; have o4 := Hidd.mk hn5; clear hn5 o3; obtain ⟨y0, y1, y2, y3, y4, y5, y6, y7, y8, y9, yA⟩ := cells11 o4.out 0 rfl)
              | (go_at_call 31; have hq := o4.out; clear hq; refine (tabCheck_any _ _ _ _ _ _ _ _ A1 _ c1 A2 _ c2 A3 _ c3 r.ps r.qs r.rs _ ⟨rfl, row_cells o4.out 3 rfl⟩ ⟨rfl, row_cells o4.out 2 rfl⟩ ⟨rfl, row_cells o4.out 1 rfl⟩ oP.out oQ.out _ hck.out).mono ?_; rintro e w6 ⟨v, rfl, ⟨bb, rfl, hbb⟩, hB⟩; have o5 := Hidd.mk (o4.out.ext hB); have he := Hidd.mk (show IsE w6 (some (qc, qa)) (.iface 77 (.pointer (some ⟨bb, 0, none⟩))) from ⟨bb, rfl, hbb⟩); clear hbb hB o4 y0 y1 y2 y3 y4 y5 y6 y7 y8 y9 yA)
              | (go_at_call 73; have hq := o5.out; clear hq; refine (at_own 4 o5.out rfl).mono ?_; rintro e w' ⟨rfl, rfl⟩)
              | (go_at_call 58; have hq := o5.out; clear hq; refine (wrapE_any 60 (r.s.p : Int) _ _ _ _ (by decide) (by omega) he.out.isErr).mono ?_; rintro e w6 ⟨b2, rfl, he2, hb6⟩; have hw9 := Hidd.mk (o5.out.ext hb6); replace he2 := Hidd.mk he2; clear hb6 he o5; obtain ⟨x0, x1, x2, x3, x4, x5, x6, x7, x8, x9, xA⟩ := cells11 hw9.out 5 rfl; have fz0 := hw9.out.frozen 5 rfl 0; have fz1 := hw9.out.frozen 5 rfl 1; have fz2 := hw9.out.frozen 5 rfl 2; have fz3 := hw9.out.frozen 5 rfl 3; have fz4 := hw9.out.frozen 5 rfl 4; have fz5 := hw9.out.frozen 5 rfl 5; have fz6 := hw9.out.frozen 5 rfl 6; have fz7 := hw9.out.frozen 5 rfl 7; have fz8 := hw9.out.frozen 5 rfl 8; have fz9 := hw9.out.frozen 5 rfl 9; have fz10 := hw9.out.frozen 5 rfl 10))
            have hz9 := (((((((((((hw9.out.set 5 rfl 0 (.int .i64 0)).set 5 rfl 1 (.int .i64 0)).set 5 rfl 2 (.int .i64 0)).set 5 rfl 3 (.int .i64 0)).set 5 rfl 4 (.int .i64 0)).set 5 rfl 5 (.int .i64 0)).set 5 rfl 6 (.int .i64 0)).set 5 rfl 7 (.int .i64 0)).set 5 rfl 8 (.slice none 0 0)).set 5 rfl 9 (.slice none 0 0)).set 5 rfl 10 (.slice none 0 0))
            simp only [List.set_cons_zero, List.set_cons_succ, List.setIfInBounds_toArray] at hz9
            replace hz9 := Hidd.mk hz9
            have he9 := Hidd.mk (zeros_err (hw9.out.get 5 rfl) he2.out)
            go_wp2
            clear x0 x1 x2 x3 x4 x5 x6 x7 x8 x9 xA fz0 fz1 fz2 fz3 fz4 fz5 fz6 fz7 fz8 fz9 fz10 hw9 he2
            generalize World.setCell _ _ _ = WZ at hz9 he9 ⊢
            obtain ⟨x0, x1, x2, x3, x4, x5, x6, x7, x8, x9, xA⟩ := cells11 hz9.out 5 rfl
            refine bodyPost_ret (v := .tuple #[.agg #[.int .i64 0, .int .i64 0, .int .i64 0, .int .i64 0, .int .i64 0, .int .i64 0, .int .i64 0, .int .i64 0, .slice none 0 0, .slice none 0 0, .slice none 0 0], .iface 77 (.pointer (some ⟨b2, 0, none⟩))]) (by simp [results, Try.results44, go_sem, x0, x1, x2, x3, x4, x5, x6, x7, x8, x9, xA]) rfl ?_
            exact ⟨fun q hq => by
              rw [hD.out] at hq
              injection hq with hq
              subst hq
              exact ⟨_, rfl, he9.out, hz9.out.below fun _ => id⟩, fun h => by rw [hD.out] at h; cases h⟩
        ·
          obtain ⟨hR, hD⟩ := dec_in hlen2 hf hl.out hr (show rdE m r = some (qc, qa) from by unfold rdE; rw [hre]; simp only; rw [hen])
          replace hR := Hidd.mk hR
          replace hD := Hidd.mk hD
          replace hf := Hidd.mk hf
          replace hr := Hidd.mk hr
          replace hre := Hidd.mk hre
          replace hen := Hidd.mk hen
          clear hlen hlen2 h4
          go_enter Try.func44, Try.ntmps44
          go_wp2_with (first
            | (go_at_call 69; have hq := o0.out; clear hq; refine (open_yes A c m xs _ (hA.out.below (o0.out.below fun _ => id)) hb.out (by omega) hl.out hc hf.out).mono ?_; rintro e w2 ⟨A', c', rfl, hcc, _, hcl, hB⟩; have o1 := Hidd.mk (o0.out.ext hB); replace hcl := Hidd.mk hcl; clear hB o0 hA)
            | (go_at_call 70; have hq := o1.out; clear hq; refine (read_own A' m c' (xs.take m) _ hcl.out hlt.out (by omega)).mono ?_; rintro e w3 ⟨b, A4, cap, rfl, hn3⟩; have o2 := Hidd.mk (o1.out.made hn3); clear hn3 o1 hcl)
            | (go_at_call 71; have hq := o2.out; clear hq; refine (readT b A4 m cap (xs.take m) _ (o2.out.get 0 rfl) (by omega) hxt.out r hr.out _ rfl).mono ?_; rintro e w4 ⟨hE, hN⟩; have hN2 := hN hre.out; rw [hH0.out, hH1.out, hH2.out, hH3.out, hH4.out, hH5.out, hH6.out, hH7.out] at hN2; obtain ⟨A1, c1, A2, c2, A3, c3, ev, rfl, hn4⟩ := hN2; have o3 := Hidd.mk (show Own w (fun _ => False) _ [_, _, _, _, _, _] from (o2.out.frame 0 rfl hn4).alloc (.cells #[.int .i64 (H0 : Int), .int .i64 (H1 : Int), .int .i64 (H2 : Int), .int .i64 (H3 : Int), .int .i64 (H4 : Int), .int .i64 (H5 : Int), .int .i64 (H6 : Int), .int .i64 (H7 : Int), .slice A1 r.ps.length c1, .slice A2 r.qs.length c2, .slice A3 r.rs.length c3] 26)); clear hE hN hn4 o2)
            | (go_at_call 72; have hq := o3.out; clear hq; refine (end_own 4 o3.out rfl _ hen.out).mono ?_; rintro e w5 ⟨v, rfl, ⟨bb, rfl, hbb⟩, hn5⟩; have o4 := Hidd.mk hn5; have he := Hidd.mk (show IsE w5 (some (qc, qa)) (.iface 77 (.pointer (some ⟨bb, 0, none⟩))) from ⟨bb, rfl, hbb⟩); clear hbb hn5 o3)
            | (go_at_call 73; have hq := o4.out; clear hq; refine (at_own 4 o4.out rfl).mono ?_; rintro e w' ⟨rfl, rfl⟩)
            | (go_at_call 58; have hq := o4.out; clear hq; refine (wrapE_any 60 (r.s.p : Int) _ _ _ _ (by decide) (by omega) he.out.isErr).mono ?_; rintro e w6 ⟨b2, rfl, he2, hb6⟩; have hw9 := Hidd.mk (o4.out.ext hb6); replace he2 := Hidd.mk he2; clear hb6 he o4; obtain ⟨x0, x1, x2, x3, x4, x5, x6, x7, x8, x9, xA⟩ := cells11 hw9.out 5 rfl; have fz0 := hw9.out.frozen 5 rfl 0; have fz1 := hw9.out.frozen 5 rfl 1; have fz2 := hw9.out.frozen 5 rfl 2; have fz3 := hw9.out.frozen 5 rfl 3; have fz4 := hw9.out.frozen 5 rfl 4; have fz5 := hw9.out.frozen 5 rfl 5; have fz6 := hw9.out.frozen 5 rfl 6; have fz7 := hw9.out.frozen 5 rfl 7; have fz8 := hw9.out.frozen 5 rfl 8; have fz9 := hw9.out.frozen 5 rfl 9; have fz10 := hw9.out.frozen 5 rfl 10))
          have hz9 := (((((((((((hw9.out.set 5 rfl 0 (.int .i64 0)).set 5 rfl 1 (.int .i64 0)).set 5 rfl 2 (.int .i64 0)).set 5 rfl 3 (.int .i64 0)).set 5 rfl 4 (.int .i64 0)).set 5 rfl 5 (.int .i64 0)).set 5 rfl 6 (.int .i64 0)).set 5 rfl 7 (.int .i64 0)).set 5 rfl 8 (.slice none 0 0)).set 5 rfl 9 (.slice none 0 0)).set 5 rfl 10 (.slice none 0 0))
          simp only [List.set_cons_zero, List.set_cons_succ, List.setIfInBounds_toArray] at hz9
          replace hz9 := Hidd.mk hz9
          have he9 := Hidd.mk (zeros_err (hw9.out.get 5 rfl) he2.out)
          go_wp2
          clear x0 x1 x2 x3 x4 x5 x6 x7 x8 x9 xA fz0 fz1 fz2 fz3 fz4 fz5 fz6 fz7 fz8 fz9 fz10 hw9 he2
          generalize World.setCell _ _ _ = WZ at hz9 he9 ⊢
          obtain ⟨x0, x1, x2, x3, x4, x5, x6, x7, x8, x9, xA⟩ := cells11 hz9.out 5 rfl
          refine bodyPost_ret (v := .tuple #[.agg #[.int .i64 0, .int .i64 0, .int .i64 0, .int .i64 0, .int .i64 0, .int .i64 0, .int .i64 0, .int .i64 0, .slice none 0 0, .slice none 0 0, .slice none 0 0], .iface 77 (.pointer (some ⟨b2, 0, none⟩))]) (by simp [results, Try.results44, go_sem, x0, x1, x2, x3, x4, x5, x6, x7, x8, x9, xA]) rfl ?_
          exact ⟨fun q hq => by
            rw [hD.out] at hq
            injection hq with hq
            subst hq
            exact ⟨_, rfl, he9.out, hz9.out.below fun _ => id⟩, fun h => by rw [hD.out] at h; cases h⟩
      ·
        obtain ⟨hR, hD⟩ := dec_in hlen2 hf hl.out hr (show rdE m r = some (qc, qa) from by unfold rdE; rw [hre])
        replace hR := Hidd.mk hR
        replace hD := Hidd.mk hD
        replace hf := Hidd.mk hf
        replace hr := Hidd.mk hr
        replace hre := Hidd.mk hre
        clear hlen hlen2 h4
        go_enter Try.func44, Try.ntmps44
        go_wp2_with (first
          | (go_at_call 69; have hq := o0.out; clear hq; refine (open_yes A c m xs _ (hA.out.below (o0.out.below fun _ => id)) hb.out (by omega) hl.out hc hf.out).mono ?_; rintro e w2 ⟨A', c', rfl, hcc, _, hcl, hB⟩; have o1 := Hidd.mk (o0.out.ext hB); replace hcl := Hidd.mk hcl; clear hB o0 hA)
          | (go_at_call 70; have hq := o1.out; clear hq; refine (read_own A' m c' (xs.take m) _ hcl.out hlt.out (by omega)).mono ?_; rintro e w3 ⟨b, A4, cap, rfl, hn3⟩; have o2 := Hidd.mk (o1.out.made hn3); clear hn3 o1 hcl)
          | (go_at_call 71; have hq := o2.out; clear hq; refine (readT b A4 m cap (xs.take m) _ (o2.out.get 0 rfl) (by omega) hxt.out r hr.out _ rfl).mono ?_; rintro e w4 ⟨hE, hN⟩; obtain ⟨v, ev, rfl, ⟨bb, rfl⟩, he, hn4⟩ := hE _ hre.out; have hm := (o2.out.call 0 rfl hn4).alloc (.cells #[.int .i64 0, .int .i64 0, .int .i64 0, .int .i64 0, .int .i64 0, .int .i64 0, .int .i64 0, .int .i64 0, .slice none 0 0, .slice none 0 0, .slice none 0 0] 26); simp only [List.set_cons_zero] at hm; have o3 := Hidd.mk hm; replace he := Hidd.mk (he.below (below_alloc (Below.refl _ _) (.cells #[.int .i64 0, .int .i64 0, .int .i64 0, .int .i64 0, .int .i64 0, .int .i64 0, .int .i64 0, .int .i64 0, .slice none 0 0, .slice none 0 0, .slice none 0 0] 26))); clear hE hN hn4 hm o2)
          | (go_at_call 73; have hq := o3.out; clear hq; refine (at_own 1 o3.out rfl).mono ?_; rintro e w' ⟨rfl, rfl⟩)
          | (go_at_call 58; have hq := o3.out; clear hq; refine (wrapE_any 60 (r.s.p : Int) _ _ _ _ (by decide) (by omega) he.out.isErr).mono ?_; rintro e w6 ⟨b2, rfl, he2, hb6⟩; have hw9 := Hidd.mk (o3.out.ext hb6); replace he2 := Hidd.mk he2; clear hb6 he o3; obtain ⟨x0, x1, x2, x3, x4, x5, x6, x7, x8, x9, xA⟩ := cells11 hw9.out 2 rfl; have fz0 := hw9.out.frozen 2 rfl 0; have fz1 := hw9.out.frozen 2 rfl 1; have fz2 := hw9.out.frozen 2 rfl 2; have fz3 := hw9.out.frozen 2 rfl 3; have fz4 := hw9.out.frozen 2 rfl 4; have fz5 := hw9.out.frozen 2 rfl 5; have fz6 := hw9.out.frozen 2 rfl 6; have fz7 := hw9.out.frozen 2 rfl 7; have fz8 := hw9.out.frozen 2 rfl 8; have fz9 := hw9.out.frozen 2 rfl 9; have fz10 := hw9.out.frozen 2 rfl 10))
        trace_state
        have hz9 := (((((((((((hw9.out.set 2 rfl 0 (.int .i64 0)).set 2 rfl 1 (.int .i64 0)).set 2 rfl 2 (.int .i64 0)).set 2 rfl 3 (.int .i64 0)).set 2 rfl 4 (.int .i64 0)).set 2 rfl 5 (.int .i64 0)).set 2 rfl 6 (.int .i64 0)).set 2 rfl 7 (.int .i64 0)).set 2 rfl 8 (.slice none 0 0)).set 2 rfl 9 (.slice none 0 0)).set 2 rfl 10 (.slice none 0 0))
        simp only [List.set_cons_zero, List.set_cons_succ, List.setIfInBounds_toArray] at hz9
        replace hz9 := Hidd.mk hz9
        have he9 := Hidd.mk (zeros_err (hw9.out.get 2 rfl) he2.out)
        go_wp2
        clear x0 x1 x2 x3 x4 x5 x6 x7 x8 x9 xA fz0 fz1 fz2 fz3 fz4 fz5 fz6 fz7 fz8 fz9 fz10 hw9 he2
        generalize World.setCell _ _ _ = WZ at hz9 he9 ⊢
        obtain ⟨x0, x1, x2, x3, x4, x5, x6, x7, x8, x9, xA⟩ := cells11 hz9.out 2 rfl
        refine bodyPost_ret (v := .tuple #[.agg #[.int .i64 0, .int .i64 0, .int .i64 0, .int .i64 0, .int .i64 0, .int .i64 0, .int .i64 0, .int .i64 0, .slice none 0 0, .slice none 0 0, .slice none 0 0], .iface 77 (.pointer (some ⟨b2, 0, none⟩))]) (by simp [results, Try.results44, go_sem, x0, x1, x2, x3, x4, x5, x6, x7, x8, x9, xA]) rfl ?_
        exact ⟨fun q hq => by
          rw [hD.out] at hq
          injection hq with hq
          subst hq
          exact ⟨_, rfl, he9.out, hz9.out.below fun _ => id⟩, fun h => by rw [hD.out] at h; cases h⟩
theorem refDec_any (A : Option Addr) (n c : Nat) (xs : List Int) (w : World) (hA : Cells w A (nums .u8 xs)) (hb : Bytes xs) (hl : xs.length = n) (hc : n ≤ c) (hn : n ≤ 100000) :
    Calls Try.prog 45 #[.slice A n c] w fun e w' => RDecPost w xs e w' := by
  have o0 := Hidd.mk ((Own.nil w (fun _ => False)).alloc (.cells #[.int .i64 0, .int .i64 0, .int .i64 0, .int .i64 0, .int .i64 0, .int .i64 0, .int .i64 0, .int .i64 0, .slice none 0 0, .slice none 0 0, .slice none 0 0] 26))
  have hx := Hidd.mk (show ∀ x ∈ xs, 0 ≤ x ∧ x < 256 from fun x h => ⟨(hb x h).1, by have := (hb x h).2; omega⟩)
  replace hA := Hidd.mk hA
  replace hb := Hidd.mk hb
  replace hl := Hidd.mk hl
  by_cases hlen : 4096 < n
  · have hD := Hidd.mk (dec_long (xs := xs) (by rw [hl.out]; exact hlen))
    have d1 : decide ((4096 : Int) < (n : Int)) = true := decide_eq_true (by omega)
    clear hlen
    go_enter Try.func45, Try.ntmps45
    go_wp2_with (first
      | (go_at_call 51; have hq := o0.out; clear hq; refine (at_any 3 (-1) _ (by decide) (by decide) (by decide) (by decide)).mono ?_; rintro e w5 ⟨rfl, hb5⟩; have o1 := Hidd.mk (o0.out.ext hb5); clear hb5 o0)
      | (go_at_call 62; have hq := o1.out; clear hq; refine (over_any 60 (-1) (atB 3 (-1)) _ (by decide) (by decide) (by decide) (by decide) (atB_pos _ _) (by have := atB_size 3 (-1); omega)).mono ?_; rintro e w6 ⟨rfl, hb6⟩; have hw9 := Hidd.mk (o1.out.ext hb6); clear hb6 o1; obtain ⟨x0, x1, x2, x3, x4, x5, x6, x7, x8, x9, xA⟩ := cells11 hw9.out 0 rfl; have fz0 := hw9.out.frozen 0 rfl 0; have fz1 := hw9.out.frozen 0 rfl 1; have fz2 := hw9.out.frozen 0 rfl 2; have fz3 := hw9.out.frozen 0 rfl 3; have fz4 := hw9.out.frozen 0 rfl 4; have fz5 := hw9.out.frozen 0 rfl 5; have fz6 := hw9.out.frozen 0 rfl 6; have fz7 := hw9.out.frozen 0 rfl 7; have fz8 := hw9.out.frozen 0 rfl 8; have fz9 := hw9.out.frozen 0 rfl 9; have fz10 := hw9.out.frozen 0 rfl 10))
    have hz9 := (((((((((((hw9.out.set 0 rfl 0 (.int .i64 0)).set 0 rfl 1 (.int .i64 0)).set 0 rfl 2 (.int .i64 0)).set 0 rfl 3 (.int .i64 0)).set 0 rfl 4 (.int .i64 0)).set 0 rfl 5 (.int .i64 0)).set 0 rfl 6 (.int .i64 0)).set 0 rfl 7 (.int .i64 0)).set 0 rfl 8 (.slice none 0 0)).set 0 rfl 9 (.slice none 0 0)).set 0 rfl 10 (.slice none 0 0))
    simp only [List.set_cons_zero, List.set_cons_succ, List.setIfInBounds_toArray] at hz9
    replace hz9 := Hidd.mk hz9
    go_wp2
    clear x0 x1 x2 x3 x4 x5 x6 x7 x8 x9 xA fz0 fz1 fz2 fz3 fz4 fz5 fz6 fz7 fz8 fz9 fz10 hw9
    generalize World.setCell _ _ _ = WZ at hz9 ⊢
    obtain ⟨x0, x1, x2, x3, x4, x5, x6, x7, x8, x9, xA⟩ := cells11 hz9.out 0 rfl
    refine bodyPost_ret (v := .tuple #[.agg #[.int .i64 0, .int .i64 0, .int .i64 0, .int .i64 0, .int .i64 0, .int .i64 0, .int .i64 0, .int .i64 0, .slice none 0 0, .slice none 0 0, .slice none 0 0], .string (atB 60 (-1) ++ ⟨#[62]⟩ ++ atB 3 (-1))]) (by simp [results, Try.results45, go_sem, x0, x1, x2, x3, x4, x5, x6, x7, x8, x9, xA]) rfl ?_
    exact ⟨fun q hq => by
      rw [hD.out] at hq
      injection hq with hq
      subst hq
      exact ⟨rfl, hz9.out.below fun _ => id⟩, fun h => by rw [hD.out] at h; cases h⟩
  · have d1 : decide ((4096 : Int) < (n : Int)) = false := decide_eq_false (by omega)
    have hlen2 : ¬ 4096 < xs.length := by rw [hl.out]; exact hlen
    rcases hf : fits xs with _ | _
    · have hD := Hidd.mk (dec_bad hlen2 hf)
      replace hf := Hidd.mk hf
      clear hlen hlen2
      go_enter Try.func45, Try.ntmps45
      go_wp2_with (first
        | (go_at_call 74; refine (refOpen_no A c n xs _ (hA.out.below (o0.out.below fun _ => id)) hb.out (by omega) hl.out hc hf.out).mono ?_; rintro e w2 ⟨rfl, hB⟩; replace o0 := Hidd.mk (o0.out.ext hB); clear hB hA)
        | (go_at_call 51; have hq := o0.out; clear hq; refine (at_any 6 (-1) _ (by decide) (by decide) (by decide) (by decide)).mono ?_; rintro e w5 ⟨rfl, hb5⟩; have o1 := Hidd.mk (o0.out.ext hb5); clear hb5 o0)
        | (go_at_call 62; have hq := o1.out; clear hq; refine (over_any 60 (-1) (atB 6 (-1)) _ (by decide) (by decide) (by decide) (by decide) (atB_pos _ _) (by have := atB_size 6 (-1); omega)).mono ?_; rintro e w6 ⟨rfl, hb6⟩; have hw9 := Hidd.mk (o1.out.ext hb6); clear hb6 o1; obtain ⟨x0, x1, x2, x3, x4, x5, x6, x7, x8, x9, xA⟩ := cells11 hw9.out 0 rfl; have fz0 := hw9.out.frozen 0 rfl 0; have fz1 := hw9.out.frozen 0 rfl 1; have fz2 := hw9.out.frozen 0 rfl 2; have fz3 := hw9.out.frozen 0 rfl 3; have fz4 := hw9.out.frozen 0 rfl 4; have fz5 := hw9.out.frozen 0 rfl 5; have fz6 := hw9.out.frozen 0 rfl 6; have fz7 := hw9.out.frozen 0 rfl 7; have fz8 := hw9.out.frozen 0 rfl 8; have fz9 := hw9.out.frozen 0 rfl 9; have fz10 := hw9.out.frozen 0 rfl 10))
      have hz9 := (((((((((((hw9.out.set 0 rfl 0 (.int .i64 0)).set 0 rfl 1 (.int .i64 0)).set 0 rfl 2 (.int .i64 0)).set 0 rfl 3 (.int .i64 0)).set 0 rfl 4 (.int .i64 0)).set 0 rfl 5 (.int .i64 0)).set 0 rfl 6 (.int .i64 0)).set 0 rfl 7 (.int .i64 0)).set 0 rfl 8 (.slice none 0 0)).set 0 rfl 9 (.slice none 0 0)).set 0 rfl 10 (.slice none 0 0))
      simp only [List.set_cons_zero, List.set_cons_succ, List.setIfInBounds_toArray] at hz9
      replace hz9 := Hidd.mk hz9
      go_wp2
      clear x0 x1 x2 x3 x4 x5 x6 x7 x8 x9 xA fz0 fz1 fz2 fz3 fz4 fz5 fz6 fz7 fz8 fz9 fz10 hw9
      generalize World.setCell _ _ _ = WZ at hz9 ⊢
      obtain ⟨x0, x1, x2, x3, x4, x5, x6, x7, x8, x9, xA⟩ := cells11 hz9.out 0 rfl
      refine bodyPost_ret (v := .tuple #[.agg #[.int .i64 0, .int .i64 0, .int .i64 0, .int .i64 0, .int .i64 0, .int .i64 0, .int .i64 0, .int .i64 0, .slice none 0 0, .slice none 0 0, .slice none 0 0], .string (atB 60 (-1) ++ ⟨#[62]⟩ ++ atB 6 (-1))]) (by simp [results, Try.results45, go_sem, x0, x1, x2, x3, x4, x5, x6, x7, x8, x9, xA]) rfl ?_
      exact ⟨fun q hq => by
        rw [hD.out] at hq
        injection hq with hq
        subst hq
        exact ⟨rfl, hz9.out.below fun _ => id⟩, fun h => by rw [hD.out] at h; cases h⟩
    · have h4 := fits_4 hf
      obtain ⟨m, rfl⟩ : ∃ m, n = m + 4 := ⟨n - 4, by rw [hl.out] at h4; omega⟩
      replace d1 : decide ((4096 : Int) < (m : Int) + 4) = false := decide_eq_false (by omega)
      obtain ⟨r, hr⟩ : ∃ r, rdT (xs.take m) m = r := ⟨_, rfl⟩
      have hxt := Hidd.mk (show ∀ x ∈ xs.take m, 0 ≤ x ∧ x < 256 from fun x h => hx.out x (List.mem_of_mem_take h))
      have hlt := Hidd.mk (show (xs.take m).length = m by rw [List.length_take, hl.out]; omega)
      have hrp : r.s.p ≤ m := by rw [← hr]; exact rdT_pos
      obtain ⟨oP, oQ⟩ : (∀ p ∈ r.ps, p.Ok) ∧ (∀ p ∈ r.qs, p.Ok) := by rw [← hr]; exact rdT_ok hxt.out
      replace oP := Hidd.mk oP
      replace oQ := Hidd.mk oQ
      obtain ⟨H0, hH0⟩ : ∃ H : Nat, r.h.getD 0 0 = H := ⟨_, rfl⟩
      replace hH0 := Hidd.mk hH0
      obtain ⟨H1, hH1⟩ : ∃ H : Nat, r.h.getD 1 0 = H := ⟨_, rfl⟩
      replace hH1 := Hidd.mk hH1
      obtain ⟨H2, hH2⟩ : ∃ H : Nat, r.h.getD 2 0 = H := ⟨_, rfl⟩
      replace hH2 := Hidd.mk hH2
      obtain ⟨H3, hH3⟩ : ∃ H : Nat, r.h.getD 3 0 = H := ⟨_, rfl⟩
      replace hH3 := Hidd.mk hH3
      obtain ⟨H4, hH4⟩ : ∃ H : Nat, r.h.getD 4 0 = H := ⟨_, rfl⟩
      replace hH4 := Hidd.mk hH4
      obtain ⟨H5, hH5⟩ : ∃ H : Nat, r.h.getD 5 0 = H := ⟨_, rfl⟩
      replace hH5 := Hidd.mk hH5
      obtain ⟨H6, hH6⟩ : ∃ H : Nat, r.h.getD 6 0 = H := ⟨_, rfl⟩
      replace hH6 := Hidd.mk hH6
      obtain ⟨H7, hH7⟩ : ∃ H : Nat, r.h.getD 7 0 = H := ⟨_, rfl⟩
      replace hH7 := Hidd.mk hH7
      rcases hre : r.e with _ | ⟨qc, qa⟩
      · rcases hen : endE m r.s.p r.s.er with _ | ⟨qc, qa⟩
        · rcases hck : rdC r with _ | ⟨qc, qa⟩
          ·
            obtain ⟨hR, hD⟩ := dec_in hlen2 hf hl.out hr (show rdE m r = none from by unfold rdE; rw [hre]; simp only; rw [hen]; exact hck)
            replace hR := Hidd.mk hR
            replace hD := Hidd.mk hD
            replace hf := Hidd.mk hf
            replace hr := Hidd.mk hr
            replace hre := Hidd.mk hre
            replace hen := Hidd.mk hen
            unfold rdC at hck
            rw [hH0.out, hH1.out, hH2.out, hH3.out, hH4.out, hH5.out, hH6.out, hH7.out] at hck
            replace hck := Hidd.mk hck
            clear hlen hlen2 h4
            go_enter Try.func45, Try.ntmps45
            go_wp2_with (first
              | (go_at_call 74; have hq := o0.out; clear hq; refine (refOpen_yes A c m xs _ (hA.out.below (o0.out.below fun _ => id)) hb.out (by omega) hl.out hc hf.out).mono ?_; rintro e w2 ⟨A', c', rfl, hcc, hcl, hB⟩; have o1 := Hidd.mk (o0.out.ext hB); replace hcl := Hidd.mk hcl; clear hB o0 hA)
              | (go_at_call 75; have hq := o1.out; clear hq; refine (rreadT w2.heap.size A' m c' (xs.take m) w2 _ (fun _ => False) (show Own w2 (fun _ => False) _ [rref w2.heap.size A' m c' 0 none] from (Own.nil w2 _).alloc _) (fun w' k => hcl.out.below (k.none fun _ => id)) hlt.out (by omega) hxt.out r hr.out).mono ?_; rintro e w4 ⟨hE, hN⟩; have hN2 := hN hre.out; rw [hH0.out, hH1.out, hH2.out, hH3.out, hH4.out, hH5.out, hH6.out, hH7.out] at hN2; obtain ⟨A1, c1, A2, c2, A3, c3, rfl, hn4⟩ := hN2; have o3 := Hidd.mk (show Own w (fun _ => False) _ [_, _, _, _, _, _] from (o1.out.madeL hn4).alloc (.cells #[.int .i64 (H0 : Int), .int .i64 (H1 : Int), .int .i64 (H2 : Int), .int .i64 (H3 : Int), .int .i64 (H4 : Int), .int .i64 (H5 : Int), .int .i64 (H6 : Int), .int .i64 (H7 : Int), .slice A1 r.ps.length c1, .slice A2 r.qs.length c2, .slice A3 r.rs.length c3] 26)); clear hE hN hn4 o1 hcl)
              | (go_at_call 76; have hq := o3.out; clear hq; refine (rxend_own 4 o3.out rfl (by omega) _ hen.out).mono ?_; rintro e w5 ⟨rfl, hn5⟩; have o4 := Hidd.mk (o3.out.ext (hn5.below fun _ => id)); clear hn5 o3; rw [show erS none = ⟨#[]⟩ from rfl]; obtain ⟨y0, y1, y2, y3, y4, y5, y6, y7, y8, y9, yA⟩ := cells11 o4.out 0 rfl)
              | (go_at_call 32; have hq := o4.out; clear hq; refine (refTab_any _ _ _ _ _ _ _ _ A1 _ c1 A2 _ c2 A3 _ c3 r.ps r.qs r.rs _ ⟨rfl, row_cells o4.out 3 rfl⟩ ⟨rfl, row_cells o4.out 2 rfl⟩ ⟨rfl, row_cells o4.out 1 rfl⟩ oP.out oQ.out _ hck.out).mono ?_; rintro e w6 ⟨rfl, hB⟩; have o5 := Hidd.mk (o4.out.ext hB); clear hB o4 y0 y1 y2 y3 y4 y5 y6 y7 y8 y9 yA; rw [show textE none = ⟨#[]⟩ from rfl]; obtain ⟨y0, y1, y2, y3, y4, y5, y6, y7, y8, y9, yA⟩ := cells11 o5.out 0 rfl; obtain ⟨x0, x1, x2, x3, x4, x5, x6, x7, x8, x9, xA⟩ := cells11 o5.out 5 rfl; have fz0 := o5.out.frozen 5 rfl 0; have fz1 := o5.out.frozen 5 rfl 1; have fz2 := o5.out.frozen 5 rfl 2; have fz3 := o5.out.frozen 5 rfl 3; have fz4 := o5.out.frozen 5 rfl 4; have fz5 := o5.out.frozen 5 rfl 5; have fz6 := o5.out.frozen 5 rfl 6; have fz7 := o5.out.frozen 5 rfl 7; have fz8 := o5.out.frozen 5 rfl 8; have fz9 := o5.out.frozen 5 rfl 9; have fz10 := o5.out.frozen 5 rfl 10))
            have hz9 := (((((((((((o5.out.set 5 rfl 0 (.int .i64 (H0 : Int))).set 5 rfl 1 (.int .i64 (H1 : Int))).set 5 rfl 2 (.int .i64 (H2 : Int))).set 5 rfl 3 (.int .i64 (H3 : Int))).set 5 rfl 4 (.int .i64 (H4 : Int))).set 5 rfl 5 (.int .i64 (H5 : Int))).set 5 rfl 6 (.int .i64 (H6 : Int))).set 5 rfl 7 (.int .i64 (H7 : Int))).set 5 rfl 8 (.slice A1 r.ps.length c1)).set 5 rfl 9 (.slice A2 r.qs.length c2)).set 5 rfl 10 (.slice A3 r.rs.length c3))
            simp only [List.set_cons_zero, List.set_cons_succ, List.setIfInBounds_toArray] at hz9
            replace hz9 := Hidd.mk hz9
            go_wp2
            clear x0 x1 x2 x3 x4 x5 x6 x7 x8 x9 xA fz0 fz1 fz2 fz3 fz4 fz5 fz6 fz7 fz8 fz9 fz10 y0 y1 y2 y3 y4 y5 y6 y7 y8 y9 yA o5
            generalize World.setCell _ _ _ = WZ at hz9 ⊢
            obtain ⟨x0, x1, x2, x3, x4, x5, x6, x7, x8, x9, xA⟩ := cells11 hz9.out 5 rfl
            refine bodyPost_ret (v := .tuple #[.agg #[.int .i64 (H0 : Int), .int .i64 (H1 : Int), .int .i64 (H2 : Int), .int .i64 (H3 : Int), .int .i64 (H4 : Int), .int .i64 (H5 : Int), .int .i64 (H6 : Int), .int .i64 (H7 : Int), .slice A1 r.ps.length c1, .slice A2 r.qs.length c2, .slice A3 r.rs.length c3], .string ⟨#[]⟩]) (by simp [results, Try.results45, go_sem, x0, x1, x2, x3, x4, x5, x6, x7, x8, x9, xA]) rfl ?_
            exact ⟨fun q hq => (by rw [hD.out] at hq; cases hq), fun _ => ⟨A1, c1, A2, c2, A3, c3, r, hR.out, by rw [hH0.out, hH1.out, hH2.out, hH3.out, hH4.out, hH5.out, hH6.out, hH7.out], hz9.out.reorder (M := [_, _, _]) [1, 2, 3] rfl (by decide)⟩⟩
          ·
            obtain ⟨hR, hD⟩ := dec_in hlen2 hf hl.out hr (show rdE m r = some (qc, qa) from by unfold rdE; rw [hre]; simp only; rw [hen]; exact hck)
            replace hR := Hidd.mk hR
            replace hD := Hidd.mk hD
            replace hf := Hidd.mk hf
            replace hr := Hidd.mk hr
            replace hre := Hidd.mk hre
            replace hen := Hidd.mk hen
            unfold rdC at hck
            rw [hH0.out, hH1.out, hH2.out, hH3.out, hH4.out, hH5.out, hH6.out, hH7.out] at hck
            replace hck := Hidd.mk hck
            clear hlen hlen2 h4
            go_enter Try.func45, Try.ntmps45
            go_wp2_with (first
              | (go_at_call 74; have hq := o0.out; clear hq; refine (refOpen_yes A c m xs _ (hA.out.below (o0.out.below fun _ => id)) hb.out (by omega) hl.out hc hf.out).mono ?_; rintro e w2 ⟨A', c', rfl, hcc, hcl, hB⟩; have o1 := Hidd.mk (o0.out.ext hB); replace hcl := Hidd.mk hcl; clear hB o0 hA)
              | (go_at_call 75; have hq := o1.out; clear hq; refine (rreadT w2.heap.size A' m c' (xs.take m) w2 _ (fun _ => False) (show Own w2 (fun _ => False) _ [rref w2.heap.size A' m c' 0 none] from (Own.nil w2 _).alloc _) (fun w' k => hcl.out.below (k.none fun _ => id)) hlt.out (by omega) hxt.out r hr.out).mono ?_; rintro e w4 ⟨hE, hN⟩; have hN2 := hN hre.out; rw [hH0.out, hH1.out, hH2.out, hH3.out, hH4.out, hH5.out, hH6.out, hH7.out] at hN2; obtain ⟨A1, c1, A2, c2, A3, c3, rfl, hn4⟩ := hN2; have o3 := Hidd.mk (show Own w (fun _ => False) _ [_, _, _, _, _, _] from (o1.out.madeL hn4).alloc (.cells #[.int .i64 (H0 : Int), .int .i64 (H1 : Int), .int .i64 (H2 : Int), .int .i64 (H3 : Int), .int .i64 (H4 : Int), .int .i64 (H5 : Int), .int .i64 (H6 : Int), .int .i64 (H7 : Int), .slice A1 r.ps.length c1, .slice A2 r.qs.length c2, .slice A3 r.rs.length c3] 26)); clear hE hN hn4 o1 hcl)
              | (go_at_call 76; have hq := o3.out; clear hq; refine (rxend_own 4 o3.out rfl (by omega) _ hen.out).mono ?_; rintro e w5 ⟨rfl, hn5⟩; have o4 := Hidd.mk (o3.out.ext (hn5.below fun _ => id)); clear hn5 o3; rw [show erS none = ⟨#[]⟩ from rfl]; obtain ⟨y0, y1, y2, y3, y4, y5, y6, y7, y8, y9, yA⟩ := cells11 o4.out 0 rfl)
              | (go_at_call 32; have hq := o4.out; clear hq; refine (refTab_any _ _ _ _ _ _ _ _ A1 _ c1 A2 _ c2 A3 _ c3 r.ps r.qs r.rs _ ⟨rfl, row_cells o4.out 3 rfl⟩ ⟨rfl, row_cells o4.out 2 rfl⟩ ⟨rfl, row_cells o4.out 1 rfl⟩ oP.out oQ.out _ hck.out).mono ?_; rintro e w6 ⟨rfl, hB⟩; have o5 := Hidd.mk (o4.out.ext hB); clear hB o4 y0 y1 y2 y3 y4 y5 y6 y7 y8 y9 yA; rw [show textE (some (qc, qa)) = atB qc qa from rfl]; have hne := ne_empty (atB_pos qc qa); obtain ⟨c0, cp, c2⟩ := rref_at 4 o5.out rfl)
              | (go_at_call 62; have hq := o5.out; clear hq; refine (over_any 60 (r.s.p : Int) (atB qc qa) _ (by decide) (by decide) (by omega) (by omega) (atB_pos _ _) (by have := atB_size qc qa; omega)).mono ?_; rintro e w6 ⟨rfl, hb6⟩; have hw9 := Hidd.mk (o5.out.ext hb6); clear c0 cp c2 hne hb6 o5; obtain ⟨x0, x1, x2, x3, x4, x5, x6, x7, x8, x9, xA⟩ := cells11 hw9.out 5 rfl; have fz0 := hw9.out.frozen 5 rfl 0; have fz1 := hw9.out.frozen 5 rfl 1; have fz2 := hw9.out.frozen 5 rfl 2; have fz3 := hw9.out.frozen 5 rfl 3; have fz4 := hw9.out.frozen 5 rfl 4; have fz5 := hw9.out.frozen 5 rfl 5; have fz6 := hw9.out.frozen 5 rfl 6; have fz7 := hw9.out.frozen 5 rfl 7; have fz8 := hw9.out.frozen 5 rfl 8; have fz9 := hw9.out.frozen 5 rfl 9; have fz10 := hw9.out.frozen 5 rfl 10))
            have hz9 := (((((((((((hw9.out.set 5 rfl 0 (.int .i64 0)).set 5 rfl 1 (.int .i64 0)).set 5 rfl 2 (.int .i64 0)).set 5 rfl 3 (.int .i64 0)).set 5 rfl 4 (.int .i64 0)).set 5 rfl 5 (.int .i64 0)).set 5 rfl 6 (.int .i64 0)).set 5 rfl 7 (.int .i64 0)).set 5 rfl 8 (.slice none 0 0)).set 5 rfl 9 (.slice none 0 0)).set 5 rfl 10 (.slice none 0 0))
            simp only [List.set_cons_zero, List.set_cons_succ, List.setIfInBounds_toArray] at hz9
            replace hz9 := Hidd.mk hz9
            go_wp2
            clear x0 x1 x2 x3 x4 x5 x6 x7 x8 x9 xA fz0 fz1 fz2 fz3 fz4 fz5 fz6 fz7 fz8 fz9 fz10 hw9
            generalize World.setCell _ _ _ = WZ at hz9 ⊢
            obtain ⟨x0, x1, x2, x3, x4, x5, x6, x7, x8, x9, xA⟩ := cells11 hz9.out 5 rfl
            refine bodyPost_ret (v := .tuple #[.agg #[.int .i64 0, .int .i64 0, .int .i64 0, .int .i64 0, .int .i64 0, .int .i64 0, .int .i64 0, .int .i64 0, .slice none 0 0, .slice none 0 0, .slice none 0 0], .string (atB 60 (r.s.p : Int) ++ ⟨#[62]⟩ ++ atB qc qa)]) (by simp [results, Try.results45, go_sem, x0, x1, x2, x3, x4, x5, x6, x7, x8, x9, xA]) rfl ?_
            exact ⟨fun q hq => by
              rw [hD.out] at hq
              injection hq with hq
              subst hq
              exact ⟨rfl, hz9.out.below fun _ => id⟩, fun h => by rw [hD.out] at h; cases h⟩
        ·
          obtain ⟨hR, hD⟩ := dec_in hlen2 hf hl.out hr (show rdE m r = some (qc, qa) from by unfold rdE; rw [hre]; simp only; rw [hen])
          replace hR := Hidd.mk hR
          replace hD := Hidd.mk hD
          replace hf := Hidd.mk hf
          replace hr := Hidd.mk hr
          replace hre := Hidd.mk hre
          replace hen := Hidd.mk hen
          clear hlen hlen2 h4
          go_enter Try.func45, Try.ntmps45
          go_wp2_with (first
            | (go_at_call 74; have hq := o0.out; clear hq; refine (refOpen_yes A c m xs _ (hA.out.below (o0.out.below fun _ => id)) hb.out (by omega) hl.out hc hf.out).mono ?_; rintro e w2 ⟨A', c', rfl, hcc, hcl, hB⟩; have o1 := Hidd.mk (o0.out.ext hB); replace hcl := Hidd.mk hcl; clear hB o0 hA)
            | (go_at_call 75; have hq := o1.out; clear hq; refine (rreadT w2.heap.size A' m c' (xs.take m) w2 _ (fun _ => False) (show Own w2 (fun _ => False) _ [rref w2.heap.size A' m c' 0 none] from (Own.nil w2 _).alloc _) (fun w' k => hcl.out.below (k.none fun _ => id)) hlt.out (by omega) hxt.out r hr.out).mono ?_; rintro e w4 ⟨hE, hN⟩; have hN2 := hN hre.out; rw [hH0.out, hH1.out, hH2.out, hH3.out, hH4.out, hH5.out, hH6.out, hH7.out] at hN2; obtain ⟨A1, c1, A2, c2, A3, c3, rfl, hn4⟩ := hN2; have o3 := Hidd.mk (show Own w (fun _ => False) _ [_, _, _, _, _, _] from (o1.out.madeL hn4).alloc (.cells #[.int .i64 (H0 : Int), .int .i64 (H1 : Int), .int .i64 (H2 : Int), .int .i64 (H3 : Int), .int .i64 (H4 : Int), .int .i64 (H5 : Int), .int .i64 (H6 : Int), .int .i64 (H7 : Int), .slice A1 r.ps.length c1, .slice A2 r.qs.length c2, .slice A3 r.rs.length c3] 26)); clear hE hN hn4 o1 hcl)
            | (go_at_call 76; have hq := o3.out; clear hq; refine (rxend_own 4 o3.out rfl (by omega) _ hen.out).mono ?_; rintro e w5 ⟨rfl, hn5⟩; have o4 := Hidd.mk (o3.out.ext (hn5.below fun _ => id)); clear hn5 o3; rw [show erS (some (qc, qa)) = atB qc qa from rfl]; have hne := ne_empty (atB_pos qc qa); obtain ⟨c0, cp, c2⟩ := rref_at 4 o4.out rfl)
            | (go_at_call 62; have hq := o4.out; clear hq; refine (over_any 60 (r.s.p : Int) (atB qc qa) _ (by decide) (by decide) (by omega) (by omega) (atB_pos _ _) (by have := atB_size qc qa; omega)).mono ?_; rintro e w6 ⟨rfl, hb6⟩; have hw9 := Hidd.mk (o4.out.ext hb6); clear c0 cp c2 hne hb6 o4; obtain ⟨x0, x1, x2, x3, x4, x5, x6, x7, x8, x9, xA⟩ := cells11 hw9.out 5 rfl; have fz0 := hw9.out.frozen 5 rfl 0; have fz1 := hw9.out.frozen 5 rfl 1; have fz2 := hw9.out.frozen 5 rfl 2; have fz3 := hw9.out.frozen 5 rfl 3; have fz4 := hw9.out.frozen 5 rfl 4; have fz5 := hw9.out.frozen 5 rfl 5; have fz6 := hw9.out.frozen 5 rfl 6; have fz7 := hw9.out.frozen 5 rfl 7; have fz8 := hw9.out.frozen 5 rfl 8; have fz9 := hw9.out.frozen 5 rfl 9; have fz10 := hw9.out.frozen 5 rfl 10))
          have hz9 := (((((((((((hw9.out.set 5 rfl 0 (.int .i64 0)).set 5 rfl 1 (.int .i64 0)).set 5 rfl 2 (.int .i64 0)).set 5 rfl 3 (.int .i64 0)).set 5 rfl 4 (.int .i64 0)).set 5 rfl 5 (.int .i64 0)).set 5 rfl 6 (.int .i64 0)).set 5 rfl 7 (.int .i64 0)).set 5 rfl 8 (.slice none 0 0)).set 5 rfl 9 (.slice none 0 0)).set 5 rfl 10 (.slice none 0 0))
          simp only [List.set_cons_zero, List.set_cons_succ, List.setIfInBounds_toArray] at hz9
          replace hz9 := Hidd.mk hz9
          go_wp2
          clear x0 x1 x2 x3 x4 x5 x6 x7 x8 x9 xA fz0 fz1 fz2 fz3 fz4 fz5 fz6 fz7 fz8 fz9 fz10 hw9
          generalize World.setCell _ _ _ = WZ at hz9 ⊢
          obtain ⟨x0, x1, x2, x3, x4, x5, x6, x7, x8, x9, xA⟩ := cells11 hz9.out 5 rfl
          refine bodyPost_ret (v := .tuple #[.agg #[.int .i64 0, .int .i64 0, .int .i64 0, .int .i64 0, .int .i64 0, .int .i64 0, .int .i64 0, .int .i64 0, .slice none 0 0, .slice none 0 0, .slice none 0 0], .string (atB 60 (r.s.p : Int) ++ ⟨#[62]⟩ ++ atB qc qa)]) (by simp [results, Try.results45, go_sem, x0, x1, x2, x3, x4, x5, x6, x7, x8, x9, xA]) rfl ?_
          exact ⟨fun q hq => by
            rw [hD.out] at hq
            injection hq with hq
            subst hq
            exact ⟨rfl, hz9.out.below fun _ => id⟩, fun h => by rw [hD.out] at h; cases h⟩
      ·
        obtain ⟨hR, hD⟩ := dec_in hlen2 hf hl.out hr (show rdE m r = some (qc, qa) from by unfold rdE; rw [hre])
        replace hR := Hidd.mk hR
        replace hD := Hidd.mk hD
        replace hf := Hidd.mk hf
        replace hr := Hidd.mk hr
        replace hre := Hidd.mk hre
        clear hlen hlen2 h4
        go_enter Try.func45, Try.ntmps45
        go_wp2_with (first
          | (go_at_call 74; have hq := o0.out; clear hq; refine (refOpen_yes A c m xs _ (hA.out.below (o0.out.below fun _ => id)) hb.out (by omega) hl.out hc hf.out).mono ?_; rintro e w2 ⟨A', c', rfl, hcc, hcl, hB⟩; have o1 := Hidd.mk (o0.out.ext hB); replace hcl := Hidd.mk hcl; clear hB o0 hA)
          | (go_at_call 75; have hq := o1.out; clear hq; refine (rreadT w2.heap.size A' m c' (xs.take m) w2 _ (fun _ => False) (show Own w2 (fun _ => False) _ [rref w2.heap.size A' m c' 0 none] from (Own.nil w2 _).alloc _) (fun w' k => hcl.out.below (k.none fun _ => id)) hlt.out (by omega) hxt.out r hr.out).mono ?_; rintro e w4 ⟨hE, hN⟩; obtain ⟨rfl, hn4⟩ := hE _ hre.out; have o3 := Hidd.mk (show Own w (fun _ => False) _ [_, _, _] from (o1.out.madeL hn4).alloc (.cells #[.int .i64 0, .int .i64 0, .int .i64 0, .int .i64 0, .int .i64 0, .int .i64 0, .int .i64 0, .int .i64 0, .slice none 0 0, .slice none 0 0, .slice none 0 0] 26)); clear hE hN hn4 o1 hcl; have hne := ne_empty (atB_pos qc qa); obtain ⟨c0, cp, c2⟩ := rref_at 1 o3.out rfl)
          | (go_at_call 62; have hq := o3.out; clear hq; refine (over_any 60 (r.s.p : Int) (atB qc qa) _ (by decide) (by decide) (by omega) (by omega) (atB_pos _ _) (by have := atB_size qc qa; omega)).mono ?_; rintro e w6 ⟨rfl, hb6⟩; have hw9 := Hidd.mk (o3.out.ext hb6); clear c0 cp c2 hne hb6 o3; obtain ⟨x0, x1, x2, x3, x4, x5, x6, x7, x8, x9, xA⟩ := cells11 hw9.out 2 rfl; have fz0 := hw9.out.frozen 2 rfl 0; have fz1 := hw9.out.frozen 2 rfl 1; have fz2 := hw9.out.frozen 2 rfl 2; have fz3 := hw9.out.frozen 2 rfl 3; have fz4 := hw9.out.frozen 2 rfl 4; have fz5 := hw9.out.frozen 2 rfl 5; have fz6 := hw9.out.frozen 2 rfl 6; have fz7 := hw9.out.frozen 2 rfl 7; have fz8 := hw9.out.frozen 2 rfl 8; have fz9 := hw9.out.frozen 2 rfl 9; have fz10 := hw9.out.frozen 2 rfl 10))
        trace_state
        have hz9 := (((((((((((hw9.out.set 2 rfl 0 (.int .i64 0)).set 2 rfl 1 (.int .i64 0)).set 2 rfl 2 (.int .i64 0)).set 2 rfl 3 (.int .i64 0)).set 2 rfl 4 (.int .i64 0)).set 2 rfl 5 (.int .i64 0)).set 2 rfl 6 (.int .i64 0)).set 2 rfl 7 (.int .i64 0)).set 2 rfl 8 (.slice none 0 0)).set 2 rfl 9 (.slice none 0 0)).set 2 rfl 10 (.slice none 0 0))
        simp only [List.set_cons_zero, List.set_cons_succ, List.setIfInBounds_toArray] at hz9
        replace hz9 := Hidd.mk hz9
        go_wp2
        clear x0 x1 x2 x3 x4 x5 x6 x7 x8 x9 xA fz0 fz1 fz2 fz3 fz4 fz5 fz6 fz7 fz8 fz9 fz10 hw9
        generalize World.setCell _ _ _ = WZ at hz9 ⊢
        obtain ⟨x0, x1, x2, x3, x4, x5, x6, x7, x8, x9, xA⟩ := cells11 hz9.out 2 rfl
        refine bodyPost_ret (v := .tuple #[.agg #[.int .i64 0, .int .i64 0, .int .i64 0, .int .i64 0, .int .i64 0, .int .i64 0, .int .i64 0, .int .i64 0, .slice none 0 0, .slice none 0 0, .slice none 0 0], .string (atB 60 (r.s.p : Int) ++ ⟨#[62]⟩ ++ atB qc qa)]) (by simp [results, Try.results45, go_sem, x0, x1, x2, x3, x4, x5, x6, x7, x8, x9, xA]) rfl ?_
        exact ⟨fun q hq => by
          rw [hD.out] at hq
          injection hq with hq
          subst hq
          exact ⟨rfl, hz9.out.below fun _ => id⟩, fun h => by rw [hD.out] at h; cases h⟩
end Go.Proofs.Ytcamoldjljfbeaa
