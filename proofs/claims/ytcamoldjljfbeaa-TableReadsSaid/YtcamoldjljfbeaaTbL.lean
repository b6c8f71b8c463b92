/- TableReads walked. -/
import Derived.Test.YtcamoldjljfbeaaSoL
import Derived.Test.YtcamoldjljfbeaaTbK
import Derived.Test.YtcamoldjljfbeaaTbC
import Derived.Test.YtcamoldjljfbeaaTbE
namespace Go.Proofs.Ytcamoldjljfbeaa

def OkS (n : Nat) (s : RS) : Prop := ∀ q, s.er = some q → q.1 = 4 ∧ 0 ≤ q.2 ∧ q.2 ≤ (n : Int)
section
variable {xs : List Int} {n : Nat}
theorem tk_ok (z : Nat) {s : RS} (h : OkS n s) (hp : s.p ≤ n) : OkS n (tk xs n z s).2 := by
  intro q hq
  unfold tk takeR at hq
  split at hq
  · exact h q hq
  · split at hq
    · exact h q hq
    · unfold moreE at hq
      split at hq
      · exact h q hq
      · split at hq
        · injection hq with hq
          subst hq
          exact ⟨rfl, by simp, by simpa using hp⟩
        · cases hq
theorem takes_ok : ∀ (a : List Nat) {s : RS}, OkS n s → s.p ≤ n → OkS n (takes xs n a s).2
  | [], _, h, _ => h
  | z :: a, _, h, hp => takes_ok a (tk_ok z h hp) (tk_pos rfl hp)
theorem ptsR_okS : ∀ (k : Nat) {s : RS}, OkS n s → s.p ≤ n → OkS n (ptsR xs n k s).2
  | 0, _, h, _ => h
  | k + 1, s, h, hp => by
    unfold ptsR
    split
    · exact h
    · exact ptsR_okS k (takes_ok _ h hp) (takes_pos _ _ hp)
theorem qtsR_okS : ∀ (k i : Nat) {s : RS}, OkS n s → s.p ≤ n → OkS n (qtsR xs n k i s).2.2 ∧ ∀ q, (qtsR xs n k i s).1 = some q → q.1 = 8 ∧ 0 ≤ q.2 ∧ q.2 ≤ ((i + k : Nat) : Int)
  | 0, _, _, h, _ => ⟨h, fun q hq => by cases hq⟩
  | k + 1, i, s, h, hp => by
    unfold qtsR
    split
    · exact ⟨h, fun q hq => by cases hq⟩
    · split
      · refine ⟨takes_ok _ h hp, fun q hq => ?_⟩
        injection hq with hq
        subst hq
        exact ⟨rfl, by simp, by simp only; omega⟩
      · obtain ⟨h1, h2⟩ := qtsR_okS k (i + 1) (takes_ok (xs := xs) [1, 1, 1, 1, 1, 1] h hp) (takes_pos _ _ hp)
        refine ⟨h1, fun q hq => ?_⟩
        obtain ⟨h3, h4, h5⟩ := h2 q hq
        exact ⟨h3, h4, by omega⟩
theorem rtsR_okS : ∀ (k : Nat) {s : RS}, OkS n s → s.p ≤ n → OkS n (rtsR xs n k s).2
  | 0, _, h, _ => h
  | k + 1, s, h, hp => by
    unfold rtsR
    split
    · exact h
    · exact rtsR_okS k (takes_ok _ h hp) (takes_pos _ _ hp)
def OkQ (n : Nat) (q : Int × Int) : Prop := q.1 ≠ 0 ∧ 0 ≤ q.1 ∧ q.1 ≤ 100 ∧ -1 ≤ q.2 ∧ q.2 ≤ (n : Int) + 1000
theorem rdT_okS (hx : ∀ x ∈ xs, 0 ≤ x ∧ x < 256) : OkS n (rdT xs n).s ∧ ∀ q, (rdT xs n).e = some q → OkQ n q := by
  have h0 : OkS n (tk xs n 4 ⟨0, none⟩).2 := tk_ok 4 (s := ⟨0, none⟩) (fun q hq => by cases hq) (Nat.zero_le _)
  have hp0 : (tk xs n 4 ⟨0, none⟩).2.p ≤ n := tk_pos (s := ⟨0, none⟩) rfl (Nat.zero_le _)
  unfold rdT
  split
  · refine ⟨h0, fun q hq => ?_⟩
    injection hq with hq
    subst hq
    exact ⟨by decide, by decide, by decide, by decide, by simp only; omega⟩
  · simp only
    have h1 : OkS n (takes xs n [1, 1, 4, 4, 4, 4, 4, 4, 1, 1, 1] (tk xs n 4 ⟨0, none⟩).2).2 := takes_ok _ h0 hp0
    have p1 : (takes xs n [1, 1, 4, 4, 4, 4, 4, 4, 1, 1, 1] (tk xs n 4 ⟨0, none⟩).2).2.p ≤ n := takes_pos _ _ hp0
    have b9 := takes_bd (n := n) hx [1, 1, 4, 4, 4, 4, 4, 4, 1, 1, 1] (tk xs n 4 ⟨0, none⟩).2 9
    generalize takes xs n [1, 1, 4, 4, 4, 4, 4, 4, 1, 1, 1] (tk xs n 4 ⟨0, none⟩).2 = H at h1 p1 b9 ⊢
    have b9' : H.1.getD 9 0 < 256 := b9
    have h2 := ptsR_okS (xs := xs) (H.1.getD 8 0) h1 p1
    have p2 := ptsR_pos (xs := xs) (H.1.getD 8 0) H.2 p1
    obtain ⟨h3, h4⟩ := qtsR_okS (xs := xs) (H.1.getD 9 0) 0 h2 p2
    have p3 := qtsR_pos (xs := xs) (H.1.getD 9 0) 0 _ p2
    split
    · refine ⟨h3, fun q hq => ?_⟩
      obtain ⟨e1, e2, e3⟩ := h4 q hq
      exact ⟨by rw [e1]; decide, by omega, by omega, by omega, by omega⟩
    · exact ⟨rtsR_okS _ h3 p3, fun q hq => by cases hq⟩
theorem rdE_ok (hx : ∀ x ∈ xs, 0 ≤ x ∧ x < 256) {q : Int × Int} (h : rdE n (rdT xs n) = some q) : OkQ n q := by
  obtain ⟨h1, h2⟩ := rdT_okS (n := n) hx
  have hp := rdT_pos (xs := xs) (n := n)
  unfold rdE at h
  split at h
  · rename_i q' hq
    injection h with h
    subst h
    exact h2 _ hq
  · split at h
    · rename_i q' hq
      injection h with h
      subst h
      unfold endE at hq
      split at hq
      · obtain ⟨e1, e2, e3⟩ := h1 _ hq
        exact ⟨by rw [e1]; decide, by omega, by omega, by omega, by omega⟩
      · split at hq
        · injection hq with hq
          subst hq
          refine ⟨by simp, by simp, by simp, by simp only; omega, by simp only; omega⟩
        · cases hq
    · obtain ⟨qc, qa⟩ := q
      obtain ⟨e1, e2, e3, e4, e5⟩ := tabE_some h
      exact ⟨e1, e2, e3, e4, by simp only; omega⟩
end
theorem ptsR_len {xs : List Int} {n : Nat} : ∀ (k : Nat) (s : RS), (ptsR xs n k s).1.length ≤ k
  | 0, _ => Nat.le_refl _
  | k + 1, s => by
    unfold ptsR
    split
    · exact Nat.zero_le _
    · exact Nat.succ_le_succ (ptsR_len k _)
theorem qtsR_len {xs : List Int} {n : Nat} : ∀ (k i : Nat) (s : RS), (qtsR xs n k i s).2.1.length ≤ k
  | 0, _, _ => Nat.le_refl _
  | k + 1, i, s => by
    unfold qtsR
    split
    · exact Nat.zero_le _
    · split
      · exact Nat.zero_le _
      · exact Nat.succ_le_succ (qtsR_len k _ _)
theorem rtsR_len {xs : List Int} {n : Nat} : ∀ (k : Nat) (s : RS), (rtsR xs n k s).1.length ≤ k
  | 0, _ => Nat.le_refl _
  | k + 1, s => by
    unfold rtsR
    split
    · exact Nat.zero_le _
    · exact Nat.succ_le_succ (rtsR_len k _)
theorem rdT_small {xs : List Int} {n : Nat} (hx : ∀ x ∈ xs, 0 ≤ x ∧ x < 256) : (rdT xs n).ps.length ≤ 1000 ∧ (rdT xs n).qs.length ≤ 1000 ∧ (rdT xs n).rs.length ≤ 1000 := by
  unfold rdT
  split
  · exact ⟨by simp, by simp, by simp⟩
  · simp only
    have hb := takes_bd (n := n) hx [1, 1, 4, 4, 4, 4, 4, 4, 1, 1, 1] (tk xs n 4 ⟨0, none⟩).2
    have b8 : _ < 256 := hb 8
    have b9 : _ < 256 := hb 9
    have b10 : _ < 256 := hb 10
    split
    · exact ⟨by simp, by simp, by simp⟩
    · refine ⟨Nat.le_trans (ptsR_len _ _) (by omega), Nat.le_trans (qtsR_len _ _ _) (by omega), Nat.le_trans (rtsR_len _ _) (by omega)⟩
theorem decE_ok {xs : List Int} (hx : ∀ x ∈ xs, 0 ≤ x ∧ x < 256) {q : Int × (Int × Int)} (h : decE xs = some q) : OkErr [(60, q.1), q.2] none := by
  have key : -1 ≤ q.1 ∧ q.1 ≤ 5000 ∧ OkQ 5000 q.2 := by
    unfold decE at h
    split at h
    · injection h with h
      subst h
      exact ⟨by decide, by decide, by decide, by decide, by decide, by decide, by decide⟩
    · rename_i hl
      split at h
      · injection h with h
        subst h
        exact ⟨by decide, by decide, by decide, by decide, by decide, by decide, by decide⟩
      · rcases hE : rdE (xs.length - 4) (decR xs) with _ | q'
        · rw [hE] at h
          cases h
        · rw [hE] at h
          injection h with h
          subst h
          have hp : (decR xs).s.p ≤ xs.length - 4 := rdT_pos
          obtain ⟨h1, h2, h3, h4, h5⟩ := rdE_ok (fun x hx' => hx x (List.mem_of_mem_take hx')) hE
          exact ⟨by simp only; omega, by simp only; omega, h1, h2, h3, h4, by simp only; omega⟩
  obtain ⟨h1, h2, h3, h4, h5, h6, h7⟩ := key
  refine ⟨show 2 ≤ 20 by decide, fun p hp => ?_, by simp⟩
  simp only [List.mem_cons, List.not_mem_nil, or_false] at hp
  rcases hp with rfl | rfl
  · exact ⟨by simp, by simp, by simp, h1, by simp only; omega⟩
  · exact ⟨h3, by omega, by omega, h6, by omega⟩
end Go.Proofs.Ytcamoldjljfbeaa
namespace Go.Proofs.Ytcamoldjljfbeaa
open Go.RowKit

theorem decR_small {xs : List Int} (hx : ∀ x ∈ xs, 0 ≤ x ∧ x < 256) : (decR xs).ps.length ≤ 1000 ∧ (decR xs).qs.length ≤ 1000 ∧ (decR xs).rs.length ≤ 1000 := rdT_small fun x h => hx x (List.mem_of_mem_take h)
set_option maxRecDepth 100000
set_option maxHeartbeats 8000000
theorem tableReads_walk (a0 : Option Addr) (len0 cap0 : Nat) (z0 : List Int) (w : World) (h0 : IsRow .u8 w a0 len0 cap0 z0) (_hlb : len0 * 1 ≤ 140737488351232) :
    Calls Try.prog 14 #[.slice a0 len0 cap0] w fun e w' => e = .returned (.bool true) ∧ Below w.heap.size w w' := by
  obtain ⟨xs, hl, hlc, _, hA, hwf⟩ := h0.open_
  have hx := Hidd.mk (wf8s hwf)
  have HBy := Hidd.mk (show Bytes xs from fun x h => ⟨(hx.out x h).1, by have := (hx.out x h).2; omega⟩)
  have HA := Hidd.mk hA
  have HL := Hidd.mk hl
  clear h0 hA hl hwf _hlb
  by_cases hb : 9000 < len0
  · have hd : decide ((9000 : Int) < (len0 : Int)) = true := by rw [decide_eq_true_eq]; omega
    go_enter Try.func14, Try.ntmps14
    go_wp2_with (go_at_call 27; refine (awake5_any _).mono ?_; rintro e w1 ⟨rfl, hb1⟩)
    go_ret
    exact ⟨rfl, hb1⟩
  · have hd : decide ((9000 : Int) < (len0 : Int)) = false := by rw [decide_eq_false_iff_not]; omega
    rcases hde : decE xs with _ | q
    · obtain ⟨hs1, hs2, hs3⟩ := decR_small hx.out
      have hok : Hidd (OkErr [] none) := ⟨by decide, by simp, by simp⟩
      replace hde := Hidd.mk hde
      obtain ⟨H0, hH0⟩ : ∃ H : Nat, (decR xs).h.getD 0 0 = H := ⟨_, rfl⟩
      replace hH0 := Hidd.mk hH0
      obtain ⟨H1, hH1⟩ : ∃ H : Nat, (decR xs).h.getD 1 0 = H := ⟨_, rfl⟩
      replace hH1 := Hidd.mk hH1
      obtain ⟨H2, hH2⟩ : ∃ H : Nat, (decR xs).h.getD 2 0 = H := ⟨_, rfl⟩
      replace hH2 := Hidd.mk hH2
      obtain ⟨H3, hH3⟩ : ∃ H : Nat, (decR xs).h.getD 3 0 = H := ⟨_, rfl⟩
      replace hH3 := Hidd.mk hH3
      obtain ⟨H4, hH4⟩ : ∃ H : Nat, (decR xs).h.getD 4 0 = H := ⟨_, rfl⟩
      replace hH4 := Hidd.mk hH4
      obtain ⟨H5, hH5⟩ : ∃ H : Nat, (decR xs).h.getD 5 0 = H := ⟨_, rfl⟩
      replace hH5 := Hidd.mk hH5
      obtain ⟨H6, hH6⟩ : ∃ H : Nat, (decR xs).h.getD 6 0 = H := ⟨_, rfl⟩
      replace hH6 := Hidd.mk hH6
      obtain ⟨H7, hH7⟩ : ∃ H : Nat, (decR xs).h.getD 7 0 = H := ⟨_, rfl⟩
      replace hH7 := Hidd.mk hH7
      go_enter Try.func14, Try.ntmps14
      go_wp2_with (first
        | (go_at_call 27; refine (awake5_any _).mono ?_; rintro e w1 ⟨rfl, hb1⟩; have ho1 := Hidd.mk ((Own.nil w (fun _ => False)).ext hb1); clear hb1)
        | (at_builtin; have hq := ho1.out; clear hq; refine appb rfl _ _ rfl (row_lit ho1.out 5 1 0 #[] [] rfl rfl (by decide)) 0 _ 0 0 [] rfl rfl a0 len0 cap0 xs rfl HL.out (HA.out.below ((ho1.out.alloc _).below (fun _ => id))) (by omega) ?_; intro A' c' w2 ho2; rw [Nat.zero_add, List.nil_append] at ho2; have hle := (row_le ho2 0 rfl).1; replace ho2 := Hidd.mk ho2; clear ho1)
        | (go_at_call 44; have hq := ho2.out; clear hq; refine (tabDec_any A' len0 c' xs _ (row_cells ho2.out 0 rfl) HBy.out HL.out hle (by omega)).mono ?_; rintro e w3 ⟨hE, hN⟩; obtain ⟨A1, c1, A2, c2, A3, c3, r, hR, e1, hn⟩ := hN hde.out; obtain rfl := hR; rw [hH0.out, hH1.out, hH2.out, hH3.out, hH4.out, hH5.out, hH6.out, hH7.out] at e1; subst e1; have ho3 := Hidd.mk (show Own w (fun _ => False) _ [_, _, _, _, _] from (ho2.out.madeL hn).alloc (.cells #[.int .i64 (H0 : Int), .int .i64 (H1 : Int), .int .i64 (H2 : Int), .int .i64 (H3 : Int), .int .i64 (H4 : Int), .int .i64 (H5 : Int), .int .i64 (H6 : Int), .int .i64 (H7 : Int), .slice A1 (decR xs).ps.length c1, .slice A2 (decR xs).qs.length c2, .slice A3 (decR xs).rs.length c3] 26)); clear hE hN hn ho2)
        | (go_at_call 45; have hq := ho3.out; clear hq; refine (refDec_any a0 len0 cap0 xs _ (HA.out.below (ho3.out.below fun _ => id)) HBy.out HL.out hlc (by omega)).mono ?_; rintro e w4 ⟨hE, hN⟩; obtain ⟨B1, d1, B2, d2, B3, d3, r, hR, e1, hn⟩ := hN hde.out; obtain rfl := hR; rw [hH0.out, hH1.out, hH2.out, hH3.out, hH4.out, hH5.out, hH6.out, hH7.out] at e1; subst e1; have ho4 := Hidd.mk (show Own w (fun _ => False) _ [_, _, _, _, _, _, _, _, _] from (ho3.out.madeL hn).alloc (.cells #[.int .i64 (H0 : Int), .int .i64 (H1 : Int), .int .i64 (H2 : Int), .int .i64 (H3 : Int), .int .i64 (H4 : Int), .int .i64 (H5 : Int), .int .i64 (H6 : Int), .int .i64 (H7 : Int), .slice B1 (decR xs).ps.length d1, .slice B2 (decR xs).qs.length d2, .slice B3 (decR xs).rs.length d3] 26)); clear hE hN hn ho3; obtain ⟨y0, y1, y2, y3, y4, y5, y6, y7, y8, y9, yA⟩ := cells11 ho4.out 0 rfl; obtain ⟨z0, z1, z2, z3, z4, z5, z6, z7, z8, z9, zA⟩ := cells11 ho4.out 4 rfl)
        | (go_at_call 33; have hq := ho4.out; clear hq; refine (sameT_any _ _ _ _ _ _ _ _ A1 _ c1 A2 _ c2 A3 _ c3 B1 d1 B2 d2 B3 d3 (decR xs).ps (decR xs).qs (decR xs).rs _ ⟨rfl, row_cells ho4.out 7 rfl⟩ ⟨rfl, row_cells ho4.out 6 rfl⟩ ⟨rfl, row_cells ho4.out 5 rfl⟩ ⟨rfl, row_cells ho4.out 3 rfl⟩ ⟨rfl, row_cells ho4.out 2 rfl⟩ ⟨rfl, row_cells ho4.out 1 rfl⟩ hs1 hs2 hs3).mono ?_; rintro e w5 ⟨rfl, hb⟩; have ho5 := Hidd.mk (ho4.out.ext hb); clear hb ho4)
        | (go_at_call 20; have hq := ho5.out; clear hq; refine (read_any [] none .nilIface _ rfl hok.out).mono ?_; rintro e w6 ⟨rfl, hb⟩; rw [show errB [] none = ⟨#[]⟩ from rfl]; have ho6 := Hidd.mk (ho5.out.ext hb); clear hb ho5))
      go_ret
      exact ⟨by first | rfl | simp, ho6.out.below fun _ => id⟩
    · have hok := Hidd.mk (decE_ok hx.out hde)
      replace hde := Hidd.mk hde
      obtain ⟨EB, hEB⟩ : ∃ T, errB [(60, q.1), q.2] none = T := ⟨_, rfl⟩
      replace hEB := Hidd.mk hEB
      go_enter Try.func14, Try.ntmps14
      go_wp2_with (first
        | (go_at_call 27; refine (awake5_any _).mono ?_; rintro e w1 ⟨rfl, hb1⟩; have ho1 := Hidd.mk ((Own.nil w (fun _ => False)).ext hb1); clear hb1)
        | (at_builtin; have hq := ho1.out; clear hq; refine appb rfl _ _ rfl (row_lit ho1.out 5 1 0 #[] [] rfl rfl (by decide)) 0 _ 0 0 [] rfl rfl a0 len0 cap0 xs rfl HL.out (HA.out.below ((ho1.out.alloc _).below (fun _ => id))) (by omega) ?_; intro A' c' w2 ho2; rw [Nat.zero_add, List.nil_append] at ho2; have hle := (row_le ho2 0 rfl).1; replace ho2 := Hidd.mk ho2; clear ho1)
        | (go_at_call 44; have hq := ho2.out; clear hq; refine (tabDec_any A' len0 c' xs _ (row_cells ho2.out 0 rfl) HBy.out HL.out hle (by omega)).mono ?_; rintro e w3 ⟨hE, hN⟩; obtain ⟨v, rfl, hv, hb⟩ := hE _ hde.out; have ho3 := Hidd.mk ((ho2.out.ext hb).alloc (.cells #[.int .i64 0, .int .i64 0, .int .i64 0, .int .i64 0, .int .i64 0, .int .i64 0, .int .i64 0, .int .i64 0, .slice none 0 0, .slice none 0 0, .slice none 0 0] 26)); have hv3 := Hidd.mk (hv.below (below_alloc (Below.refl _ _) (.cells #[.int .i64 0, .int .i64 0, .int .i64 0, .int .i64 0, .int .i64 0, .int .i64 0, .int .i64 0, .int .i64 0, .slice none 0 0, .slice none 0 0, .slice none 0 0] 26))); clear hE hN hb hv ho2)
        | (go_at_call 45; have hq := ho3.out; clear hq; refine (refDec_any a0 len0 cap0 xs _ (HA.out.below (ho3.out.below fun _ => id)) HBy.out HL.out hlc (by omega)).mono ?_; rintro e w4 ⟨hE, hN⟩; obtain ⟨rfl, hb⟩ := hE _ hde.out; have ho4 := Hidd.mk ((ho3.out.ext hb).alloc (.cells #[.int .i64 0, .int .i64 0, .int .i64 0, .int .i64 0, .int .i64 0, .int .i64 0, .int .i64 0, .int .i64 0, .slice none 0 0, .slice none 0 0, .slice none 0 0] 26)); have hv4 := Hidd.mk ((hv3.out.below hb).below (below_alloc (Below.refl _ _) (.cells #[.int .i64 0, .int .i64 0, .int .i64 0, .int .i64 0, .int .i64 0, .int .i64 0, .int .i64 0, .int .i64 0, .slice none 0 0, .slice none 0 0, .slice none 0 0] 26))); clear hE hN hb hv3 ho3; rw [show (atB 60 q.1 ++ ⟨#[62]⟩ ++ atB q.2.1 q.2.2 : ByteArray) = EB from by rw [← hEB.out, errB_two]]; obtain ⟨y0, y1, y2, y3, y4, y5, y6, y7, y8, y9, yA⟩ := cells11 ho4.out 0 rfl; obtain ⟨z0, z1, z2, z3, z4, z5, z6, z7, z8, z9, zA⟩ := cells11 ho4.out 1 rfl)
        | (go_at_call 33; have hq := ho4.out; clear hq; refine (sameT_any 0 0 0 0 0 0 0 0 none 0 0 none 0 0 none 0 0 none 0 none 0 none 0 [] [] [] _ ⟨rfl, Cells.nil _ _⟩ ⟨rfl, Cells.nil _ _⟩ ⟨rfl, Cells.nil _ _⟩ ⟨rfl, Cells.nil _ _⟩ ⟨rfl, Cells.nil _ _⟩ ⟨rfl, Cells.nil _ _⟩ (by decide) (by decide) (by decide)).mono ?_; rintro e w5 ⟨rfl, hb⟩; have ho5 := Hidd.mk (ho4.out.ext hb); have hv5 := Hidd.mk (hv4.out.below hb); clear hb ho4 hv4)
        | (go_at_call 20; have hq := ho5.out; clear hq; refine (read_any [(60, q.1), q.2] none _ _ hv5.out hok.out).mono ?_; rintro e w6 ⟨rfl, hb⟩; rw [hEB.out]; have ho6 := Hidd.mk (ho5.out.ext hb); clear hb ho5 hv5))
      go_ret
      exact ⟨by first | rfl | simp, ho6.out.below fun _ => id⟩
end Go.Proofs.Ytcamoldjljfbeaa
