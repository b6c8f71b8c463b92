/- WireTakes walked. -/
import Derived.Test.YtmbbfcpoiecfhaaWirQ
import Derived.Test.YtmbbfcpoiecfhaaWirL
namespace Go.Proofs.Ytmbbfcpoiecfhaa
open Go.RowKit

theorem takeR_pos {xs : List Int} {n p : Nat} {er : Option (Int × Int)} {size : Int} {v p' : Nat} {er' : Option (Int × Int)} (h : takeR xs n p er size = (v, p', er')) (hp : p ≤ n) : p' ≤ n ∧ ∀ q ∈ er', q ∈ er ∨ q = (4, (p : Int)) := by
  unfold takeR at h
  split at h
  · injection h with h1 h
    injection h with h2 h3
    subst h2 h3
    exact ⟨hp, fun q hq => .inl hq⟩
  · split at h
    · rename_i hm
      injection h with h1 h
      injection h with h2 h3
      subst h2 h3
      unfold moreB at hm
      simp at hm
      exact ⟨by omega, fun q hq => .inl hq⟩
    · injection h with h1 h
      injection h with h2 h3
      subst h2 h3
      refine ⟨hp, fun q hq => ?_⟩
      unfold moreE at hq
      split at hq
      · exact .inl hq
      · split at hq
        · right; cases hq; rfl
        · cases hq
theorem moreE_err {n p : Nat} {er : Option (Int × Int)} {m : Int} : ∀ q ∈ moreE n p er m, q ∈ er ∨ q = (4, (p : Int)) := by
  intro q hq
  unfold moreE at hq
  split at hq
  · exact .inl hq
  · split at hq
    · right; cases hq; rfl
    · cases hq
theorem textR_pos {xs ys : List Int} {n p : Nat} {er : Option (Int × Int)} {p' : Nat} {er' : Option (Int × Int)} (h : textR xs n p er = (ys, p', er')) (hp : p ≤ n) (hx : ∀ x ∈ xs, 0 ≤ x ∧ x < 256) : p' ≤ n ∧ ∀ q ∈ er', q ∈ er ∨ q = (4, (p : Int)) := by
  unfold textR at h
  split at h
  · split at h
    · rename_i hm
      injection h with h1 h
      injection h with h2 h3
      subst h2 h3
      unfold moreB at hm
      simp only [Bool.and_eq_true, decide_eq_true_eq] at hm
      have : 0 ≤ xs.getD p 0 := by
        rw [List.getD_eq_getElem?_getD]
        rcases hq : xs[p]? with _ | y
        · simp
        · exact (hx y (List.mem_of_getElem? hq)).1
      exact ⟨by omega, fun q hq => .inl hq⟩
    · injection h with h1 h
      injection h with h2 h3
      subst h2 h3
      exact ⟨hp, moreE_err⟩
  · injection h with h1 h
    injection h with h2 h3
    subst h2 h3
    exact ⟨hp, moreE_err⟩
theorem errB_erS (er : Option (Int × Int)) : errB (erL er) none = erS er := by
  rcases er with _ | ⟨c, a⟩
  · rfl
  · exact errB_one c a
theorem endE_pos {n p : Nat} {er : Option (Int × Int)} : ∀ q ∈ endE n p er, q ∈ er ∨ q = (5, (p : Int)) := by
  intro q hq
  unfold endE at hq
  split at hq
  · exact .inl hq
  · split at hq
    · right; cases hq; rfl
    · cases hq
def OkE (n : Nat) (er : Option (Int × Int)) : Prop := ∀ q ∈ er, 0 < q.1 ∧ q.1 ≤ 1000 ∧ 0 ≤ q.2 ∧ q.2 ≤ (n : Int)
theorem OkE.of {n p : Nat} {er er' : Option (Int × Int)} {c : Int} (h : OkE n er) (hp : p ≤ n) (hc : 0 < c ∧ c ≤ 1000) (h' : ∀ q ∈ er', q ∈ er ∨ q = (c, (p : Int))) : OkE n er' := fun q hq => by
  rcases h' q hq with h1 | rfl
  · exact h q h1
  · exact ⟨hc.1, hc.2, by show (0 : Int) ≤ p; omega, by show (p : Int) ≤ n; omega⟩

set_option maxRecDepth 100000 in
set_option maxHeartbeats 4000000 in
theorem wireTakes_walk (a0 : Option Addr) (len0 cap0 : Nat) (z0 : List Int) (a1 : Option Addr) (len1 cap1 : Nat) (z1 : List (List Value)) (w : World) (h0 : IsRow .u8 w a0 len0 cap0 z0) (hlb : len0 * 1 ≤ 140737488351232)
    (h1 : Rows' w 48 [.int .i64, .int .i64, .int .u32, .sl 1 [.int .u8]] a1 len1 cap1 z1) :
    Calls Try.prog 5 #[.slice a0 len0 cap0, .slice a1 len1 cap1] w fun e w' => e = .returned (.bool true) ∧ Below w.heap.size w w' := by
  obtain ⟨xs, hl, hlc, _, hA, hwf⟩ := h0.open_
  obtain ⟨es, hel, hes⟩ := wacts_of h1
  have hx := Hidd.mk (wf8s hwf)
  have HA := Hidd.mk hA
  have HL := Hidd.mk hl
  replace hes := Hidd.mk hes
  replace hel := Hidd.mk hel
  have hlen1 : len1 ≤ 1000000000000000000 := by have := h1.wt; unfold reachBytes at this; omega
  clear h0 h1 hA hl hwf hlb
  by_cases hb : 5000 < len0
  · have hd : decide ((5000 : Int) < (len0 : Int)) = true := by rw [decide_eq_true_eq]; omega
    go_enter Try.func5, Try.ntmps5
    go_wp2_with (go_at_call 14; refine (awake_any _).mono ?_; rintro e w1 ⟨rfl, hb1⟩)
    go_ret
    exact ⟨rfl, hb1⟩
  · have hd : decide ((5000 : Int) < (len0 : Int)) = false := by rw [decide_eq_false_iff_not]; omega
    go_enter Try.func5, Try.ntmps5
    go_wp2_with (first
      | (go_at_call 14; refine (awake_any _).mono ?_; rintro e w1 ⟨rfl, hb1⟩; have ho1 := Hidd.mk ((Own.nil w (fun _ => False)).ext hb1); clear hb1)
      | (at_builtin; refine appb rfl _ _ rfl (row_lit ho1.out 5 1 0 #[] [] rfl rfl (by decide)) 0 _ 0 0 [] rfl rfl a0 len0 cap0 xs rfl HL.out (HA.out.below ((ho1.out.alloc _).below (fun _ => id))) (by omega) ?_; intro A2 c2 w2 ho2; rw [Nat.zero_add, List.nil_append] at ho2; replace ho2 := Hidd.mk ho2; clear ho1)
      | (go_at_call 20; refine (read_own _ _ _ _ _ (row_cells ho2.out 0 rfl) HL.out (by omega)).mono ?_; rintro e w3 ⟨b, A, cap, rfl, hn3⟩; have ho3 := Hidd.mk (ho2.out.made hn3); clear hn3 ho2))
    clear hd
    have hnf : len0 ≤ 1000000000 := by omega
    have ho4 := Hidd.mk (show Own w (fun _ => False) (w3.alloc (.cells #[.slice a0 len0 cap0, .int .i64 0, .string ⟨#[]⟩] 45)) [rref w3.heap.size a0 len0 cap0 0 none, rdr b A len0 cap xs 0 none .nilIface] from (ho3.out.alloc _).sub (.cons_cons _ (.cons_cons _ (List.nil_sublist _))))
    clear ho3
    generalize w3.heap.size = br at ho4 ⊢
    obtain ⟨m, hm⟩ : ∃ m, min len1 100 = m := ⟨_, rfl⟩
    have hm1 : m ≤ len1 := by omega
    have hm2 : m ≤ 100 := by omega
    have hm3 : m = len1 ∨ m = 100 := by omega
    clear hm
    go_loopw [7] (fun v7 wr => ∃ (i p : Nat) (er : Option (Int × Int)) (ev : Value), v7 = .int .i64 i ∧ i ≤ m ∧ p ≤ len0 ∧ Hidd (OkE len0 er) ∧ Hidd (Own w (fun _ => False) wr [rref br a0 len0 cap0 p er, rdr b A len0 cap xs p er ev])) (fun v7 _ => m - (intOf v7).toNat)
    case atStart => exact ⟨0, 0, none, _, rfl, by omega, by omega, ⟨fun q hq => by cases hq⟩, ho4⟩
    case round =>
      clear ho4
      obtain ⟨i, p, er, ev, rfl, hi, hp, hok, ho⟩ := hrel
      by_cases hlt : i < m
      · obtain ⟨e, he⟩ : ∃ e, es[i]? = some e := ⟨_, List.getElem?_eq_getElem (by rw [hel.out]; omega)⟩
        have h1 : i < len1 := by omega
        have h2 : i < 100 := by omega
        obtain ⟨⟨ad, rfl, x0, x1, _, _⟩, p1, _⟩ := hes.out i e he
        obtain ⟨kd, sz, v, D, dl, dc, data⟩ := e
        simp only at x0 x1 p1
        have hsz := wf64 p1
        have hx1 := Hidd.mk x1
        have hx1l := World.block_lt_of_cell? w _ x1
        have hwr := ho.out.below (fun _ => id)
        replace x0 := wkeep hwr x0
        replace x1 := wkeep hwr x1
        clear hwr he p1
        have bi0 : (0 : Int) ≤ (i : Int) := by omega
        have bi1 : (i : Int) < (len1 : Int) := by omega
        by_cases hk : kd = 1
        case' pos =>
          subst hk
          obtain ⟨⟨ys, p', er'⟩, htr⟩ : ∃ r, textR xs len0 p er = r := ⟨_, rfl⟩
          have hpq := textR_pos htr hp hx.out
          replace htr := Hidd.mk htr
          go_wp2
          obtain ⟨W0, hW0⟩ : ∃ zz, zz = World.drew wr := ⟨_, rfl⟩
          refine wp_region_flow [([0, 3], some (1, [true])), ([2], some (4, [true, false])), ([5, 6], none)] (by kernel_rfl) (by kernel_rfl) ?_
          rw [show ({ wr with drawn := wr.drawn + 1 } : World) = W0 from hW0.symm]
          replace hW0 := Hidd.mk hW0
          simp only [opsF, List.map_cons, List.map_nil, List.getD_cons_succ, List.getD_cons_zero, Option.map_some, Option.map_none]
          have ho2 := Hidd.mk (show Own w (fun _ => False) W0 [rref br a0 len0 cap0 p er, rdr b A len0 cap xs p er ev] by rw [hW0.out]; exact ho.out.drew)
          clear hW0 ho x0 x1
          refine FlW.stage (fun _ => True) trivial ?_
          repeat (first | (refine StQ.skip (by rfl) ?_; simp only [Act.put, List.setIfInBounds_toArray, List.set_cons_zero, List.set_cons_succ]) | (refine StQ.go' (by rfl) (Exists.intro ?_ (And.intro (fun w' hS => ?_) ?_)); rotate_left; (focus (skip; go_simp; try with_reducible rfl)); simp only [Act.put, List.setIfInBounds_toArray, List.set_cons_zero, List.set_cons_succ]))
          refine StQ.nil ?_
          refine FlO.go (by rfl) (fun K hK => ?_)
          go_simp
          (refine (rtext_own 1 ho2.out rfl hp hnf hx.out _ _ _ htr.out).mono ?_; rintro e w4 ⟨A2, c2, rfl, ev2, ho3⟩; replace ho3 := Hidd.mk (show Own w (fun _ => False) w4 [wres 5 1 A2 ys.length c2 (nums .u8 ys), rref br a0 len0 cap0 p er, rdr b A len0 cap xs p' er' ev2] from ho3))
          refine hK.out _ _ (.inr ⟨trivial, trivial⟩) ?_
          clear hK K
          have hz : Hidd (∀ W', Kept (rref br a0 len0 cap0 p er).foot w4 W' → (convert 24 9 (.slice A2 ys.length c2)).run Try.prog W' = .ok (.string (strOfNums ys)) W') := ⟨fun W' hS => conv_at ((show WIn w4 5 1 A2 _ c2 (nums .u8 ys) from ho3.out.get 0 rfl).cells.kept hS (fun ad h hf => by (subst h; exact ho3.out.apart 0 1 rfl rfl (by decide) _ rfl hf))) rfl⟩
          refine FlW.stage (fun zz => Kept (rref br a0 len0 cap0 p er).foot w4 zz) (Kept.refl _ _) ?_
          repeat (first | (refine StQ.skip (by rfl) ?_; simp only [Act.put, List.setIfInBounds_toArray, List.set_cons_zero, List.set_cons_succ]) | (refine StQ.go' (by rfl) (Exists.intro ?_ (And.intro (fun w' hS => ?_) ?_)); rotate_left; (focus (have zc := hz.out _ hS; go_simp; try with_reducible rfl)); simp only [Act.put, List.setIfInBounds_toArray, List.set_cons_zero, List.set_cons_succ]))
          refine StQ.nil ?_
          refine FlO.go (by rfl) (fun K hK => ?_)
          go_simp
          (refine (rxtext_own 0 (Own.one (ho3.out.get 1 rfl)) rfl (HA.out.below (ho3.out.below fun _ => id)) HL.out hlc hp hnf hx.out _ _ _ htr.out).mono ?_; rintro e w5 ⟨A4, c4, rfl, hn5⟩; have ho5 := Hidd.mk (show Own w (fun _ => False) w5 [rref br a0 len0 cap0 p' er', rdr b A len0 cap xs p' er' ev2] from (ho3.out.frame 1 rfl hn5).sub (.cons _ (.cons_cons _ (.cons _ (.cons_cons _ (List.nil_sublist _)))))))
          refine hK.out _ _ (.inr ⟨hn5.kept, trivial⟩) ?_
          clear hK K
          have hcv := conv_at (c := c4) (row_cells hn5 0 rfl) rfl
          clear ho2 ho3 hz hn5
          refine FlW.heads (fun zz => zz = _) rfl ?_
          repeat (first | (refine StQ.skip (by rfl) ?_; simp only [Act.put, List.setIfInBounds_toArray, List.set_cons_zero, List.set_cons_succ]) | (refine StQ.go' (by rfl) (Exists.intro ?_ (And.intro (fun w' hS => ?_) ?_)); rotate_left; (focus (rw [hS]; go_simp; try with_reducible rfl)); simp only [Act.put, List.setIfInBounds_toArray, List.set_cons_zero, List.set_cons_succ]))
          refine StQ.nil ?_
          refine FlW.nil (Calm.normal ?_)
          clear hcv
        case' neg =>
          have hk1 : (kd == 1) = false := by rw [beq_eq_false_iff_ne]; exact hk
          clear hk
          obtain ⟨⟨v1, p', er'⟩, htr⟩ : ∃ r, takeR xs len0 p er sz = r := ⟨_, rfl⟩
          have hpq := takeR_pos htr hp
          replace htr := Hidd.mk htr
          go_wp2
          obtain ⟨W0, hW0⟩ : ∃ zz, zz = World.drew wr := ⟨_, rfl⟩
          refine wp_region_flow [([0, 1, 2, 7, 8, 9, 3, 10, 4, 11, 5, 12], some (6, [true])), ([], some (13, [false, false])), ([14], none)] (by kernel_rfl) (by kernel_rfl) ?_
          rw [show ({ wr with drawn := wr.drawn + 1 } : World) = W0 from hW0.symm]
          replace hW0 := Hidd.mk hW0
          simp only [opsF, List.map_cons, List.map_nil, List.getD_cons_succ, List.getD_cons_zero, Option.map_some, Option.map_none]
          have ho2 := Hidd.mk (show Own w (fun _ => False) W0 [rref br a0 len0 cap0 p er, rdr b A len0 cap xs p er ev] by rw [hW0.out]; exact ho.out.drew)
          have hz : Hidd (∀ W', Kept (rdr b A len0 cap xs p er ev).foot W0 W' → W'.cell? ⟨(ad.add (i * 4)).block, (ad.add (i * 4)).off + 1, none⟩ = some (.int .i64 sz)) := ⟨fun W' hS => by
            have hb := ho2.out.below fun _ => id
            rw [hS.cellAt ⟨(ad.add (i * 4)).block, (ad.add (i * 4)).off + 1, none⟩ (Nat.lt_of_lt_of_le hx1l hb.size) (fun hf => by
              rcases ho2.out.own _ (List.mem_cons_of_mem _ List.mem_cons_self) _ hf with h | h
              · exact h
              · exact absurd hx1l (Nat.not_lt.2 h))]
            exact wkeep hb hx1.out⟩
          clear hW0 ho x0 x1
          refine FlW.stage (fun zz => Kept (rdr b A len0 cap xs p er ev).foot W0 zz) (Kept.refl _ _) ?_
          repeat (first | (refine StQ.skip (by rfl) ?_; simp only [Act.put, List.setIfInBounds_toArray, List.set_cons_zero, List.set_cons_succ]) | (refine StQ.go' (by rfl) (Exists.intro ?_ (And.intro (fun w' hS => ?_) ?_)); rotate_left; (focus (have zc := hz.out _ hS; go_simp; try with_reducible rfl)); simp only [Act.put, List.setIfInBounds_toArray, List.set_cons_zero, List.set_cons_succ]))
          refine StQ.nil ?_
          refine FlO.go (by rfl) (fun K hK => ?_)
          go_simp
          (refine (take_own 0 (Own.one (ho2.out.get 1 rfl)) rfl hp hnf hx.out _ _ _ _ htr.out).mono ?_; rintro e w4 ⟨rfl, ev2, hn4⟩; have ho3 := Hidd.mk (show Own w (fun _ => False) w4 [rdr b A len0 cap xs p' er' ev2, rref br a0 len0 cap0 p er] from ho2.out.frame 1 rfl hn4))
          refine hK.out _ _ (.inr ⟨hn4.kept, trivial⟩) ?_
          clear hK K
          refine FlW.stage (fun _ => True) trivial (StQ.nil ?_)
          refine FlO.go (by rfl) (fun K hK => ?_)
          go_simp
          (refine (rtake_own 1 ho3.out rfl (HA.out.below (ho3.out.below fun _ => id)) HL.out hp hnf hx.out _ hsz.1 hsz.2 _ _ _ htr.out).mono ?_; rintro e w5 ⟨rfl, ho5⟩; replace ho5 := Hidd.mk (show Own w (fun _ => False) w5 [rref br a0 len0 cap0 p' er', rdr b A len0 cap xs p' er' ev2] from ho5.perm (List.Perm.swap _ _ _)))
          refine hK.out _ _ (.inr trivial) ?_
          clear hK K
          clear ho2 ho3 hz hn4
          refine FlW.heads (fun zz => zz = _) rfl ?_
          repeat (first | (refine StQ.skip (by rfl) ?_; simp only [Act.put, List.setIfInBounds_toArray, List.set_cons_zero, List.set_cons_succ]) | (refine StQ.go' (by rfl) (Exists.intro ?_ (And.intro (fun w' hS => ?_) ?_)); rotate_left; (focus (rw [hS]; go_simp; try with_reducible rfl)); simp only [Act.put, List.setIfInBounds_toArray, List.set_cons_zero, List.set_cons_succ]))
          refine StQ.nil ?_
          refine FlW.nil (Calm.normal ?_)
        all_goals
          obtain ⟨hp', her'⟩ := hpq
          have hok2 := Hidd.mk (hok.out.of hp ⟨by decide, by decide⟩ her')
          clear her' hok htr
          have hE := Hidd.mk (show IsE w5 er' ev2 from (show RdIn w5 b A len0 cap xs p' er' ev2 from ho5.out.get 1 rfl).he)
          have hrs := errB_erS er'
          obtain ⟨er2, hee⟩ : ∃ z, endE len0 p' er' = z := ⟨_, rfl⟩
          have hok3 : Hidd (OkE len0 er2) := ⟨hok2.out.of (c := 5) hp' ⟨by decide, by decide⟩ (by rw [← hee]; exact endE_pos)⟩
          have hrs2 := errB_erS er2
          replace hee := Hidd.mk hee
          have hq : Hidd (∀ er, OkE len0 er → ∀ q ∈ er, 0 < q.1 ∧ q.1 ≤ 1000 ∧ 0 ≤ q.2 ∧ q.2 ≤ 1000000000) := ⟨fun er h q hq => by have := h q hq; omega⟩
          go_wp2
          obtain ⟨W1, hW1⟩ : ∃ zz, zz = World.drew w5 := ⟨_, rfl⟩
          refine wp_region_flow [([0, 2, 3, 4, 5], some (1, [true])), ([6, 7, 8, 11, 12, 13, 14], some (9, [true, false])), ([], some (10, [false, true, false])), ([15, 16, 17, 18, 21], some (19, [true, false, false, false])), ([], some (20, [false, true, false, false, false])), ([], some (22, [false, false, false, false, false, false])), ([23, 24], none)] (by kernel_rfl) (by kernel_rfl) ?_
          rw [show ({ w5 with drawn := w5.drawn + 1 } : World) = W1 from hW1.symm]
          replace hW1 := Hidd.mk hW1
          simp only [opsF, List.map_cons, List.map_nil, List.getD_cons_succ, List.getD_cons_zero, Option.map_some, Option.map_none]
          have ho6 := Hidd.mk (show Own w (fun _ => False) W1 [rref br a0 len0 cap0 p' er', rdr b A len0 cap xs p' er' ev2] by rw [hW1.out]; exact ho5.out.drew)
          have hE1 := Hidd.mk (show IsE W1 er' ev2 from (show RdIn W1 b A len0 cap xs p' er' ev2 from ho6.out.get 1 rfl).he)
          clear hW1 ho5 hE
          obtain ⟨c0, c1, c2⟩ := rref_at 0 ho6.out rfl
          have hbl := ho6.out.lt 0 (show [rref br a0 len0 cap0 p' er', rdr b A len0 cap xs p' er' ev2][0]? = some (blk br _) from rfl)
          refine FlW.stage (fun zz => Kept (fun _ => False) W1 zz) (Kept.refl _ _) ?_
          repeat (first | (refine StQ.skip (by rfl) ?_; simp only [Act.put, List.setIfInBounds_toArray, List.set_cons_zero, List.set_cons_succ]) | (refine StQ.go' (by rfl) (Exists.intro ?_ (And.intro (fun w' hS => ?_) ?_)); rotate_left; (focus (have hc := Kept.cell0 hS; go_simp; try with_reducible rfl)); simp only [Act.put, List.setIfInBounds_toArray, List.set_cons_zero, List.set_cons_succ]))
          refine StQ.nil ?_
          refine FlO.go (by rfl) (fun K hK => ?_)
          go_simp
          (refine (at_own 1 ho6.out rfl).mono ?_; rintro e w6 ⟨rfl, rfl⟩)
          refine hK.out _ _ (.inl rfl) ?_
          clear hK K
          refine FlW.stage (fun zz => Kept (fun _ => False) W1 zz) (Kept.refl _ _) ?_
          repeat (first | (refine StQ.skip (by rfl) ?_; simp only [Act.put, List.setIfInBounds_toArray, List.set_cons_zero, List.set_cons_succ]) | (refine StQ.go' (by rfl) (Exists.intro ?_ (And.intro (fun w' hS => ?_) ?_)); rotate_left; (focus (have hc := Kept.cell0 hS; go_simp; try with_reducible rfl)); simp only [Act.put, List.setIfInBounds_toArray, List.set_cons_zero, List.set_cons_succ]))
          refine StQ.nil ?_
          refine FlO.go (by rfl) (fun K hK => ?_)
          go_simp
          (refine (err_own 1 ho6.out rfl).mono ?_; rintro e w6 ⟨rfl, rfl⟩)
          refine hK.out _ _ (.inl rfl) ?_
          clear hK K
          refine FlW.stage (fun _ => True) trivial (StQ.nil ?_)
          refine FlO.go (by rfl) (fun K hK => ?_)
          go_simp
          (refine (read_e er' _ _ hE1.out (hq.out _ hok2.out)).mono ?_; rintro e w6 ⟨rfl, hb6⟩; rw [hrs]; have ho7 := Hidd.mk (ho6.out.ext hb6))
          refine hK.out _ _ (.inr ⟨Kept.below hb6, trivial⟩) ?_
          clear hK K
          refine FlW.stage (fun _ => True) trivial ?_
          repeat (first | (refine StQ.skip (by rfl) ?_; simp only [Act.put, List.setIfInBounds_toArray, List.set_cons_zero, List.set_cons_succ]) | (refine StQ.go' (by rfl) (Exists.intro ?_ (And.intro (fun w' hS => ?_) ?_)); rotate_left; (focus (skip; go_simp; try with_reducible rfl)); simp only [Act.put, List.setIfInBounds_toArray, List.set_cons_zero, List.set_cons_succ]))
          refine StQ.nil ?_
          clear c0 c1 c2 hb6 ho6 hE1
          refine FlO.go (by rfl) (fun K hK => ?_)
          go_simp
          (refine (end_own 1 ho7.out rfl _ hee.out).mono ?_; rintro e w8 ⟨v8, rfl, he8, ho8⟩; replace he8 := Hidd.mk he8; replace ho8 := Hidd.mk ho8)
          refine hK.out _ _ (.inr ⟨trivial, trivial⟩) ?_
          clear hK K
          refine FlW.stage (fun _ => True) trivial (StQ.nil ?_)
          refine FlO.go (by rfl) (fun K hK => ?_)
          go_simp
          (refine (read_e er2 _ _ he8.out (hq.out _ hok3.out)).mono ?_; rintro e w9 ⟨rfl, hb9⟩; rw [hrs2]; have ho9 := Hidd.mk (ho8.out.ext hb9))
          refine hK.out _ _ (.inr ⟨trivial, trivial⟩) ?_
          clear hK K
          refine FlW.stage (fun _ => True) trivial (StQ.nil ?_)
          refine FlO.go (by rfl) (fun K hK => ?_)
          go_simp
          (refine (rxend_own 0 ho9.out rfl hnf _ hee.out).mono ?_; rintro e w10 ⟨rfl, hn10⟩; have ho10 := Hidd.mk (ho9.out.ext (hn10.below fun _ => id)))
          refine hK.out _ _ (.inr trivial) ?_
          clear hK K
          clear ho7 ho8 ho9 he8 hb9 hn10
          refine FlW.heads (fun zz => zz = _) rfl ?_
          repeat (first | (refine StQ.skip (by rfl) ?_; simp only [Act.put, List.setIfInBounds_toArray, List.set_cons_zero, List.set_cons_succ]) | (refine StQ.go' (by rfl) (Exists.intro ?_ (And.intro (fun w' hS => ?_) ?_)); rotate_left; (focus (rw [hS]; go_simp; try with_reducible rfl)); simp only [Act.put, List.setIfInBounds_toArray, List.set_cons_zero, List.set_cons_succ]))
          refine StQ.nil ?_
          refine FlW.nil (Calm.normal ?_)
          go_wp2
          go_roundw
          case rel => exact ⟨i + 1, p', er', ev2, by go_num, by omega, hp', hok2, ho10⟩
          case measure => (simp [intOf]; try omega)
      · obtain rfl : i = m := by omega
        have hm4 : (¬ i < len1) ∨ (i < len1 ∧ decide ((i : Int) < 100) = false) := by
          by_cases h2 : i < len1
          · exact .inr ⟨h2, by rw [decide_eq_false_iff_not]; omega⟩
          · exact .inl h2
        clear hm3 hlt
        rcases hm4 with hd1 | ⟨hd1, hd2⟩
        all_goals
          go_wp2
          go_ret
          exact ⟨rfl, ho.out.below fun _ => id⟩
end Go.Proofs.Ytmbbfcpoiecfhaa
