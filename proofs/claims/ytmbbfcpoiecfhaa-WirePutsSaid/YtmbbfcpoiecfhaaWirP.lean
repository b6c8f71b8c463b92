/- WirePuts walked. -/
import Derived.Test.YtmbbfcpoiecfhaaWirN
import Derived.Test.YtmbbfcpoiecfhaaWirK
namespace Go.Proofs.Ytmbbfcpoiecfhaa
open Go.RowKit

set_option maxRecDepth 100000 in
theorem bytes_new {w : World} {b : Nat} {A : Option Addr} {n cap : Nat} {xs : List Int} (hW : WrIn w b A n cap xs) (hn : n ≤ 1000000) :
    Calls Try.prog 19 #[.pointer (some ⟨b, 0, none⟩)] w fun e w' => ∃ A' cap', e = .returned (.slice A' n cap') ∧ Own w (fun _ => False) w' [row 5 1 (.slice A' n cap') n (nums .u8 xs)] := by
  have c0 := hW.open_.cell 0 rfl 0
  have hbs := hW.open_.lt 0 rfl
  simp at c0
  have hcs := Hidd.mk hW.hr.cells
  have hll : xs.length = n := by have := hW.hr.ll; rw [nums_length] at this; omega
  replace hll := Hidd.mk hll
  have hO := Hidd.mk (row_lit (Own.nil w (fun _ => False)) 5 1 0 #[] [] rfl rfl (by decide))
  clear hW
  go_enter Try.func19, Try.ntmps19
  go_wp2_with (at_builtin; refine appb rfl _ _ rfl hO.out 0 _ 0 0 [] rfl rfl A n cap xs rfl hll.out (hcs.out.below (below_alloc (Below.refl _ _) _)) (by omega) ?_; intro A' cap' w6 ho6; replace ho6 := Hidd.mk ho6)
  go_ret
  exact ⟨A', cap', by simp, by have h := ho6.out; rw [Nat.zero_add] at h; exact h⟩

def encP (a : WAct) : List Int := if a.kind = 1 then ((min a.len 255 : Nat) : Int) :: a.data.take (min a.len 255) else wputN a.n (wsz a.size)
def encPL (es : List WAct) (i : Nat) : List Int := (es.take i).flatMap encP
theorem encPL_zero (es : List WAct) : encPL es 0 = [] := rfl
theorem encPL_succ {es : List WAct} {i : Nat} {e : WAct} (h : es[i]? = some e) : encPL es (i + 1) = encPL es i ++ encP e := by
  unfold encPL
  rw [List.take_add_one, h, List.flatMap_append]
  simp
theorem wsz_le (z : Int) : wsz z ≤ 4 := by unfold wsz; split <;> omega
theorem encP_len (e : WAct) (h : e.data.length = e.len) : (encP e).length ≤ 256 := by
  unfold encP
  split
  · rw [List.length_cons, List.length_take]; omega
  · rw [wputN_length]; have := wsz_le e.size; omega
theorem encPL_len (es : List WAct) (h : ∀ e ∈ es, e.data.length = e.len) : ∀ i, (encPL es i).length ≤ 256 * i
  | 0 => by rw [encPL_zero]; exact Nat.zero_le _
  | i + 1 => by
    have ih := encPL_len es h i
    rcases he : es[i]? with _ | e
    · unfold encPL at ih ⊢
      rw [List.take_add_one, he]
      simp at ih ⊢
      omega
    · rw [encPL_succ he, List.length_append]
      have := encP_len e (h e (List.mem_of_getElem? he))
      omega

set_option maxRecDepth 100000 in
set_option maxHeartbeats 4000000 in
theorem wirePuts_walk (a0 : Option Addr) (len0 cap0 : Nat) (z0 : List (List Value)) (w : World) (h0 : Rows' w 48 [.int .i64, .int .i64, .int .u32, .sl 1 [.int .u8]] a0 len0 cap0 z0) :
    Calls Try.prog 3 #[.slice a0 len0 cap0] w fun e w' => e = .returned (.bool true) ∧ Below w.heap.size w w' := by
  obtain ⟨es, hel, hes⟩ := wacts_of h0
  have hlen0 : len0 ≤ 1000000000000000000 := by have := h0.wt; unfold reachBytes at this; omega
  have hdl : ∀ e ∈ es, e.data.length = e.len := fun e he => by
    obtain ⟨i, hi⟩ := List.getElem?_of_mem he
    exact (hes i e hi).2.2.2.2.1
  have hLl := Hidd.mk (encPL_len es hdl)
  clear hdl h0
  replace hes := Hidd.mk hes
  replace hel := Hidd.mk hel
  obtain ⟨m, hm⟩ : ∃ m, min len0 100 = m := ⟨_, rfl⟩
  have hm1 : m ≤ len0 := by omega
  have hm2 : m ≤ 100 := by omega
  have hm3 : m = len0 ∨ m = 100 := by omega
  clear hm
  go_enter Try.func3, Try.ntmps3
  go_wp2_with (first
    | (go_at_call 14; refine (awake_any _).mono ?_; rintro e w1 ⟨rfl, hb1⟩; have ho1 := Hidd.mk (row_nil (wtr_new ((Own.nil w (fun _ => False)).ext hb1)) 5 1); clear hb1))
  go_loopw [4, 5] (fun v4 v5 wr => ∃ (i : Nat) (A : Option Addr) (cap : Nat) (B : Option Addr) (c : Nat) (n : Nat), v5 = .int .i64 i ∧ i ≤ m ∧ v4 = .slice B n c ∧ Hidd ((encPL es i).length = n) ∧ n ≤ 256 * i ∧ Hidd (Own w (fun _ => False) wr [row 5 1 (.slice B n c) n (nums .u8 (encPL es i)), wtr w1.heap.size A n cap (encPL es i)])) (fun _ v5 _ => m - (intOf v5).toNat)
  case atStart => exact ⟨0, none, 0, none, 0, 0, rfl, Nat.zero_le _, rfl, ⟨rfl⟩, by omega, ho1⟩
  case round =>
    clear ho1
    obtain ⟨i, A, cap, B, c, n, rfl, hi, rfl, hn, hni, ho⟩ := hrel
    by_cases hlt : i < m
    · obtain ⟨e, he⟩ : ∃ e, es[i]? = some e := ⟨_, List.getElem?_eq_getElem (by rw [hel.out]; omega)⟩
      have hsc := Hidd.mk (encPL_succ he)
      have h1 : i < len0 := by omega
      have h2 : i < 100 := by omega
      obtain ⟨⟨ad, rfl, x0, x1, x2, x3⟩, p1, p2, p3, p4, p5, p6, p7⟩ := hes.out i e he
      obtain ⟨kd, sz, v, D, dl, dc, data⟩ := e
      simp only at x0 x1 x2 x3 p1 p2 p3 p4 p5 p6 p7
      have hx1 := Hidd.mk x1
      have hx2 := Hidd.mk x2
      have hx3 := Hidd.mk x3
      have hp3 := Hidd.mk p3
      have hwr := ho.out.below (fun _ => id)
      replace x0 := wkeep hwr x0
      replace x1 := wkeep hwr x1
      replace x2 := wkeep hwr x2
      replace x3 := wkeep hwr x3
      replace p4 := Hidd.mk p4
      have hsz := wf64 p1
      clear hwr he p3 p5 p1
      have bi0 : (0 : Int) ≤ (i : Int) := by omega
      have bi1 : (i : Int) < (len0 : Int) := by omega
      by_cases hk : kd = 1
      · subst hk
        obtain ⟨t, ht⟩ : ∃ t, min dl 255 = t := ⟨_, rfl⟩
        have hen : encPL es (i + 1) = encPL es i ++ ((t : Int) :: data.take t) := by
          rw [hsc.out]
          unfold encP
          rw [if_pos rfl]
          show _ ++ ((min dl 255 : Nat) : Int) :: data.take (min dl 255) = _
          rw [ht]
        have hen2 : (encPL es (i + 1)).length = n + 1 + t := by
          rw [hen, List.length_append, List.length_cons, List.length_take, p4.out, hn.out]
          omega
        have ht2 : t ≤ 255 := by omega
        replace hen := Hidd.mk hen
        replace hen2 := Hidd.mk hen2
        replace ht := Hidd.mk ht
        have xl := World.block_lt_of_cell? wr _ x3
        go_wp2_with (first
          | (at_builtin; refine appb rfl _ _ rfl (row_lit ho.out 5 1 0 #[] [] rfl rfl (by decide)) 0 _ 0 0 [] rfl rfl D dl dc data rfl p4.out (hp3.out.below ((ho.out.alloc _).below (fun _ => id))) (by omega) ?_; intro A2 c2 w2 ho2; rw [Nat.zero_add] at ho2; replace x3 := wkeep (ho2.below fun _ => id) hx3.out; replace ho2 := Hidd.mk ho2; clear ho x0 x1 x2)
          | (go_at_call 15; refine (text_own 2 ho2.out rfl (by omega) A2 dl c2 data (row_cells ho2.out 0 rfl) p4.out (row_le ho2.out 0 rfl).1 (fun ad h _ hf => ho2.out.apart 0 2 rfl rfl (by decide) _ (by rw [h]; rfl) hf) t ht.out).mono ?_; rintro e w3 ⟨rfl, A3, c3, ho3⟩; replace x3 := wkeep (ho3.below fun _ => id) hx3.out; replace ho3 := Hidd.mk ho3.tail; clear ho2)
          | (go_at_call 16; refine (reft_own D dl dc data _ (hp3.out.below (ho3.out.below fun _ => id)) p4.out p7 t ht.out).mono ?_; rintro e w4 ⟨A4, c4, rfl, hn4⟩; have ho4 := Hidd.mk (ho3.out.made hn4); clear hn4 ho3)
          | (at_builtin; refine appb rfl _ _ rfl ho4.out 1 B n c _ rfl rfl A4 (1 + t) c4 _ rfl (by rw [List.length_cons, List.length_take, p4.out]; have := ht.out; omega) (row_cells ho4.out 0 rfl) (by omega) ?_; intro A5 c5 w5 ho5; replace ho5 := Hidd.mk ho5.tail; clear ho4))
        go_roundw
        case rel =>
          refine ⟨i + 1, A3, c3, A5, c5, n + 1 + t, by go_num, by omega, by rw [Nat.add_assoc], hen2, by omega, ⟨?_⟩⟩
          have h := ho5.out
          rw [hen.out]
          rw [show encPL es i ++ [(t : Int)] ++ data.take t = encPL es i ++ ((t : Int) :: data.take t) by rw [List.append_assoc]; rfl, ← Nat.add_assoc] at h
          exact h
        case measure => (simp [intOf]; try omega)
      · have hk1 : (kd == 1) = false := by rw [beq_eq_false_iff_ne]; exact hk
        have hen : encPL es (i + 1) = encPL es i ++ wputN v (wsz sz) := by
          rw [hsc.out]
          unfold encP
          rw [if_neg hk]
        obtain ⟨s, hs⟩ : ∃ s, wsz sz = s := ⟨_, rfl⟩
        have hs4 := wsz_le sz
        rw [hs] at hen hs4
        have hen2 : (encPL es (i + 1)).length = n + s := by
          rw [hen, List.length_append, wputN_length, hn.out]
        have hs0 : sz < 1 → s = 0 := fun h => by rw [← hs]; unfold wsz; rw [if_neg (by omega)]
        replace hs0 := Hidd.mk hs0
        replace hen := Hidd.mk hen
        replace hen2 := Hidd.mk hen2
        replace hs := Hidd.mk hs
        clear hk
        go_wp2
        obtain ⟨W0, hW0⟩ : ∃ zz, zz = World.drew wr := ⟨_, rfl⟩
        refine wp_region_order [] [0, 1, 2, 3, 4, 5, 6, 7, 8, 9] [10] (by kernel_rfl) (by kernel_rfl) ?_
        rw [show ({ wr with drawn := wr.drawn + 1 } : World) = W0 from hW0.symm]
        replace hW0 := Hidd.mk hW0
        simp only [List.map_cons, List.map_nil, List.getD_cons_succ, List.getD_cons_zero]
        have ho2 := Hidd.mk (show Own w (fun _ => False) W0 [row 5 1 (.slice B n c) n (nums .u8 (encPL es i)), wtr w1.heap.size A n cap (encPL es i)] by rw [hW0.out]; exact ho.out.drew)
        replace x1 := wkeep (ho2.out.below fun _ => id) hx1.out
        replace x2 := wkeep (ho2.out.below fun _ => id) hx2.out
        clear hW0 ho x0 x3
        repeat (refine StW.go (by rfl) (fun K hK => ?_); go_simp; refine hK.out _ ?_; clear hK K)
        refine StW.nil ?_
        show StW _ _ _ _ _ _
        repeat (refine StW.go (by rfl) (fun K hK => ?_); go_simp; refine hK.out _ ?_; clear hK K)
        refine StW.nil ?_
        go_wp2_with (go_at_call 17; refine (put_own 1 ho2.out rfl v _ (by omega) p2 _ hs.out).mono ?_; rintro e w3 ⟨rfl, A3, c3, ho3⟩; replace x1 := wkeep (ho3.below fun _ => id) hx1.out; replace ho3 := Hidd.mk ho3; clear ho2)
        refine Calm.normal ?_
        by_cases hs1 : sz < 1
        · have hd : decide (1 ≤ sz) = false := by rw [decide_eq_false_iff_not]; omega
          obtain rfl := hs0.out hs1
          go_wp2
          go_roundw
          case rel =>
            refine ⟨i + 1, A3, c3, B, c, n, by go_num, by omega, rfl, hen2, by omega, ⟨?_⟩⟩
            have h := ho3.out
            rw [hen.out]
            rw [show wputN v 0 = [] from rfl, List.append_nil] at h ⊢
            exact h
          case measure => (simp [intOf]; try omega)
        · have hd : decide (1 ≤ sz) = true := by rw [decide_eq_true_eq]; omega
          go_wp2
          obtain ⟨W1, hW1⟩ : ∃ zz, zz = World.drew w3 := ⟨_, rfl⟩
          refine wp_region_order [0] [1, 2, 3, 4, 5, 6, 7, 8, 9, 10] [11, 12, 13] (by kernel_rfl) (by kernel_rfl) ?_
          rw [show ({ w3 with drawn := w3.drawn + 1 } : World) = W1 from hW1.symm]
          replace hW1 := Hidd.mk hW1
          simp only [List.map_cons, List.map_nil, List.getD_cons_succ, List.getD_cons_zero]
          have ho4 := Hidd.mk (show Own w (fun _ => False) W1 [row 5 1 (.slice B n c) n (nums .u8 (encPL es i)), wtr w1.heap.size A3 (n + s) c3 (encPL es i ++ wputN v s)] by rw [hW1.out]; exact ho3.out.drew)
          replace x1 := wkeep (ho4.out.below fun _ => id) hx1.out
          replace x2 := wkeep (ho4.out.below fun _ => id) hx2.out
          clear hW1 ho3
          repeat (refine StW.go (by rfl) (fun K hK => ?_); go_simp; refine hK.out _ ?_; clear hK K)
          refine StW.nil ?_
          show StW _ _ _ _ _ _
          repeat (refine StW.go (by rfl) (fun K hK => ?_); go_simp; refine hK.out _ ?_; clear hK K)
          refine StW.nil ?_
          go_wp2_with (first
            | (go_at_call 18; refine (num_own v sz _ p2 (by omega) (by omega) s hs.out).mono ?_; rintro e w5 ⟨A5, c5, rfl, hn5⟩; have ho5 := Hidd.mk (ho4.out.made hn5); clear hn5 ho4)
            | (at_builtin; refine appb rfl _ _ rfl ho5.out 1 B n c _ rfl rfl A5 s c5 _ rfl (wputN_length _ _) (row_cells ho5.out 0 rfl) (by omega) ?_; intro A6 c6 w6 ho6; replace ho6 := Hidd.mk ho6.tail; clear ho5))
          refine Calm.normal ?_
          go_wp2
          go_roundw
          case rel => exact ⟨i + 1, A3, c3, A6, c6, n + s, by go_num, by omega, rfl, hen2, by omega, ⟨by rw [hen.out]; exact ho6.out⟩⟩
          case measure => (simp [intOf]; try omega)
    · obtain rfl : i = m := by omega
      have hn2 : n ≤ 1000000 := by omega
      have hm4 : (¬ i < len0) ∨ (i < len0 ∧ decide ((i : Int) < 100) = false) := by
        by_cases h2 : i < len0
        · exact .inr ⟨h2, by rw [decide_eq_false_iff_not]; omega⟩
        · exact .inl h2
      obtain ⟨xs, hxs⟩ : ∃ xs, encPL es i = xs := ⟨_, rfl⟩
      rw [hxs] at hn ho
      clear hm3 hlt hxs hes hel hLl
      rcases hm4 with hd1 | ⟨hd1, hd2⟩
      all_goals go_wp2_with (first
        | (go_at_call 19; refine (bytes_new (ho.out.get 1 rfl) hn2).mono ?_; rintro e w3 ⟨A3, c3, rfl, hn3⟩; have ho3 := Hidd.mk (ho.out.made hn3); clear ho hn3))
      all_goals go_loopw [75] (fun v75 wr => ∃ (j : Nat) (ys : List Int), v75 = .int .i64 j ∧ j ≤ n ∧ Hidd (ys.length = n) ∧ Hidd (∀ k, j ≤ k → ys[k]? = xs[k]?) ∧ Hidd (Own w (fun _ => False) wr [row 5 1 (.slice A3 n c3) n (nums .u8 ys), row 5 1 (.slice B n c) n (nums .u8 xs), wtr w1.heap.size A n cap xs])) (fun v75 _ => n - (intOf v75).toNat)
      all_goals first
        | (case atStart => exact ⟨0, xs, rfl, Nat.zero_le _, hn, ⟨fun _ _ => rfl⟩, ho3⟩)
        | skip
      all_goals skip
      all_goals (case round =>
        clear ho3
        obtain ⟨j, ys, rfl, hj, hyl, hyx, ho⟩ := hrel
        by_cases hjt : j < n
        · obtain ⟨y, hy⟩ : ∃ y, xs[j]? = some y := ⟨_, List.getElem?_eq_getElem (by rw [hn.out]; exact hjt)⟩
          have hy2 := hyx.out j (Nat.le_refl _)
          rw [hy] at hy2
          obtain ⟨g, rfl, _, _⟩ := own_head (show wr.ownsRow 0 5 1 (.slice A3 n c3) n (nums .u8 ys) from ho.out.get 0 rfl) (by omega)
          obtain ⟨g2, rfl, _, _⟩ := own_head (show wr.ownsRow 0 5 1 (.slice B n c) n (nums .u8 xs) from ho.out.get 1 rfl) (by omega)
          have hfr := (show wr.ownsRow 0 5 1 (.slice (some ⟨g, 0, none⟩) n c3) n (nums .u8 ys) from ho.out.get 0 rfl).frozenAt j
          have hc1 : wr.cell? ⟨g, j, none⟩ = some (.int .u8 y) := by
            obtain ⟨ad, e, h⟩ := row_cells ho.out 0 rfl j (.int .u8 y) (by unfold nums; rw [List.getElem?_map, hy2]; rfl)
            injection e with e
            subst e
            rwa [add_plain] at h
          have hc2 : wr.cell? ⟨g2, j, none⟩ = some (.int .u8 y) := by
            obtain ⟨ad, e, h⟩ := row_cells ho.out 1 rfl j (.int .u8 y) (by unfold nums; rw [List.getElem?_map, hy]; rfl)
            injection e with e
            subst e
            rwa [add_plain] at h
          replace hy := Hidd.mk hy
          replace hy2 := Hidd.mk hy2
          have b0 : (0 : Int) ≤ (j : Int) := by omega
          have b1 : (j : Int) < (n : Int) := by omega
          go_wp2
          obtain ⟨W0, hW0⟩ : ∃ zz, zz = World.drew wr := ⟨_, rfl⟩
          refine wp_region_still_lit (by kernel_rfl) (by kernel_rfl) (StW.out ?_)
          rw [show ({ wr with drawn := wr.drawn + 1 } : World) = W0 from hW0.symm]
          replace hW0 := Hidd.mk hW0
          have ho2 := Hidd.mk (show Own w (fun _ => False) W0 [row 5 1 (.slice (some ⟨g, 0, none⟩) n c3) n (nums .u8 ys), row 5 1 (.slice (some ⟨g2, 0, none⟩) n c) n (nums .u8 xs), wtr w1.heap.size A n cap xs] by rw [hW0.out]; exact ho.out.drew)
          replace hc1 : W0.cell? ⟨g, j, none⟩ = some (.int .u8 y) := by rw [hW0.out]; exact hc1
          replace hc2 : W0.cell? ⟨g2, j, none⟩ = some (.int .u8 y) := by rw [hW0.out]; exact hc2
          replace hfr : W0.frozen? ⟨g, j, none⟩ = false := by rw [hW0.out]; exact hfr
          clear hW0 ho
          repeat (refine StW.go (by rfl) (fun K hK => ?_); go_simp; refine hK.out _ ?_; clear hK K)
          refine StW.nil ?_
          go_wp2
          go_roundw
          case rel =>
            refine ⟨j + 1, ys.set j (bits .xor .u8 y 255), by go_num, by omega, ⟨by rw [List.length_set]; exact hyl.out⟩, ⟨fun k hk => ?_⟩, ⟨?_⟩⟩
            · rw [List.getElem?_set_ne (by omega)]; exact hyx.out k (by omega)
            · have h := row_set ho2.out 0 rfl j (.int .u8 (bits .xor .u8 y 255))
              rw [nums, List.map_set]
              exact h
          case measure => (simp [intOf]; try omega)
        · obtain rfl : j = n := by omega
          go_wp2
          have hz : Hidd (∀ W', Kept (fun _ => False) wr W' → (convert 24 9 (.slice B j c)).run Try.prog W' = .ok (.string (strOfNums xs)) W') := ⟨fun W' hS => conv_at ((row_cells ho.out 1 rfl).kept hS (fun _ _ => id)) hn.out⟩
          obtain ⟨W0, hW0⟩ : ∃ zz, zz = World.drew wr := ⟨_, rfl⟩
          refine wp_region_mix (fun zz => Kept (fun _ => False) wr zz) [2, 3] [(0, true), (1, true), (4, false), (5, false)] (by kernel_rfl) (by kernel_rfl) (Kept.drew _ _) ?_
          rw [show ({ wr with drawn := wr.drawn + 1 } : World) = W0 from hW0.symm]
          replace hW0 := Hidd.mk hW0
          simp only [List.map_cons, List.map_nil, List.getD_cons_succ, List.getD_cons_zero]
          have ho2 := Hidd.mk (show Own w (fun _ => False) W0 [row 5 1 (.slice A3 j c3) j (nums .u8 ys), row 5 1 (.slice B j c) j (nums .u8 xs), wtr w1.heap.size A j cap xs] by rw [hW0.out]; exact ho.out.drew)
          have hkW0 : Hidd (Kept (fun _ => False) wr W0) := ⟨by rw [hW0.out]; exact Kept.drew _ _⟩
          repeat (first | (refine StQ.skip (by rfl) ?_; simp only [Act.put, List.setIfInBounds_toArray, List.set_cons_zero, List.set_cons_succ]) | (refine StQ.go' (by rfl) (Exists.intro ?_ (And.intro (fun w' hS => ?_) ?_)); rotate_left; (focus (have zc := hz.out _ hS; go_simp; try with_reducible rfl)); simp only [Act.put, List.setIfInBounds_toArray, List.set_cons_zero, List.set_cons_succ]))
          refine StQ.nil ?_
          refine TlF.go (by rfl) (fun K hK => ?_)
          go_simp
          refine (bytes_new (ho2.out.get 2 rfl) hn2).mono ?_
          rintro e w5 ⟨A6, c6, rfl, hn6⟩
          have hk6 : Kept (fun _ => False) wr w5 := hkW0.out.trans hn6.kept
          refine hK.out _ _ (fun _ => hk6) ?_
          clear hK K
          have hcv := conv_at (c := c6) (row_cells hn6 0 rfl) hn.out
          have hend := Hidd.mk ((ho2.out.made hn6).below fun _ => id)
          clear hn6 ho2 ho
          refine TlF.go (by rfl) (fun K hK => ?_); go_simp; refine hK.out _ _ (fun _ => hk6) ?_; clear hK K
          refine TlF.go (by rfl) (fun K hK => ?_); go_simp; refine hK.out _ _ (by intro h; cases h) ?_; clear hK K
          refine TlF.go (by rfl) (fun K hK => ?_); go_simp; refine hK.out _ _ (by intro h; cases h) ?_; clear hK K
          refine TlF.nil (Calm.normal ?_)
          go_wp2
          go_ret
          exact ⟨ret_true (by simp), hend.out⟩)
end Go.Proofs.Ytmbbfcpoiecfhaa
