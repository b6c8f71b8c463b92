/- The reference's order of a node's partitions. -/
import Derived.Test.YtcamoldjljfbeaaSoX
namespace Go.Proofs.Ytcamoldjljfbeaa
open Go.RowKit

theorem cut_lo (A : Option Addr) (n c k : Nat) (hk : k ≤ n) (hn : n ≤ c) (W : World) : (Instr.slice 63 (.slice A n c) none (some (.int .i64 (k : Int))) none).run Try.prog W = .ok (.slice A k c) W := by
  have h0 : (0 : Int) ≤ (k : Int) := by omega
  have h1 : (k : Int) ≤ (c : Int) := by omega
  cases A <;> go_simp
theorem cut_hi (A : Option Addr) (d c k : Nat) (hn : k + d ≤ c) : ∃ B, (∀ W : World, (Instr.slice 63 (.slice A (k + d) c) (some (.int .i64 (k : Int))) none none).run Try.prog W = .ok (.slice B d (c - k)) W) ∧ ∀ W xs, Cells W A xs → xs.length = k + d → Cells W B (xs.drop k) := by
  have h0 : (0 : Int) ≤ (k : Int) := by omega
  have h1 : (k : Int) ≤ ((k + d : Nat) : Int) := by omega
  by_cases hc : c = k
  · obtain rfl : d = 0 := by omega
    refine ⟨A, fun W => ?_, fun W xs h hx => ?_⟩
    · subst hc
      cases A <;> go_simp
    · rw [List.drop_eq_nil_of_le (by omega)]
      exact Cells.nil _ _
  · refine ⟨A.map (·.add k), fun W => ?_, fun W xs h _ => h.drop k⟩
    cases A <;> go_simp <;> (intro h; exact absurd h (by omega))
theorem appi_op {w w0 : World} {S : Nat → Prop} {L : List Res} {o : Oper} {a : Act} {K : Act → World → Prop} {Q : Exit → Act → World → Prop} (s x : Operand)
    (ho : o.op = .call { callee := .builtin .append, args := #[s, x], argTypes := #[63, 63] })
    (hO : Own w0 S w L) (k : Nat) (A : Option Addr) (n cap : Nat) (xs : List Int) (hk : L[k]? = some (row 3 1 (.slice A n cap) n (nums .i64 xs))) (hs : a.eval s = .slice A n cap)
    (B : Option Addr) (m c : Nat) (ys : List Int) (hx : a.eval x = .slice B m c) (hl : ys.length = m) (hnews : Cells w B (nums .i64 ys)) (h63 : n + m ≤ 1000000000)
    (h : ∀ A' c' w', Own w0 S w' (L.set k (row 3 1 (.slice A' (n + m) c') (n + m) (nums .i64 (xs ++ ys)))) → Kept (fun k => (Value.slice A n cap).ownBlock = some k) w w' → K (a.put o.dst (.slice A' (n + m) c')) w') : o.wp Try.prog a w K Q := by
  obtain ⟨i0, hi, hz0, hz1, hz2⟩ := info_parts info_int
  refine wp_row s x 63 ho 3 i0 (.int .i64 0) 1 8 Try.underlying63 hi hz0 hz1 hz2 rfl (by decide) hO k A n cap _ hk hs B m c (nums .i64 ys) hx (by rw [nums_length, hl, Nat.mul_one]) hnews (ne_nil' hnews hl) (nums_one _ _) (by unfold maxLen; omega) (by omega) ?_
  rw [← nums_append]
  exact h
theorem nats_take (l : List Nat) (k : Nat) : nats (l.take k) = (nats l).take k := by simp [nats]
theorem nats_drop (l : List Nat) (k : Nat) : nats (l.drop k) = (nats l).drop k := by simp [nats]
set_option maxRecDepth 100000
set_option maxHeartbeats 8000000
theorem refOrder_any (n f sl gp rh d0 d1 mg : Int) (PA : Option Addr) (pn pc : Nat) (OA : Option Addr) (on oc : Nat) (RA : Option Addr) (rn rc : Nat) (ps : List Pt) (node : Int) (w : World) (hP : At Pt.cells w PA pn ps) (hpn : pn ≤ 12) (l : List Nat) (hl : ordL ps node = l) (ln : Nat) (hln : l.length = ln) :
    Calls Try.prog 39 #[.agg #[.int .i64 n, .int .i64 f, .int .i64 sl, .int .i64 gp, .int .i64 rh, .int .i64 d0, .int .i64 d1, .int .i64 mg, .slice PA pn pc, .slice OA on oc, .slice RA rn rc], .int .i64 node] w fun e w' => ∃ A c, e = .returned (.slice A ln c) ∧ Own w (fun _ => False) w' [row 3 1 (.slice A ln c) ln (nums .i64 (nats l))] := by
  have ho0 := Hidd.mk (row_nil ((Own.nil w (fun _ => False)).alloc (.cells #[.int .i64 n, .int .i64 f, .int .i64 sl, .int .i64 gp, .int .i64 rh, .int .i64 d0, .int .i64 d1, .int .i64 mg, .slice PA pn pc, .slice OA on oc, .slice RA rn rc] 26)) 3 1)
  have hpl := Hidd.mk hP.1
  have hol : Hidd (∀ i, (ordK ps node i).length ≤ i) := ⟨fun i => by rw [(ordK_perm ps node i).length_eq]; exact selL_len ..⟩
  have hom : Hidd (∀ i j x, (ordK ps node i)[j]? = some x → x < i) := ⟨fun i j x h => (mem_selL.1 ((ordK_perm ps node i).mem_iff.1 (List.mem_of_getElem? h))).1⟩
  unfold ordL at hl
  rw [hP.1] at hl
  replace hP := Hidd.mk hP
  replace hl := Hidd.mk hl
  replace hln := Hidd.mk hln
  go_enter Try.func39, Try.ntmps39
  go_wp2
  generalize w.heap.size = p1 at ho0 ⊢
  generalize World.alloc w _ = W0 at ho0 ⊢
  go_loopw [5, 6] (fun v5 v6 wr => ∃ (i k : Nat) (A : Option Addr) (c : Nat) (X : List Nat), v6 = .int .i64 i ∧ v5 = .slice A k c ∧ i ≤ pn ∧ Hidd (ordK ps node i = X) ∧ Hidd (X.length = k) ∧ Hidd (Own w (fun _ => False) wr [row 3 1 (.slice A k c) k (nums .i64 (nats X)), blk p1 (.cells #[.int .i64 n, .int .i64 f, .int .i64 sl, .int .i64 gp, .int .i64 rh, .int .i64 d0, .int .i64 d1, .int .i64 mg, .slice PA pn pc, .slice OA on oc, .slice RA rn rc] 26 (0, 0))])) (fun _ v6 _ => pn - (intOf v6).toNat)
  case atStart => exact ⟨0, 0, none, 0, [], rfl, rfl, Nat.zero_le _, ⟨rfl⟩, ⟨rfl⟩, ho0⟩
  case round =>
    clear ho0
    obtain ⟨i, k, A, c, X, rfl, rfl, hil, hX, hk, ho⟩ := hrel
    obtain ⟨x0, x1, x2, x3, x4, x5, x6, x7, x8, x9, xA⟩ := cells11 ho.out 1 rfl
    by_cases hlt : i < pn
    · obtain ⟨p, hp⟩ : ∃ x, ps[i]? = some x := ⟨_, List.getElem?_eq_getElem (by rw [hpl.out]; exact hlt)⟩
      obtain ⟨a, rfl, y0, y1, y2, y3, y4, y5, y6, y7, y8⟩ := (hP.out.below (ho.out.below fun _ => id)).part hp
      have bi0 : (0 : Int) ≤ (i : Int) := by omega
      have bi1 : (i : Int) < (pn : Int) := by omega
      have hst := stOf_at hp
      have hsc : ordK ps node (i + 1) = if p.node = node then insS (stOf ps) i X else X := by
        rw [← hX.out, ← ndOf_at hp]
        rfl
      have hk12 : k ≤ i := by have := hol.out i; rw [hX.out, hk.out] at this; exact this
      have hcap := row_le ho.out 0 rfl
      by_cases hn : p.node = node
      · rw [if_pos hn] at hsc
        have dn : (p.node != node) = false := by simpa using hn
        clear hn
        obtain ⟨q0, q1, q2, q3, q4, q5, q6, q7, q8⟩ := p
        simp only at y0 y1 dn hst
        replace hsc := Hidd.mk hsc
        replace hst := Hidd.mk hst
        replace hp := Hidd.mk hp
        replace hcap := Hidd.mk hcap
        go_wp2
        clear x0 x1 x2 x3 x4 x5 x6 x7 x8 x9 xA y0 y1 y2 y3 y4 y5 y6 y7 y8
        go_loopw [7] (fun v7 wr => ∃ t : Nat, v7 = .int .i64 t ∧ t ≤ k ∧ Hidd (∀ j y, j < t → X[j]? = some y → stOf ps y ≤ stOf ps i) ∧ Hidd (Own w (fun _ => False) wr [row 3 1 (.slice A k c) k (nums .i64 (nats X)), blk p1 (.cells #[.int .i64 n, .int .i64 f, .int .i64 sl, .int .i64 gp, .int .i64 rh, .int .i64 d0, .int .i64 d1, .int .i64 mg, .slice (some a) pn pc, .slice OA on oc, .slice RA rn rc] 26 (0, 0))])) (fun v7 _ => k - (intOf v7).toNat)
        case atStart => exact ⟨0, rfl, Nat.zero_le _, ⟨fun j y h => by omega⟩, ho⟩
        case round =>
          clear ho
          obtain ⟨t, rfl, htk, hT, ho⟩ := hrel
          have bt0 : (0 : Int) ≤ (t : Int) := by omega
          by_cases hlk : t < k
          · have bt1 : (t : Int) < (k : Int) := by omega
            obtain ⟨y, hy⟩ : ∃ x, X[t]? = some x := ⟨_, List.getElem?_eq_getElem (by rw [hk.out]; exact hlk)⟩
            have hyi : y < pn := by have := hom.out i t y (by rw [hX.out]; exact hy); omega
            have by0 : (0 : Int) ≤ (y : Int) := by omega
            have by1 : (y : Int) < (pn : Int) := by omega
            obtain ⟨py, hpy⟩ : ∃ x, ps[y]? = some x := ⟨_, List.getElem?_eq_getElem (by rw [hpl.out]; exact hyi)⟩
            have hsy := stOf_at hpy
            go_wp2
            obtain ⟨W1, hW1⟩ : ∃ zz, zz = World.drew wr := ⟨_, rfl⟩
            refine wp_region_flow [([0, 1, 2, 3, 4, 5, 7, 8, 14, 16, 6, 9, 15, 10, 17, 11, 18, 12, 19, 13, 20, 21], none)] (by kernel_rfl) (by kernel_rfl) ?_
            rw [show ({ wr with drawn := wr.drawn + 1 } : World) = W1 from hW1.symm]
            replace hW1 := Hidd.mk hW1
            simp only [opsF, List.map_cons, List.map_nil, List.getD_cons_succ, List.getD_cons_zero, Option.map]
            have ho2 := Hidd.mk (show Own w (fun _ => False) W1 _ by rw [hW1.out]; exact ho.out.drew)
            clear hW1 ho
            obtain ⟨x0, x1, x2, x3, x4, x5, x6, x7, x8, x9, xA⟩ := cells11 ho2.out 1 rfl
            obtain ⟨g2, rfl, _⟩ := head_any (show W1.ownsRow 0 3 1 (.slice A k c) k _ from ho2.out.get 0 rfl) (by omega)
            have z0 := cells_at (row_cells ho2.out 0 rfl) (nats_get hy)
            obtain ⟨a', eq, y0, y1, _⟩ := (hP.out.below (ho2.out.below fun _ => id)).part hp.out
            injection eq with eq
            subst eq
            obtain ⟨a', eq, u0, u1, _⟩ := (hP.out.below (ho2.out.below fun _ => id)).part hpy
            injection eq with eq
            subst eq
            clear hpy
            obtain ⟨r0, r1, r2, r3, r4, r5, r6, r7, r8⟩ := py
            (try simp only at y0 y1 u0 u1 hsy)
            by_cases hle : r1 ≤ q1
            · have d1' := decide_eq_true hle
              have hT2 : Hidd (∀ j z, j < t + 1 → X[j]? = some z → stOf ps z ≤ stOf ps i) := ⟨fun j z hj hz => by
                by_cases hjt : j = t
                · subst hjt
                  rw [hy] at hz
                  injection hz with hz
                  subst hz
                  rw [hsy, hst.out]
                  exact hle
                · exact hT.out j z (by omega) hz⟩
              clear hle hT hsy hy
              refine FlW.heads (fun zz => zz = _) rfl ?_
              repeat (first | (refine StQ.skip (by rfl) ?_; simp only [Act.put, List.setIfInBounds_toArray, List.set_cons_zero, List.set_cons_succ]) | (refine StQ.go' (by rfl) (Exists.intro ?_ (And.intro (fun w' hS => ?_) ?_)); rotate_left; (focus (rw [hS]; go_simp; try with_reducible rfl)); simp only [Act.put, List.setIfInBounds_toArray, List.set_cons_zero, List.set_cons_succ]))
              refine StQ.nil ?_
              refine FlW.nil (Calm.normal ?_)
              clear x0 x1 x2 x3 x4 x5 x6 x7 x8 x9 xA z0 y0 y1 u0 u1
              go_wp2
              go_roundw
              case rel => exact ⟨t + 1, by go_num, by omega, hT2, ho2⟩
              case measure => (simp [intOf]; try omega)
            · have d1' := decide_eq_false hle
              have hat := Hidd.mk (insS_at (stOf ps) i X t (by rw [hk.out]; exact htk) hT.out fun z hz => by
                rw [hy] at hz
                injection hz with hz
                subst hz
                rw [hsy, hst.out]
                exact hle)
              clear hle hT hsy hy
              refine FlW.heads (fun zz => zz = _) rfl ?_
              repeat (first | (refine StQ.skip (by rfl) ?_; simp only [Act.put, List.setIfInBounds_toArray, List.set_cons_zero, List.set_cons_succ]) | (refine StQ.go' (by rfl) (Exists.intro ?_ (And.intro (fun w' hS => ?_) ?_)); rotate_left; (focus (rw [hS]; go_simp; try with_reducible rfl)); simp only [Act.put, List.setIfInBounds_toArray, List.set_cons_zero, List.set_cons_succ]))
              refine StQ.nil ?_
              refine FlW.nil (Calm.normal ?_)
              clear x0 x1 x2 x3 x4 x5 x6 x7 x8 x9 xA z0 y0 y1 u0 u1
              go_wp2
              obtain ⟨d, hd'⟩ : ∃ d, k = t + d := ⟨k - t, by omega⟩
              subst hd'
              obtain ⟨hc1, hc2⟩ := hcap.out
              unfold maxLen at hc2
              have hs1 : ∀ W : World, _ := cut_lo (some ⟨g2, 0, none⟩) (t + d) c t (by omega) hc1
              obtain ⟨B, hB1, hB2'⟩ := cut_hi (some ⟨g2, 0, none⟩) d c t (by omega)
              have hB2 := Hidd.mk hB2'
              clear hB2'
              have htl : (nats (X.take t)).length = t := by rw [nats_len, List.length_take, hk.out]; omega
              have hdl : (nats (X.drop t)).length = d := by rw [nats_len, List.length_drop, hk.out]; omega
              have hxl : (nums .i64 (nats X)).length = t + d := by rw [nums_length, nats_len, hk.out]
              have hnx : Hidd (nats (X.take t) ++ [(i : Int)] ++ nats (X.drop t) = nats (insS (stOf ps) i X)) := ⟨by rw [hat.out, nats_app, nats_app]; rfl⟩
              have hlen : Hidd ((insS (stOf ps) i X).length = t + 1 + d) := ⟨by rw [(insS_perm (stOf ps) i X).length_eq, List.length_cons, hk.out]; omega⟩
              obtain ⟨W2, hW2⟩ : ∃ zz, zz = World.drew W1 := ⟨_, rfl⟩
              refine wp_region_tree (.two [1, 2, 5, 8, 9, 3, 10] 0 [true] (.two [] 4 [false, true] (.one [] 6 [false, false, true] (.one [] 7 [false, false, false, true] (.one [] 11 [false, false, false, false, false] (.leaf [12])))) 6 [false, true] (.one [] 4 [false, false, true] (.one [] 7 [false, false, false, true] (.one [] 11 [false, false, false, false, false] (.leaf [12]))))) 6 [true] (.one [] 0 [false, true] (.one [] 4 [false, false, true] (.one [] 7 [false, false, false, true] (.one [] 11 [false, false, false, false, false] (.leaf [12])))))) (by kernel_rfl) (by kernel_rfl) ?_
              rw [show ({ W1 with drawn := W1.drawn + 1 } : World) = W2 from hW2.symm]
              replace hW2 := Hidd.mk hW2
              simp only [Tr.map, List.map_cons, List.map_nil, List.getD_cons_succ, List.getD_cons_zero]
              replace ho2 := Hidd.mk (show Own w (fun _ => False) W2 _ by rw [hW2.out]; exact ho2.out.drew)
              clear hW2
              refine TrW.two (fun _ => True) trivial ?_
              repeat (first | (refine StQ.skip (by rfl) ?_; simp only [Act.put, List.setIfInBounds_toArray, List.set_cons_zero, List.set_cons_succ]) | (refine StQ.go' (by rfl) (Exists.intro ?_ (And.intro (fun w' hS => ?_) ?_)); rotate_left; (focus (skip; go_simp; try with_reducible rfl)); simp only [Act.put, List.setIfInBounds_toArray, List.set_cons_zero, List.set_cons_succ]))
              refine StQ.nil ?_
              clear hs1 hB1
              refine ⟨?_, ?_⟩
              focus
                refine TrO.go (by rfl) (fun K hK => ?_); go_simp
                have hn := row_lit ho2.out 3 1 0 #[] (nums .i64 []) rfl rfl (by decide)
                refine hK.out _ _ (.inr (by simp [oblig])) ?_
                clear hK K
                replace ho2 := Hidd.mk hn
                clear hn
                generalize (World.heap _).size = g0 at ho2 ⊢
                generalize World.alloc _ _ = W3 at ho2 ⊢
                refine TrW.two (fun _ => True) trivial (StQ.nil ?_)
                refine ⟨?_, ?_⟩
                focus
                  refine TrO.go (by rfl) (fun K hK => ?_)
                  refine appi_op _ _ rfl ho2.out 0 (some ⟨g0, 0, none⟩) 0 0 [] rfl rfl (some ⟨g2, 0, none⟩) t c (nats (X.take t)) rfl htl (by rw [nats_take, nums_take]; exact (row_cells ho2.out 1 rfl).take _) (by omega) ?_; intro A4 c4 w4 ho4 hk4
                  refine hK.out _ _ (.inr (by simp [oblig])) ?_
                  clear hK K hk4
                  simp only [List.set_cons_zero, List.nil_append, Nat.zero_add] at ho4
                  (try rw [Nat.zero_add])
                  replace ho2 := Hidd.mk ho4
                  clear ho4
                  refine TrW.one (fun _ => True) trivial (StQ.nil ?_)
                  refine TrO.go (by rfl) (fun K hK => ?_); go_simp
                  have hn := ho2.out.alloc (.cells #[.int .i64 (i : Int)] 3)
                  refine hK.out _ _ (.inr (by simp [oblig])) ?_
                  clear hK K
                  replace ho2 := Hidd.mk hn
                  clear hn
                  generalize (World.heap _).size = g1 at ho2 ⊢
                  generalize World.alloc _ _ = W4 at ho2 ⊢
                  refine TrW.one (fun _ => True) trivial (StQ.nil ?_)
                  refine TrO.go (by rfl) (fun K hK => ?_)
                  refine appi_op _ _ rfl ho2.out 1 A4 t c4 (nats (X.take t)) rfl rfl (some ⟨g1, 0, none⟩) 1 1 [(i : Int)] rfl rfl (Cells.of_block (ho2.out.get 0 rfl)) (by omega) ?_; intro A7 c7 w7 ho7 hk7
                  refine hK.out _ _ (.inr (by simp [oblig])) ?_
                  clear hK K hk7
                  simp only [List.set_cons_zero, List.set_cons_succ] at ho7
                  replace ho2 := Hidd.mk ho7
                  clear ho7
                  refine TrW.one (fun _ => True) trivial (StQ.nil ?_)
                  refine TrO.go (by rfl) (fun K hK => ?_)
                  refine appi_op _ _ rfl ho2.out 1 A7 (t + 1) c7 (nats (X.take t) ++ [(i : Int)]) rfl rfl B d (c - t) (nats (X.drop t)) rfl hdl (by rw [nats_drop, nums_drop]; exact hB2.out _ _ (row_cells ho2.out 2 rfl) hxl) (by omega) ?_; intro A9 c9 w9 ho9 hk9
                  refine hK.out _ _ (.inr (by simp [oblig])) ?_
                  clear hK K hk9
                  simp only [List.set_cons_zero, List.set_cons_succ] at ho9
                  replace ho2 := Hidd.mk ho9
                  clear ho9
                  refine TrW.leaf (fun _ => True) trivial ?_
                  repeat (first | (refine StQ.skip (by rfl) ?_; simp only [Act.put, List.setIfInBounds_toArray, List.set_cons_zero, List.set_cons_succ]) | (refine StQ.go' (by rfl) (Exists.intro ?_ (And.intro (fun w' hS => ?_) ?_)); rotate_left; (focus (skip; go_simp; try with_reducible rfl)); simp only [Act.put, List.setIfInBounds_toArray, List.set_cons_zero, List.set_cons_succ]))
                  refine StQ.nil ?_
                  refine Calm.normal ?_
                  have hend := Hidd.mk (ho2.out.reorder (M := [_, _]) [1, 3] rfl (by decide))
                  rw [hnx.out] at hend
                  clear ho2
                  go_wp2
                  go_roundw
                  case rel => exact ⟨i + 1, t + 1 + d, A9, c9, _, by go_num, rfl, by omega, hsc, hlen, hend⟩
                  case measure => (simp [intOf]; try omega)
                focus
                  refine TrO.go (by rfl) (fun K hK => ?_); go_simp
                  have hn := ho2.out.alloc (.cells #[.int .i64 (i : Int)] 3)
                  refine hK.out _ _ (.inr (by simp [oblig])) ?_
                  clear hK K
                  replace ho2 := Hidd.mk hn
                  clear hn
                  generalize (World.heap _).size = g1 at ho2 ⊢
                  generalize World.alloc _ _ = W4 at ho2 ⊢
                  refine TrW.one (fun _ => True) trivial (StQ.nil ?_)
                  refine TrO.go (by rfl) (fun K hK => ?_)
                  refine appi_op _ _ rfl ho2.out 1 (some ⟨g0, 0, none⟩) 0 0 [] rfl rfl (some ⟨g2, 0, none⟩) t c (nats (X.take t)) rfl htl (by rw [nats_take, nums_take]; exact (row_cells ho2.out 2 rfl).take _) (by omega) ?_; intro A4 c4 w4 ho4 hk4
                  refine hK.out _ _ (.inr (by simp [oblig])) ?_
                  clear hK K hk4
                  simp only [List.set_cons_zero, List.set_cons_succ, List.nil_append, Nat.zero_add] at ho4
                  (try rw [Nat.zero_add])
                  replace ho2 := Hidd.mk ho4
                  clear ho4
                  refine TrW.one (fun _ => True) trivial (StQ.nil ?_)
                  refine TrO.go (by rfl) (fun K hK => ?_)
                  refine appi_op _ _ rfl ho2.out 1 A4 t c4 (nats (X.take t)) rfl rfl (some ⟨g1, 0, none⟩) 1 1 [(i : Int)] rfl rfl (Cells.of_block (ho2.out.get 0 rfl)) (by omega) ?_; intro A7 c7 w7 ho7 hk7
                  refine hK.out _ _ (.inr (by simp [oblig])) ?_
                  clear hK K hk7
                  simp only [List.set_cons_zero, List.set_cons_succ] at ho7
                  replace ho2 := Hidd.mk ho7
                  clear ho7
                  refine TrW.one (fun _ => True) trivial (StQ.nil ?_)
                  refine TrO.go (by rfl) (fun K hK => ?_)
                  refine appi_op _ _ rfl ho2.out 1 A7 (t + 1) c7 (nats (X.take t) ++ [(i : Int)]) rfl rfl B d (c - t) (nats (X.drop t)) rfl hdl (by rw [nats_drop, nums_drop]; exact hB2.out _ _ (row_cells ho2.out 2 rfl) hxl) (by omega) ?_; intro A9 c9 w9 ho9 hk9
                  refine hK.out _ _ (.inr (by simp [oblig])) ?_
                  clear hK K hk9
                  simp only [List.set_cons_zero, List.set_cons_succ] at ho9
                  replace ho2 := Hidd.mk ho9
                  clear ho9
                  refine TrW.leaf (fun _ => True) trivial ?_
                  repeat (first | (refine StQ.skip (by rfl) ?_; simp only [Act.put, List.setIfInBounds_toArray, List.set_cons_zero, List.set_cons_succ]) | (refine StQ.go' (by rfl) (Exists.intro ?_ (And.intro (fun w' hS => ?_) ?_)); rotate_left; (focus (skip; go_simp; try with_reducible rfl)); simp only [Act.put, List.setIfInBounds_toArray, List.set_cons_zero, List.set_cons_succ]))
                  refine StQ.nil ?_
                  refine Calm.normal ?_
                  have hend := Hidd.mk (ho2.out.reorder (M := [_, _]) [1, 3] rfl (by decide))
                  rw [hnx.out] at hend
                  clear ho2
                  go_wp2
                  go_roundw
                  case rel => exact ⟨i + 1, t + 1 + d, A9, c9, _, by go_num, rfl, by omega, hsc, hlen, hend⟩
                  case measure => (simp [intOf]; try omega)
              focus
                refine TrO.go (by rfl) (fun K hK => ?_); go_simp
                have hn := ho2.out.alloc (.cells #[.int .i64 (i : Int)] 3)
                refine hK.out _ _ (.inr (by simp [oblig])) ?_
                clear hK K
                replace ho2 := Hidd.mk hn
                clear hn
                generalize (World.heap _).size = g1 at ho2 ⊢
                generalize World.alloc _ _ = W3 at ho2 ⊢
                refine TrW.one (fun _ => True) trivial (StQ.nil ?_)
                refine TrO.go (by rfl) (fun K hK => ?_); go_simp
                have hn := row_lit ho2.out 3 1 0 #[] (nums .i64 []) rfl rfl (by decide)
                refine hK.out _ _ (.inr (by simp [oblig])) ?_
                clear hK K
                replace ho2 := Hidd.mk hn
                clear hn
                generalize (World.heap _).size = g0 at ho2 ⊢
                generalize World.alloc _ _ = W4 at ho2 ⊢
                refine TrW.one (fun _ => True) trivial (StQ.nil ?_)
                refine TrO.go (by rfl) (fun K hK => ?_)
                refine appi_op _ _ rfl ho2.out 0 (some ⟨g0, 0, none⟩) 0 0 [] rfl rfl (some ⟨g2, 0, none⟩) t c (nats (X.take t)) rfl htl (by rw [nats_take, nums_take]; exact (row_cells ho2.out 2 rfl).take _) (by omega) ?_; intro A4 c4 w4 ho4 hk4
                refine hK.out _ _ (.inr (by simp [oblig])) ?_
                clear hK K hk4
                simp only [List.set_cons_zero, List.nil_append, Nat.zero_add] at ho4
                (try rw [Nat.zero_add])
                replace ho2 := Hidd.mk ho4
                clear ho4
                refine TrW.one (fun _ => True) trivial (StQ.nil ?_)
                refine TrO.go (by rfl) (fun K hK => ?_)
                refine appi_op _ _ rfl ho2.out 0 A4 t c4 (nats (X.take t)) rfl rfl (some ⟨g1, 0, none⟩) 1 1 [(i : Int)] rfl rfl (Cells.of_block (ho2.out.get 1 rfl)) (by omega) ?_; intro A7 c7 w7 ho7 hk7
                refine hK.out _ _ (.inr (by simp [oblig])) ?_
                clear hK K hk7
                simp only [List.set_cons_zero] at ho7
                replace ho2 := Hidd.mk ho7
                clear ho7
                refine TrW.one (fun _ => True) trivial (StQ.nil ?_)
                refine TrO.go (by rfl) (fun K hK => ?_)
                refine appi_op _ _ rfl ho2.out 0 A7 (t + 1) c7 (nats (X.take t) ++ [(i : Int)]) rfl rfl B d (c - t) (nats (X.drop t)) rfl hdl (by rw [nats_drop, nums_drop]; exact hB2.out _ _ (row_cells ho2.out 2 rfl) hxl) (by omega) ?_; intro A9 c9 w9 ho9 hk9
                refine hK.out _ _ (.inr (by simp [oblig])) ?_
                clear hK K hk9
                simp only [List.set_cons_zero] at ho9
                replace ho2 := Hidd.mk ho9
                clear ho9
                refine TrW.leaf (fun _ => True) trivial ?_
                repeat (first | (refine StQ.skip (by rfl) ?_; simp only [Act.put, List.setIfInBounds_toArray, List.set_cons_zero, List.set_cons_succ]) | (refine StQ.go' (by rfl) (Exists.intro ?_ (And.intro (fun w' hS => ?_) ?_)); rotate_left; (focus (skip; go_simp; try with_reducible rfl)); simp only [Act.put, List.setIfInBounds_toArray, List.set_cons_zero, List.set_cons_succ]))
                refine StQ.nil ?_
                refine Calm.normal ?_
                have hend := Hidd.mk (ho2.out.reorder (M := [_, _]) [0, 3] rfl (by decide))
                rw [hnx.out] at hend
                clear ho2
                go_wp2
                go_roundw
                case rel => exact ⟨i + 1, t + 1 + d, A9, c9, _, by go_num, rfl, by omega, hsc, hlen, hend⟩
                case measure => (simp [intOf]; try omega)
          · obtain rfl : t = k := by omega
            have bt1 : decide ((t : Int) < (t : Int)) = false := by rw [decide_eq_false_iff_not]; omega
            have hat := Hidd.mk (insS_at (stOf ps) i X t (by rw [hk.out]; exact htk) hT.out fun z hz => by
              rw [List.getElem?_eq_none (by rw [hk.out]; exact htk)] at hz
              cases hz)
            clear hT
            go_wp2
            obtain ⟨W1, hW1⟩ : ∃ zz, zz = World.drew wr := ⟨_, rfl⟩
            refine wp_region_flow [([0, 1, 2, 3, 4, 5, 7, 8, 14, 16, 6, 9, 15, 10, 17, 11, 18, 12, 19, 13, 20, 21], none)] (by kernel_rfl) (by kernel_rfl) ?_
            rw [show ({ wr with drawn := wr.drawn + 1 } : World) = W1 from hW1.symm]
            replace hW1 := Hidd.mk hW1
            simp only [opsF, List.map_cons, List.map_nil, List.getD_cons_succ, List.getD_cons_zero, Option.map]
            have ho2 := Hidd.mk (show Own w (fun _ => False) W1 _ by rw [hW1.out]; exact ho.out.drew)
            clear hW1 ho
            refine FlW.heads (fun zz => zz = _) rfl ?_
            repeat (first | (refine StQ.skip (by rfl) ?_; simp only [Act.put, List.setIfInBounds_toArray, List.set_cons_zero, List.set_cons_succ]) | (refine StQ.go' (by rfl) (Exists.intro ?_ (And.intro (fun w' hS => ?_) ?_)); rotate_left; (focus (rw [hS]; go_simp; try with_reducible rfl)); simp only [Act.put, List.setIfInBounds_toArray, List.set_cons_zero, List.set_cons_succ]))
            refine StQ.nil ?_
            refine FlW.nil (Calm.normal ?_)
            go_wp2
            obtain ⟨d, hd'⟩ : ∃ d, t = t + d := ⟨0, rfl⟩
            obtain ⟨hc1, hc2⟩ := hcap.out
            unfold maxLen at hc2
            have hs1 : ∀ W : World, _ := cut_lo A (t) c t (by omega) hc1
            obtain ⟨B, hB1, hB2'⟩ := cut_hi A d c t (by omega)
            have hB2 := Hidd.mk hB2'
            clear hB2'
            rw [← hd'] at hB1
            have htl : (nats (X.take t)).length = t := by rw [nats_len, List.length_take, hk.out]; omega
            have hdl : (nats (X.drop t)).length = d := by rw [nats_len, List.length_drop, hk.out]; omega
            have hxl : (nums .i64 (nats X)).length = t + d := by rw [nums_length, nats_len, hk.out]; exact hd'
            have hnx : Hidd (nats (X.take t) ++ [(i : Int)] ++ nats (X.drop t) = nats (insS (stOf ps) i X)) := ⟨by rw [hat.out, nats_app, nats_app]; rfl⟩
            have hlen : Hidd ((insS (stOf ps) i X).length = t + 1 + d) := ⟨by rw [(insS_perm (stOf ps) i X).length_eq, List.length_cons, hk.out]; omega⟩
            have hd12 : d ≤ 12 := by omega
            replace hd' := Hidd.mk hd'
            obtain ⟨W2, hW2⟩ : ∃ zz, zz = World.drew W1 := ⟨_, rfl⟩
            refine wp_region_tree (.two [1, 2, 5, 8, 9, 3, 10] 0 [true] (.two [] 4 [false, true] (.one [] 6 [false, false, true] (.one [] 7 [false, false, false, true] (.one [] 11 [false, false, false, false, false] (.leaf [12])))) 6 [false, true] (.one [] 4 [false, false, true] (.one [] 7 [false, false, false, true] (.one [] 11 [false, false, false, false, false] (.leaf [12]))))) 6 [true] (.one [] 0 [false, true] (.one [] 4 [false, false, true] (.one [] 7 [false, false, false, true] (.one [] 11 [false, false, false, false, false] (.leaf [12])))))) (by kernel_rfl) (by kernel_rfl) ?_
            rw [show ({ W1 with drawn := W1.drawn + 1 } : World) = W2 from hW2.symm]
            replace hW2 := Hidd.mk hW2
            simp only [Tr.map, List.map_cons, List.map_nil, List.getD_cons_succ, List.getD_cons_zero]
            replace ho2 := Hidd.mk (show Own w (fun _ => False) W2 _ by rw [hW2.out]; exact ho2.out.drew)
            clear hW2
            refine TrW.two (fun _ => True) trivial ?_
            repeat (first | (refine StQ.skip (by rfl) ?_; simp only [Act.put, List.setIfInBounds_toArray, List.set_cons_zero, List.set_cons_succ]) | (refine StQ.go' (by rfl) (Exists.intro ?_ (And.intro (fun w' hS => ?_) ?_)); rotate_left; (focus (skip; go_simp; try with_reducible rfl)); simp only [Act.put, List.setIfInBounds_toArray, List.set_cons_zero, List.set_cons_succ]))
            refine StQ.nil ?_
            clear hs1 hB1
            refine ⟨?_, ?_⟩
            focus
              refine TrO.go (by rfl) (fun K hK => ?_); go_simp
              have hn := row_lit ho2.out 3 1 0 #[] (nums .i64 []) rfl rfl (by decide)
              refine hK.out _ _ (.inr (by simp [oblig])) ?_
              clear hK K
              replace ho2 := Hidd.mk hn
              clear hn
              generalize (World.heap _).size = g0 at ho2 ⊢
              generalize World.alloc _ _ = W3 at ho2 ⊢
              refine TrW.two (fun _ => True) trivial (StQ.nil ?_)
              refine ⟨?_, ?_⟩
              focus
                refine TrO.go (by rfl) (fun K hK => ?_)
                refine appi_op _ _ rfl ho2.out 0 (some ⟨g0, 0, none⟩) 0 0 [] rfl rfl A t c (nats (X.take t)) rfl htl (by rw [nats_take, nums_take]; exact (row_cells ho2.out 1 rfl).take _) (by omega) ?_; intro A4 c4 w4 ho4 hk4
                refine hK.out _ _ (.inr (by simp [oblig])) ?_
                clear hK K hk4
                simp only [List.set_cons_zero, List.nil_append, Nat.zero_add] at ho4
                (try rw [Nat.zero_add])
                replace ho2 := Hidd.mk ho4
                clear ho4
                refine TrW.one (fun _ => True) trivial (StQ.nil ?_)
                refine TrO.go (by rfl) (fun K hK => ?_); go_simp
                have hn := ho2.out.alloc (.cells #[.int .i64 (i : Int)] 3)
                refine hK.out _ _ (.inr (by simp [oblig])) ?_
                clear hK K
                replace ho2 := Hidd.mk hn
                clear hn
                generalize (World.heap _).size = g1 at ho2 ⊢
                generalize World.alloc _ _ = W4 at ho2 ⊢
                refine TrW.one (fun _ => True) trivial (StQ.nil ?_)
                refine TrO.go (by rfl) (fun K hK => ?_)
                refine appi_op _ _ rfl ho2.out 1 A4 t c4 (nats (X.take t)) rfl rfl (some ⟨g1, 0, none⟩) 1 1 [(i : Int)] rfl rfl (Cells.of_block (ho2.out.get 0 rfl)) (by omega) ?_; intro A7 c7 w7 ho7 hk7
                refine hK.out _ _ (.inr (by simp [oblig])) ?_
                clear hK K hk7
                simp only [List.set_cons_zero, List.set_cons_succ] at ho7
                replace ho2 := Hidd.mk ho7
                clear ho7
                refine TrW.one (fun _ => True) trivial (StQ.nil ?_)
                refine TrO.go (by rfl) (fun K hK => ?_)
                refine appi_op _ _ rfl ho2.out 1 A7 (t + 1) c7 (nats (X.take t) ++ [(i : Int)]) rfl rfl B d (c - t) (nats (X.drop t)) rfl hdl (by rw [nats_drop, nums_drop]; exact hB2.out _ _ (row_cells ho2.out 2 rfl) hxl) (by omega) ?_; intro A9 c9 w9 ho9 hk9
                refine hK.out _ _ (.inr (by simp [oblig])) ?_
                clear hK K hk9
                simp only [List.set_cons_zero, List.set_cons_succ] at ho9
                replace ho2 := Hidd.mk ho9
                clear ho9
                refine TrW.leaf (fun _ => True) trivial ?_
                repeat (first | (refine StQ.skip (by rfl) ?_; simp only [Act.put, List.setIfInBounds_toArray, List.set_cons_zero, List.set_cons_succ]) | (refine StQ.go' (by rfl) (Exists.intro ?_ (And.intro (fun w' hS => ?_) ?_)); rotate_left; (focus (skip; go_simp; try with_reducible rfl)); simp only [Act.put, List.setIfInBounds_toArray, List.set_cons_zero, List.set_cons_succ]))
                refine StQ.nil ?_
                refine Calm.normal ?_
                have hend := Hidd.mk (ho2.out.reorder (M := [_, _]) [1, 3] rfl (by decide))
                rw [hnx.out] at hend
                clear ho2
                go_wp2
                go_roundw
                case rel => exact ⟨i + 1, t + 1 + d, A9, c9, _, by go_num, rfl, by omega, hsc, hlen, hend⟩
                case measure => (simp [intOf]; try omega)
              focus
                refine TrO.go (by rfl) (fun K hK => ?_); go_simp
                have hn := ho2.out.alloc (.cells #[.int .i64 (i : Int)] 3)
                refine hK.out _ _ (.inr (by simp [oblig])) ?_
                clear hK K
                replace ho2 := Hidd.mk hn
                clear hn
                generalize (World.heap _).size = g1 at ho2 ⊢
                generalize World.alloc _ _ = W4 at ho2 ⊢
                refine TrW.one (fun _ => True) trivial (StQ.nil ?_)
                refine TrO.go (by rfl) (fun K hK => ?_)
                refine appi_op _ _ rfl ho2.out 1 (some ⟨g0, 0, none⟩) 0 0 [] rfl rfl A t c (nats (X.take t)) rfl htl (by rw [nats_take, nums_take]; exact (row_cells ho2.out 2 rfl).take _) (by omega) ?_; intro A4 c4 w4 ho4 hk4
                refine hK.out _ _ (.inr (by simp [oblig])) ?_
                clear hK K hk4
                simp only [List.set_cons_zero, List.set_cons_succ, List.nil_append, Nat.zero_add] at ho4
                (try rw [Nat.zero_add])
                replace ho2 := Hidd.mk ho4
                clear ho4
                refine TrW.one (fun _ => True) trivial (StQ.nil ?_)
                refine TrO.go (by rfl) (fun K hK => ?_)
                refine appi_op _ _ rfl ho2.out 1 A4 t c4 (nats (X.take t)) rfl rfl (some ⟨g1, 0, none⟩) 1 1 [(i : Int)] rfl rfl (Cells.of_block (ho2.out.get 0 rfl)) (by omega) ?_; intro A7 c7 w7 ho7 hk7
                refine hK.out _ _ (.inr (by simp [oblig])) ?_
                clear hK K hk7
                simp only [List.set_cons_zero, List.set_cons_succ] at ho7
                replace ho2 := Hidd.mk ho7
                clear ho7
                refine TrW.one (fun _ => True) trivial (StQ.nil ?_)
                refine TrO.go (by rfl) (fun K hK => ?_)
                refine appi_op _ _ rfl ho2.out 1 A7 (t + 1) c7 (nats (X.take t) ++ [(i : Int)]) rfl rfl B d (c - t) (nats (X.drop t)) rfl hdl (by rw [nats_drop, nums_drop]; exact hB2.out _ _ (row_cells ho2.out 2 rfl) hxl) (by omega) ?_; intro A9 c9 w9 ho9 hk9
                refine hK.out _ _ (.inr (by simp [oblig])) ?_
                clear hK K hk9
                simp only [List.set_cons_zero, List.set_cons_succ] at ho9
                replace ho2 := Hidd.mk ho9
                clear ho9
                refine TrW.leaf (fun _ => True) trivial ?_
                repeat (first | (refine StQ.skip (by rfl) ?_; simp only [Act.put, List.setIfInBounds_toArray, List.set_cons_zero, List.set_cons_succ]) | (refine StQ.go' (by rfl) (Exists.intro ?_ (And.intro (fun w' hS => ?_) ?_)); rotate_left; (focus (skip; go_simp; try with_reducible rfl)); simp only [Act.put, List.setIfInBounds_toArray, List.set_cons_zero, List.set_cons_succ]))
                refine StQ.nil ?_
                refine Calm.normal ?_
                have hend := Hidd.mk (ho2.out.reorder (M := [_, _]) [1, 3] rfl (by decide))
                rw [hnx.out] at hend
                clear ho2
                go_wp2
                go_roundw
                case rel => exact ⟨i + 1, t + 1 + d, A9, c9, _, by go_num, rfl, by omega, hsc, hlen, hend⟩
                case measure => (simp [intOf]; try omega)
            focus
              refine TrO.go (by rfl) (fun K hK => ?_); go_simp
              have hn := ho2.out.alloc (.cells #[.int .i64 (i : Int)] 3)
              refine hK.out _ _ (.inr (by simp [oblig])) ?_
              clear hK K
              replace ho2 := Hidd.mk hn
              clear hn
              generalize (World.heap _).size = g1 at ho2 ⊢
              generalize World.alloc _ _ = W3 at ho2 ⊢
              refine TrW.one (fun _ => True) trivial (StQ.nil ?_)
              refine TrO.go (by rfl) (fun K hK => ?_); go_simp
              have hn := row_lit ho2.out 3 1 0 #[] (nums .i64 []) rfl rfl (by decide)
              refine hK.out _ _ (.inr (by simp [oblig])) ?_
              clear hK K
              replace ho2 := Hidd.mk hn
              clear hn
              generalize (World.heap _).size = g0 at ho2 ⊢
              generalize World.alloc _ _ = W4 at ho2 ⊢
              refine TrW.one (fun _ => True) trivial (StQ.nil ?_)
              refine TrO.go (by rfl) (fun K hK => ?_)
              refine appi_op _ _ rfl ho2.out 0 (some ⟨g0, 0, none⟩) 0 0 [] rfl rfl A t c (nats (X.take t)) rfl htl (by rw [nats_take, nums_take]; exact (row_cells ho2.out 2 rfl).take _) (by omega) ?_; intro A4 c4 w4 ho4 hk4
              refine hK.out _ _ (.inr (by simp [oblig])) ?_
              clear hK K hk4
              simp only [List.set_cons_zero, List.nil_append, Nat.zero_add] at ho4
              (try rw [Nat.zero_add])
              replace ho2 := Hidd.mk ho4
              clear ho4
              refine TrW.one (fun _ => True) trivial (StQ.nil ?_)
              refine TrO.go (by rfl) (fun K hK => ?_)
              refine appi_op _ _ rfl ho2.out 0 A4 t c4 (nats (X.take t)) rfl rfl (some ⟨g1, 0, none⟩) 1 1 [(i : Int)] rfl rfl (Cells.of_block (ho2.out.get 1 rfl)) (by omega) ?_; intro A7 c7 w7 ho7 hk7
              refine hK.out _ _ (.inr (by simp [oblig])) ?_
              clear hK K hk7
              simp only [List.set_cons_zero] at ho7
              replace ho2 := Hidd.mk ho7
              clear ho7
              refine TrW.one (fun _ => True) trivial (StQ.nil ?_)
              refine TrO.go (by rfl) (fun K hK => ?_)
              refine appi_op _ _ rfl ho2.out 0 A7 (t + 1) c7 (nats (X.take t) ++ [(i : Int)]) rfl rfl B d (c - t) (nats (X.drop t)) rfl hdl (by rw [nats_drop, nums_drop]; exact hB2.out _ _ (row_cells ho2.out 2 rfl) hxl) (by omega) ?_; intro A9 c9 w9 ho9 hk9
              refine hK.out _ _ (.inr (by simp [oblig])) ?_
              clear hK K hk9
              simp only [List.set_cons_zero] at ho9
              replace ho2 := Hidd.mk ho9
              clear ho9
              refine TrW.leaf (fun _ => True) trivial ?_
              repeat (first | (refine StQ.skip (by rfl) ?_; simp only [Act.put, List.setIfInBounds_toArray, List.set_cons_zero, List.set_cons_succ]) | (refine StQ.go' (by rfl) (Exists.intro ?_ (And.intro (fun w' hS => ?_) ?_)); rotate_left; (focus (skip; go_simp; try with_reducible rfl)); simp only [Act.put, List.setIfInBounds_toArray, List.set_cons_zero, List.set_cons_succ]))
              refine StQ.nil ?_
              refine Calm.normal ?_
              have hend := Hidd.mk (ho2.out.reorder (M := [_, _]) [0, 3] rfl (by decide))
              rw [hnx.out] at hend
              clear ho2
              go_wp2
              go_roundw
              case rel => exact ⟨i + 1, t + 1 + d, A9, c9, _, by go_num, rfl, by omega, hsc, hlen, hend⟩
              case measure => (simp [intOf]; try omega)
      · rw [if_neg hn] at hsc
        have dn : (p.node != node) = true := by simpa using hn
        clear hn hp hst
        obtain ⟨q0, q1, q2, q3, q4, q5, q6, q7, q8⟩ := p
        simp only at y0 dn
        replace hsc := Hidd.mk hsc
        replace hcap := Hidd.mk hcap
        go_wp2
        go_roundw
        case rel => exact ⟨i + 1, k, A, c, X, by go_num, rfl, by omega, hsc, hk, ho⟩
        case measure => (simp [intOf]; try omega)
    · obtain rfl : pn = i := by omega
      obtain rfl : X = l := hX.out.symm.trans hl.out
      obtain rfl : ln = k := hln.out.symm.trans hk.out
      have h9 := Hidd.mk (ho.out.reorder (M := [_]) [0] rfl (by decide))
      go_wp2
      go_ret
      exact ⟨_, _, rfl, h9.out⟩
end Go.Proofs.Ytcamoldjljfbeaa
