/- sound.Order. -/
import Derived.Test.YtcamoldjljfbeaaSoS
namespace Go.Proofs.Ytcamoldjljfbeaa
open Go.RowKit

theorem info_int : (Try.prog.info? 3).map (fun i => (i.zero, i.size, i.bytes)) = some (some (.int .i64 0), 1, 8) := by kernel_rfl
/-- append(v, x...) of ints. -/
theorem appi {w w0 : World} {S : Nat → Prop} {L : List Res} {ops : Array Oper} {rest : List Oper} {o : Oper} {a : Act} {Q : Exit → Act → World → Prop} (hgd : o.guard = none) (s x : Operand)
    (ho : o.op = .call { callee := .builtin .append, args := #[s, x], argTypes := #[63, 63] })
    (hO : Own w0 S w L) (k : Nat) (A : Option Addr) (n cap : Nat) (xs : List Int) (hk : L[k]? = some (row 3 1 (.slice A n cap) n (nums .i64 xs))) (hs : a.eval s = .slice A n cap)
    (B : Option Addr) (m c : Nat) (ys : List Int) (hx : a.eval x = .slice B m c) (hl : ys.length = m) (hnews : Cells w B (nums .i64 ys)) (h63 : n + m ≤ 1000000000)
    (h : ∀ A' c' w', Own w0 S w' (L.set k (row 3 1 (.slice A' (n + m) c') (n + m) (nums .i64 (xs ++ ys)))) → wpList Try.prog ops Q rest (a.put o.dst (.slice A' (n + m) c')) w') : wpList Try.prog ops Q (o :: rest) a w := by
  obtain ⟨i0, hi, hz0, hz1, hz2⟩ := info_parts info_int
  refine wpList_row hgd s x 63 ho 3 i0 (.int .i64 0) 1 8 Try.underlying63 hi hz0 hz1 hz2 rfl (by decide) hO k A n cap _ hk hs B m c (nums .i64 ys) hx (by rw [nums_length, hl, Nat.mul_one]) hnews (ne_nil' hnews hl) (nums_one _ _) (by unfold maxLen; omega) (by omega) ?_
  rw [← nums_append]
  exact h
set_option maxRecDepth 100000
set_option maxHeartbeats 8000000
theorem isort_none (f : Value) (w : World) : Calls Try.prog 94 #[.slice none 0 0, .int .i64 0, .int .i64 0, f] w fun e w' => e = .returned (.tuple #[]) ∧ w = w' := by
  go_enter Try.func94, Try.ntmps94
  go_wp2
  go_loopw [8] (fun v8 wr => v8 = .int .i64 1 ∧ w = wr) (fun v8 _ => (0 : Nat))
  case atStart => exact ⟨rfl, rfl⟩
  case round =>
    obtain ⟨rfl, rfl⟩ := hrel
    go_wp2
    exact bodyPost_end (v := .tuple #[]) (by simp [results, Try.results94, go_sem]) rfl ⟨rfl, rfl⟩
theorem stable_of (A : Option Addr) (m c : Nat) (f : Value) (w : World) (R : World → Prop) (hm : m ≤ 12)
    (H : Calls Try.prog 94 #[.slice A m c, .int .i64 0, .int .i64 (m : Int), f] w fun e w' => e = .returned (.tuple #[]) ∧ R w') :
    Calls Try.prog 91 #[.slice A m c, .int .i64 (m : Int), f] w fun e w' => e = .returned (.tuple #[]) ∧ R w' := by
  have d1 : decide ((20 : Int) ≤ (m : Int)) = false := by rw [decide_eq_false_iff_not]; omega
  have d2 : decide ((20 : Int) < (m : Int)) = false := by rw [decide_eq_false_iff_not]; omega
  replace H := Hidd.mk H
  go_enter Try.func91, Try.ntmps91
  go_wp2
  go_loopw [7, 8] (fun v7 v8 wr => v7 = .int .i64 0 ∧ v8 = .int .i64 20 ∧ w = wr) (fun v7 v8 _ => (0 : Nat))
  case atStart => exact ⟨rfl, rfl, rfl⟩
  case round =>
    obtain ⟨rfl, rfl, rfl⟩ := hrel
    go_wp2_with (go_at_call 94; refine H.out.mono ?_; rintro e w1 ⟨rfl, hR1⟩; have hR := Hidd.mk hR1; clear hR1)
    go_loopw [6] (fun v6 wr => v6 = .int .i64 20 ∧ Hidd (R wr)) (fun v6 _ => (0 : Nat))
    case atStart => exact ⟨rfl, hR⟩
    case round =>
      clear hR
      obtain ⟨rfl, hR⟩ := hrel
      go_wp2
      exact bodyPost_end (v := .tuple #[]) (by simp [results, Try.results91, go_sem]) rfl ⟨rfl, hR.out⟩
theorem sortStable_of (A : Option Addr) (m c : Nat) (f : Value) (w : World) (R : World → Prop) (hm : m ≤ 12)
    (H : Calls Try.prog 94 #[.slice A m c, .int .i64 0, .int .i64 (m : Int), f] w fun e w' => e = .returned (.tuple #[]) ∧ R w') :
    Calls Try.prog 78 #[.slice A m c, f] w fun e w' => e = .returned (.tuple #[]) ∧ R w' := by
  replace H := Hidd.mk H
  replace hm := Hidd.mk hm
  go_enter Try.func78, Try.ntmps78
  go_wp2_with (go_at_call 91; refine (stable_of A m c f w R hm.out H.out).mono ?_; rintro e w1 ⟨rfl, hR1⟩; have hR := Hidd.mk hR1; clear hR1)
  exact bodyPost_end (v := .tuple #[]) (by simp [results, Try.results78, go_sem]) rfl ⟨rfl, hR.out⟩
theorem order_any (n f sl gp rh d0 d1 mg : Int) (PA : Option Addr) (pn pc : Nat) (OA : Option Addr) (on oc : Nat) (RA : Option Addr) (rn rc : Nat) (ps : List Pt) (node : Int) (w : World) (hP : At Pt.cells w PA pn ps) (hpn : pn ≤ 12) :
    Calls Try.prog 47 #[.agg #[.int .i64 n, .int .i64 f, .int .i64 sl, .int .i64 gp, .int .i64 rh, .int .i64 d0, .int .i64 d1, .int .i64 mg, .slice PA pn pc, .slice OA on oc, .slice RA rn rc], .int .i64 node] w fun e w' => ∃ A c l, e = .returned (.slice A l.length c) ∧ Ord ps node l ∧ Own w (fun _ => False) w' [row 3 1 (.slice A l.length c) l.length (nums .i64 (nats l))] := by
  have ho0 := Hidd.mk (row_nil ((Own.nil w (fun _ => False)).alloc (.cells #[.int .i64 n, .int .i64 f, .int .i64 sl, .int .i64 gp, .int .i64 rh, .int .i64 d0, .int .i64 d1, .int .i64 mg, .slice PA pn pc, .slice OA on oc, .slice RA rn rc] 26)) 3 1)
  have hpl := Hidd.mk hP.1
  replace hP := Hidd.mk hP
  have hsl := Hidd.mk (selL_len ps node)
  go_enter Try.func47, Try.ntmps47
  go_wp2
  generalize w.heap.size = p1 at ho0 ⊢
  generalize World.alloc w _ = W0 at ho0 ⊢
  go_loopw [5, 11] (fun v5 v11 wr => ∃ (i k : Nat) (A : Option Addr) (c : Nat), v11 = .int .i64 i ∧ v5 = .slice A k c ∧ i ≤ pn ∧ Hidd (k = (selL ps node i).length) ∧ Hidd (k = 0 → A = none ∧ c = 0) ∧ Hidd (Own w (fun _ => False) wr [row 3 1 (.slice A k c) k (nums .i64 (nats (selL ps node i))), blk p1 (.cells #[.int .i64 n, .int .i64 f, .int .i64 sl, .int .i64 gp, .int .i64 rh, .int .i64 d0, .int .i64 d1, .int .i64 mg, .slice PA pn pc, .slice OA on oc, .slice RA rn rc] 26 (0, 0))])) (fun _ v11 _ => pn - (intOf v11).toNat)
  case atStart => exact ⟨0, 0, none, 0, rfl, rfl, Nat.zero_le _, ⟨rfl⟩, ⟨fun _ => ⟨rfl, rfl⟩⟩, ho0⟩
  case round =>
    clear ho0
    obtain ⟨i, k, A, c, rfl, rfl, hil, hk, hz, ho⟩ := hrel
    obtain ⟨x0, x1, x2, x3, x4, x5, x6, x7, x8, x9, xA⟩ := cells11 ho.out 1 rfl
    have hlt1 := ho.out.lt 1 rfl
    by_cases hlt : i < pn
    · obtain ⟨p, hp⟩ : ∃ x, ps[i]? = some x := ⟨_, List.getElem?_eq_getElem (by rw [hpl.out]; exact hlt)⟩
      obtain ⟨a, rfl, y0, y1, y2, y3, y4, y5, y6, y7, y8⟩ := (hP.out.below (ho.out.below fun _ => id)).part hp
      have hyl := World.block_lt_of_cell? wr _ y0
      have bi0 : (0 : Int) ≤ (i : Int) := by omega
      have bi1 : (i : Int) < (pn : Int) := by omega
      have hsc := selL_succ ps node i
      rw [ndOf_at hp] at hsc
      have hk12 : k ≤ 12 := by have := hsl.out i; have := hk.out; omega
      clear hp
      obtain ⟨q0, q1, q2, q3, q4, q5, q6, q7, q8⟩ := p
      simp only at y0 y1 y2 y3 y4 y5 y6 y7 y8 hsc
      have ho1 := Hidd.mk (ho.out.alloc (.cells #[.int .i64 q0, .int .i64 q1, .int .i64 q2, .int .i64 q3, .int .i64 q4, .int .u8 (q5 : Int), .int .u8 (q6 : Int), .int .u8 (q7 : Int), .int .u8 (q8 : Int)] 38))
      by_cases hn : q0 = node
      · have dn : (q0 == node) = true := by simpa using hn
        rw [if_pos hn] at hsc
        replace hsc := Hidd.mk hsc
        clear hn
        go_wp2_with (at_builtin; refine appi rfl _ _ rfl (ho1.out.alloc _) 2 A k c _ rfl rfl _ 1 1 [(i : Int)] rfl rfl (Cells.new1 _ _ _ _ _ rfl) (by omega) ?_; intro A' c' w6 ho6)
        simp only [List.set_cons_zero, List.set_cons_succ] at ho6
        have hend := Hidd.mk ho6.tail.tail
        clear ho6
        rw [show nats (selL ps node i) ++ [(i : Int)] = nats (selL ps node (i + 1)) by rw [hsc.out, nats_app]; rfl] at hend
        go_roundw
        case rel => exact ⟨i + 1, k + 1, A', c', by go_num, rfl, by omega, ⟨by rw [hsc.out, List.length_append, ← hk.out]; rfl⟩, ⟨fun h => by omega⟩, hend⟩
        case measure => (simp [intOf]; try omega)
      · have dn : (q0 == node) = false := by simpa using hn
        rw [if_neg hn] at hsc
        replace hsc := Hidd.mk hsc
        clear hn
        have hend := Hidd.mk ho1.out.tail
        go_wp2
        go_roundw
        case rel => exact ⟨i + 1, k, A, c, by go_num, rfl, by omega, ⟨by rw [hsc.out]; exact hk.out⟩, hz, by rw [hsc.out]; exact hend⟩
        case measure => (simp [intOf]; try omega)
    · obtain rfl : pn = i := by omega
      have hO0 : (selL ps node pn).Perm (selL ps node ps.length) := by rw [hpl.out]
      clear hlt hil hlt1
      clear x0 x1 x2 x3 x4 x5 x6 x7 x8 x9 xA
      have hk12 : k ≤ 12 := by have := hsl.out pn; have := hk.out; omega
      rcases k with _ | k
      · have hl0 : selL ps node pn = [] := List.length_eq_zero_iff.1 hk.out.symm
        rw [hl0] at ho hO0
        clear hk
        obtain ⟨rfl, rfl⟩ := hz.out rfl
        have H2 := Hidd.mk (sortStable_of none 0 0 (.func (.func 79) #[] #[.pointer (some ⟨p1, 0, none⟩)]) wr _ (by decide) (isort_none _ _))
        have h9 := Hidd.mk (ho.out.reorder (M := [_]) [0] rfl (by decide))
        go_wp2_with (go_at_call 78; refine H2.out.mono ?_; rintro e w1 ⟨rfl, rfl⟩)
        go_ret
        exact ⟨none, 0, [], rfl, ⟨hO0, List.Pairwise.nil⟩, h9.out⟩
      · obtain ⟨g, rfl, hg⟩ := head_any (show wr.ownsRow 0 3 1 (.slice A (k + 1) c) (k + 1) _ from ho.out.get 0 rfl) (by omega)
        have hg0 : w.heap.size ≤ g := (ho.out.own _ List.mem_cons_self g rfl).resolve_left id
        have hpg : p1 ≠ g := fun e => by
          have := ho.out.apart 0 1 rfl rfl (by decide) g rfl
          exact this e.symm
        have H := isort_any n f sl gp rh d0 d1 mg PA pn pc OA on oc RA rn rc ps p1 g (k + 1) c (selL ps node pn) wr (ho.out.get 0 rfl) (ho.out.get 1 rfl) (hP.out.below (ho.out.below fun _ => id)) hpg (fun a ha => by
          rcases Nat.eq_zero_or_pos ps.length with h0 | h0
          · exfalso
            have h1 := hsl.out pn
            have h2 := hk.out
            have h3 := hpl.out
            omega
          · obtain ⟨a', e, h'⟩ := hP.out.2 0 _ ((flat_get pcells_len ps 0 0 _ (List.getElem?_eq_getElem h0) (by decide)).trans rfl)
            rw [ha] at e
            injection e with e
            subst e
            have := World.block_lt_of_cell? w _ h'
            rw [addr_zero] at this
            omega) (fun x hx => (mem_selL.1 hx).1) hk.out.symm (by omega) hk12 hpn
        have H2 := Hidd.mk (sortStable_of (some ⟨g, 0, none⟩) (k + 1) c _ wr _ hk12 H)
        clear H
        go_wp2_with (go_at_call 78; refine H2.out.mono ?_; rintro e w1 ⟨rfl, D, hD, hoD⟩; have hD2 := Hidd.mk hD; have hoD2 := Hidd.mk (ho.out.call 0 rfl hoD); clear hD hoD)
        have hl := hD2.out.perm.length_eq
        rw [← hk.out] at hl
        have h9 := Hidd.mk (hoD2.out.reorder (M := [_]) [0] rfl (by decide))
        go_ret
        exact ⟨some ⟨g, 0, none⟩, c, D, by rw [hl]; rfl, ⟨hD2.out.perm.trans hO0, hD2.out.pairwise (by omega)⟩, by rw [hl]; exact h9.out⟩
end Go.Proofs.Ytcamoldjljfbeaa
