/- The reference's Next of windows. -/
import Derived.Test.YtcamoldjljfbeaaSoZc
namespace Go.Proofs.Ytcamoldjljfbeaa
open Go.RowKit

set_option maxRecDepth 100000
set_option maxHeartbeats 8000000
theorem rNext_any (n f sl gp rh d0 d1 mg : Int) (PA : Option Addr) (pn pc : Nat) (OA : Option Addr) (on oc : Nat) (RA : Option Addr) (rn rc : Nat) (ps : List Pt) (node t : Int) (w : World) (hP : At Pt.cells w PA pn ps) (hpn : pn ≤ 12) (hi : ∀ p ∈ ps, PtIn p) :
    Calls Try.prog 38 #[.agg #[.int .i64 n, .int .i64 f, .int .i64 sl, .int .i64 gp, .int .i64 rh, .int .i64 d0, .int .i64 d1, .int .i64 mg, .slice PA pn pc, .slice OA on oc, .slice RA rn rc], .int .i64 node, .int .i64 t] w fun e w' => ∃ b fd, e = .returned (.tuple #[.int .i64 b, .bool fd]) ∧ NextOf (EndOf ps node) t b fd ∧ Below w.heap.size w w' := by
  have ho0 := Hidd.mk ((Own.nil w (fun _ => False)).alloc (.cells #[.int .i64 n, .int .i64 f, .int .i64 sl, .int .i64 gp, .int .i64 rh, .int .i64 d0, .int .i64 d1, .int .i64 mg, .slice PA pn pc, .slice OA on oc, .slice RA rn rc] 26))
  have hpl := Hidd.mk hP.1
  replace hP := Hidd.mk hP
  replace hi := Hidd.mk hi
  go_enter Try.func38, Try.ntmps38
  go_wp2
  generalize w.heap.size = p1 at ho0 ⊢
  generalize World.alloc w _ = W0 at ho0 ⊢
  go_loopw [8, 9, 10] (fun v8 v9 v10 wr => ∃ (i : Nat) (b : Int) (fd : Bool), v10 = .int .i64 i ∧ v8 = .int .i64 b ∧ v9 = .bool fd ∧ i ≤ pn ∧ Hidd (NextOf (EndB ps node i) t b fd) ∧ Hidd (Own w (fun _ => False) wr [blk p1 (.cells #[.int .i64 n, .int .i64 f, .int .i64 sl, .int .i64 gp, .int .i64 rh, .int .i64 d0, .int .i64 d1, .int .i64 mg, .slice PA pn pc, .slice OA on oc, .slice RA rn rc] 26)])) (fun _ _ v10 _ => pn - (intOf v10).toNat)
  case atStart => exact ⟨0, 0, false, rfl, rfl, rfl, Nat.zero_le _, ⟨NextOf.none _ (fun e ⟨x, h, _⟩ => by omega) t⟩, ho0⟩
  case round =>
    clear ho0
    obtain ⟨i, b, fd, rfl, rfl, rfl, hil, hno, ho⟩ := hrel
    obtain ⟨x0, x1, x2, x3, x4, x5, x6, x7, x8, x9, xA⟩ := cells11 ho.out 0 rfl
    have hlt1 := ho.out.lt 0 rfl
    by_cases hlt : i < pn
    · obtain ⟨p, hp⟩ : ∃ x, ps[i]? = some x := ⟨_, List.getElem?_eq_getElem (by rw [hpl.out]; exact hlt)⟩
      obtain ⟨i1, i2, i3, i4⟩ := hi.out p (List.mem_of_getElem? hp)
      obtain ⟨a, rfl, y0, y1, y2, y3, y4, y5, y6, y7, y8⟩ := (hP.out.below (ho.out.below fun _ => id)).part hp
      have hyl := World.block_lt_of_cell? wr _ y0
      have bi0 : (0 : Int) ≤ (i : Int) := by omega
      have bi1 : (i : Int) < (pn : Int) := by omega
      have hnd := ndOf_at hp
      have hst := stOf_at hp
      have hln := lnOf_at hp
      have hyes : Hidd (p.node = node → ∀ e, ((EndB ps node i e ∨ e = p.start) ∨ e = p.start + p.len) ↔ EndB ps node (i + 1) e) := ⟨fun h e => by rw [← hst, ← hln]; exact EndB.yes (hnd.trans h) e⟩
      have hnon : Hidd (p.node ≠ node → ∀ e, EndB ps node i e ↔ EndB ps node (i + 1) e) := ⟨fun h e => EndB.no (fun k => h (hnd.symm.trans k)) e⟩
      clear hp hnd hst hln
      obtain ⟨q0, q1, q2, q3, q4, q5, q6, q7, q8⟩ := p
      simp only at y0 y1 y2 y3 y4 y5 y6 y7 y8 i1 i2 i3 i4 hyes hnon
      have va : IntKind.i64.wrap (q1 + q2) = q1 + q2 := IntWalk.i64_in _ (by omega)
      have ho4 := ho.out.alloc (.cells #[.int .i64 q0, .int .i64 q1, .int .i64 q2, .int .i64 q3, .int .i64 q4, .int .u8 (q5 : Int), .int .u8 (q6 : Int), .int .u8 (q7 : Int), .int .u8 (q8 : Int)] 38)
      have ho5 := row_lit' ho4 3 1 2 #[.int .i64 q1, .int .i64 (q1 + q2)] (nums .i64 [q1, q1 + q2]) (wr.heap.size + 1) (by simp) rfl rfl (by decide)
      replace ho5 := Hidd.mk ho5
      clear ho4
      go_upto_region 7 with fail
      clear x0 x1 x2 x3 x4 x5 x6 x7 x8 x9 xA y0 y1 y2 y3 y4 y5 y6 y7 y8 hyl hlt1 ho
      generalize World.alloc (World.alloc wr _) _ = wz at ho5 ⊢
      generalize wr.heap.size + 1 = g at ho5 ⊢
      generalize wr.heap.size = p4 at ho5 ⊢
      obtain ⟨E, hE⟩ : ∃ E, EndB ps node i = E := ⟨_, rfl⟩
      rw [hE] at hno hyes hnon
      clear hE va
      by_cases c0 : q0 = node
      · have e9 : (q0 == node) = true := by simpa using c0
        have hye2 := Hidd.mk (hyes.out c0)
        clear c0 hyes hnon
        go_wp2
        go_loopw [8, 9, 13] (fun v8 v9 v13 wr => ∃ (k : Nat) (b : Int) (fd : Bool), v13 = .int .i64 k ∧ v8 = .int .i64 b ∧ v9 = .bool fd ∧ k ≤ 2 ∧ Hidd (NextOf (Ends3 E q1 (q1 + q2) k) t b fd) ∧ Hidd (Own w (fun _ => False) wr [row 3 1 (.slice (some ⟨g, 0, none⟩) 2 2) 2 (nums .i64 [q1, q1 + q2]), blk p4 (.cells #[.int .i64 q0, .int .i64 q1, .int .i64 q2, .int .i64 q3, .int .i64 q4, .int .u8 (q5 : Int), .int .u8 (q6 : Int), .int .u8 (q7 : Int), .int .u8 (q8 : Int)] 38), blk p1 (.cells #[.int .i64 n, .int .i64 f, .int .i64 sl, .int .i64 gp, .int .i64 rh, .int .i64 d0, .int .i64 d1, .int .i64 mg, .slice (some a) pn pc, .slice OA on oc, .slice RA rn rc] 26)])) (fun _ _ v13 _ => 2 - (intOf v13).toNat)
        case atStart => exact ⟨0, b, fd, rfl, rfl, rfl, by omega, hno, ho5⟩
        case round =>
          clear hno ho5
          obtain ⟨k, b, fd, rfl, rfl, rfl, hk2, hno, ho⟩ := hrel
          by_cases hk : k < 2
          · obtain ⟨x, hix, hse⟩ : ∃ x : Int, ([q1, q1 + q2] : List Int)[k]? = some x ∧ ∀ e, (Ends3 E q1 (q1 + q2) k e ∨ e = x) ↔ Ends3 E q1 (q1 + q2) (k + 1) e := by
              rcases k with _ | k
              · exact ⟨q1, rfl, fun e => Iff.rfl⟩
              · obtain rfl : k = 0 := by omega
                exact ⟨q1 + q2, rfl, fun e => Iff.rfl⟩
            have z0 := cells_at (v := .int .i64 x) (j := k) (row_cells ho.out 0 rfl) (by unfold nums; rw [List.getElem?_map, hix]; rfl)
            have y0 := ho.out.cell 1 rfl 0
            simp at y0
            have bk1 : (k : Int) < 2 := by omega
            have bk0 : (0 : Int) ≤ (k : Int) := by omega
            replace hse := Hidd.mk hse
            clear hix
            by_cases c0 : t < x
            · have e0 := decide_eq_true c0
              cases fd
              · have hend := Hidd.mk ((hno.out.take c0 (by intro h; cases h)).same hse.out)
                clear c0 hno
                go_wp2
                go_roundw
                case rel => exact ⟨k + 1, _, true, by go_num, rfl, rfl, by omega, hend, ho⟩
                case measure => (simp [intOf]; try omega)
              · by_cases c1 : x < b
                · have e1 := decide_eq_true c1
                  have hend := Hidd.mk ((hno.out.take c0 fun _ => by omega).same hse.out)
                  clear c0 hno c1
                  go_wp2
                  go_roundw
                  case rel => exact ⟨k + 1, _, true, by go_num, rfl, rfl, by omega, hend, ho⟩
                  case measure => (simp [intOf]; try omega)
                · have e1 := decide_eq_false c1
                  have hend := Hidd.mk ((hno.out.skip fun _ => ⟨rfl, by omega⟩).same hse.out)
                  clear c0 hno c1
                  go_wp2
                  go_roundw
                  case rel => exact ⟨k + 1, _, true, by go_num, rfl, rfl, by omega, hend, ho⟩
                  case measure => (simp [intOf]; try omega)
            · have e0 := decide_eq_false c0
              have hend := Hidd.mk ((hno.out.skip fun h => absurd h c0).same hse.out)
              clear c0 hno
              go_wp2
              go_roundw
              case rel => exact ⟨k + 1, b, fd, by go_num, rfl, rfl, by omega, hend, ho⟩
              case measure => (simp [intOf]; try omega)
          · obtain rfl : k = 2 := by omega
            have hend := Hidd.mk (hno.out.same (F := EndB ps node (i + 1)) hye2.out)
            have hend2 := Hidd.mk ho.out.tail.tail
            clear hno
            go_wp2
            go_roundw
            case rel => exact ⟨i + 1, b, fd, by go_num, rfl, rfl, by omega, hend, hend2⟩
            case measure => (simp [intOf]; try omega)
      · have e9 : (q0 == node) = false := by simpa using c0
        have hno2 := Hidd.mk (hno.out.same (F := EndB ps node (i + 1)) (hnon.out c0))
        clear c0 hyes hnon hno
        go_wp2
        go_loopw [8, 9, 13] (fun v8 v9 v13 wr => ∃ (k : Nat), v13 = .int .i64 k ∧ v8 = .int .i64 b ∧ v9 = .bool fd ∧ k ≤ 2 ∧ Hidd (Own w (fun _ => False) wr [row 3 1 (.slice (some ⟨g, 0, none⟩) 2 2) 2 (nums .i64 [q1, q1 + q2]), blk p4 (.cells #[.int .i64 q0, .int .i64 q1, .int .i64 q2, .int .i64 q3, .int .i64 q4, .int .u8 (q5 : Int), .int .u8 (q6 : Int), .int .u8 (q7 : Int), .int .u8 (q8 : Int)] 38), blk p1 (.cells #[.int .i64 n, .int .i64 f, .int .i64 sl, .int .i64 gp, .int .i64 rh, .int .i64 d0, .int .i64 d1, .int .i64 mg, .slice (some a) pn pc, .slice OA on oc, .slice RA rn rc] 26)])) (fun _ _ v13 _ => 2 - (intOf v13).toNat)
        case atStart => exact ⟨0, rfl, rfl, rfl, by omega, ho5⟩
        case round =>
          clear ho5
          obtain ⟨k, rfl, rfl, rfl, hk2, ho⟩ := hrel
          by_cases hk : k < 2
          · have y0 := ho.out.cell 1 rfl 0
            simp at y0
            have bk1 : (k : Int) < 2 := by omega
            go_wp2
            go_roundw
            case rel => exact ⟨k + 1, by go_num, rfl, rfl, by omega, ho⟩
            case measure => (simp [intOf]; try omega)
          · obtain rfl : k = 2 := by omega
            have hend2 := Hidd.mk ho.out.tail.tail
            go_wp2
            go_roundw
            case rel => exact ⟨i + 1, b, fd, by go_num, rfl, rfl, by omega, hno2, hend2⟩
            case measure => (simp [intOf]; try omega)
    · obtain rfl : pn = i := by omega
      have hend := Hidd.mk (hno.out.same (F := EndOf ps node) fun e => by rw [← hpl.out]; exact EndB.all ps node e)
      go_wp2
      go_ret2
      exact ⟨_, _, rfl, hend.out, ho.out.below fun _ => id⟩
end Go.Proofs.Ytcamoldjljfbeaa
