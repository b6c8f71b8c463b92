/- The windows, in plain words, and as the program looks at them. -/
import Derived.Test.YtcamoldjljfbeaaSoD
import Derived.Test.YtcamoldjljfbeaaSoC
namespace Go.Proofs.Ytcamoldjljfbeaa
open Go.RowKit

def clash (p q : Pt) : Bool := decide (q.node = p.node) && (decide (p.start < q.start + q.len) && decide (q.start < p.start + p.len))
def winBad (N : Int) (pre : List Pt) (p : Pt) : Bool := decide (N < p.start + p.len) || pre.any (clash p)
def winF (N : Int) : List Pt → List Pt → Nat → Option Nat
  | _, [], _ => none
  | pre, p :: l, i => if winBad N pre p then some i else winF N (pre ++ [p]) l (i + 1)
def ansI : Option Nat → Int
  | none => -1
  | some i => (i : Int)
theorem take_one {α : Type} {l : List α} {i : Nat} {x : α} (h : l[i]? = some x) : l.take (i + 1) = l.take i ++ [x] := by
  rw [List.take_add_one, h]; rfl
theorem winF_step {N : Int} {ps : List Pt} {i : Nat} {p : Pt} (h : ps[i]? = some p) : winF N (ps.take i) (ps.drop i) i = if winBad N (ps.take i) p then some i else winF N (ps.take (i + 1)) (ps.drop (i + 1)) (i + 1) := by
  rw [drop_at h, winF, ← take_one h]
theorem any_take {α : Type} {l : List α} {f : α → Bool} {k : Nat} {x : α} (h : l[k]? = some x) : (l.take (k + 1)).any f = ((l.take k).any f || f x) := by
  rw [take_one h, List.any_append]; simp
theorem any_at {α : Type} {l : List α} {f : α → Bool} {k i : Nat} {x : α} (h : l[k]? = some x) (hk : k < i) (hx : f x = true) : (l.take i).any f = true := by
  rw [List.any_eq_true]
  exact ⟨x, List.mem_iff_getElem?.2 ⟨k, by rw [List.getElem?_take_of_lt hk]; exact h⟩, hx⟩
/-- What is known of a partition in its ranges. -/
structure PtIn (p : Pt) : Prop where
  a : 0 ≤ p.start
  b : p.start ≤ 268435456
  c : 1 ≤ p.len
  d : p.len ≤ 268435456
theorem PtIn.of {p : Pt} {n : Int} (h : ptB p n = true) : PtIn p := by
  simp only [ptB, inB, Bool.and_eq_true, decide_eq_true_eq] at h
  obtain ⟨_, ⟨⟨⟨h1, h2⟩, h3⟩, h4⟩, h5⟩ := h
  exact ⟨h2.1, h2.2, h3.1, h3.2⟩
set_option maxRecDepth 100000
set_option maxHeartbeats 8000000
theorem windows_any (n f sl gp rh d0 d1 mg : Int) (PA : Option Addr) (pn pc : Nat) (OA : Option Addr) (on oc : Nat) (RA : Option Addr) (rn rc : Nat) (ps : List Pt) (w : World) (hP : At Pt.cells w PA pn ps) (hs : Sc n f sl gp rh d0 d1 mg) (hi : ∀ p ∈ ps, PtIn p) (hpn : pn ≤ 12) (hpc : pn ≤ pc) (hpm : pc ≤ 9223372036854775807) (r : Int) (hr : ansI (winF (nsl n sl) [] ps 0) = r) :
    Calls Try.prog 54 #[.agg #[.int .i64 n, .int .i64 f, .int .i64 sl, .int .i64 gp, .int .i64 rh, .int .i64 d0, .int .i64 d1, .int .i64 mg, .slice PA pn pc, .slice OA on oc, .slice RA rn rc]] w fun e w' => e = .returned (.int .i64 r) ∧ Below w.heap.size w w' := by
  have ho := Hidd.mk ((Own.nil w (fun _ => False)).alloc (.cells #[.int .i64 n, .int .i64 f, .int .i64 sl, .int .i64 gp, .int .i64 rh, .int .i64 d0, .int .i64 d1, .int .i64 mg, .slice PA pn pc, .slice OA on oc, .slice RA rn rc] 26))
  have hpl := Hidd.mk hP.1
  replace hP := Hidd.mk hP
  replace hi := Hidd.mk hi
  replace hr := Hidd.mk hr
  have hN := hs.nsl
  obtain ⟨N, hNe⟩ : ∃ N, nsl n sl = N := ⟨_, rfl⟩
  rw [hNe] at hN hr
  unfold nsl at hNe
  have hN1 := hN.1
  have hN2 := hN.2
  clear hs hN
  go_enter Try.func54, Try.ntmps54
  go_wp2
  generalize w.heap.size = p1 at ho ⊢
  generalize World.alloc w _ = wa at ho ⊢
  go_loopw [10] (fun v10 wr => ∃ i : Nat, v10 = .int .i64 i ∧ i ≤ pn ∧ Hidd (winF N (ps.take i) (ps.drop i) i = winF N [] ps 0) ∧ Hidd (Own w (fun _ => False) wr [blk p1 (.cells #[.int .i64 n, .int .i64 f, .int .i64 sl, .int .i64 gp, .int .i64 rh, .int .i64 d0, .int .i64 d1, .int .i64 mg, .slice PA pn pc, .slice OA on oc, .slice RA rn rc] 26)])) (fun v10 _ => pn - (intOf v10).toNat)
  case atStart => exact ⟨0, rfl, Nat.zero_le _, ⟨rfl⟩, ho⟩
  case round =>
    clear ho
    obtain ⟨i, rfl, hil, hre, ho⟩ := hrel
    obtain ⟨x0, x1, x2, x3, x4, x5, x6, x7, x8, x9, xA⟩ := cells11 ho.out 0 rfl
    have hlt1 := ho.out.lt 0 rfl
    by_cases hlt : i < pn
    · obtain ⟨p, hp⟩ : ∃ x, ps[i]? = some x := ⟨_, List.getElem?_eq_getElem (by rw [hpl.out]; exact hlt)⟩
      obtain ⟨i1, i2, i3, i4⟩ := hi.out p (List.mem_of_getElem? hp)
      obtain ⟨a, rfl, y0, y1, y2, y3, y4, y5, y6, y7, y8⟩ := (hP.out.below (ho.out.below fun _ => id)).part hp
      have hdr := hre.out
      rw [winF_step hp] at hdr
      have hyl := World.block_lt_of_cell? wr _ y0
      have bi0 : (0 : Int) ≤ (i : Int) := by omega
      have bi1 : (i : Int) < (pn : Int) := by omega
      clear hp hre
      obtain ⟨q0, q1, q2, q3, q4, q5, q6, q7, q8⟩ := p
      simp only at y0 y1 y2 y3 y4 y5 y6 y7 y8 i1 i2 i3 i4
      by_cases hb0 : N < q1 + q2
      · have hwb : winBad N (ps.take i) ⟨q0, q1, q2, q3, q4, q5, q6, q7, q8⟩ = true := by simp [winBad, hb0]
        rw [hwb, if_pos rfl] at hdr
        have hres : Hidd (r = (i : Int)) := ⟨by rw [← hr.out, ← hdr]; rfl⟩
        have db : decide (N < q1 + q2) = true := by simpa using hb0
        clear hdr hb0 hwb
        go_wp2
        go_ret
        exact ⟨ret_int hres.out.symm, ((ho.out.alloc _).below fun _ => id)⟩
      · have db : decide (N < q1 + q2) = false := by simpa using hb0
        have hwb : winBad N (ps.take i) ⟨q0, q1, q2, q3, q4, q5, q6, q7, q8⟩ = (ps.take i).any (clash ⟨q0, q1, q2, q3, q4, q5, q6, q7, q8⟩) := by simp [winBad, hb0]
        rw [hwb] at hdr
        replace hdr := Hidd.mk hdr
        have ho4 := Hidd.mk (ho.out.alloc (.cells #[.int .i64 q0, .int .i64 q1, .int .i64 q2, .int .i64 q3, .int .i64 q4, .int .u8 (q5 : Int), .int .u8 (q6 : Int), .int .u8 (q7 : Int), .int .u8 (q8 : Int)] 38))
        clear hb0 hwb
        go_wp2
        generalize wr.heap.size = p4 at ho4 ⊢
        generalize World.alloc wr _ = wb at ho4 ⊢
        clear x0 x1 x2 x3 x4 x5 x6 x7 x8 x9 xA y0 y1 y2 y3 y4 y5 y6 y7 y8 hyl hlt1
        go_loopw [32] (fun v32 wz => ∃ k : Nat, v32 = .int .i64 k ∧ k ≤ i ∧ Hidd ((ps.take k).any (clash ⟨q0, q1, q2, q3, q4, q5, q6, q7, q8⟩) = false) ∧ Hidd (Own w (fun _ => False) wz [blk p4 (.cells #[.int .i64 q0, .int .i64 q1, .int .i64 q2, .int .i64 q3, .int .i64 q4, .int .u8 (q5 : Int), .int .u8 (q6 : Int), .int .u8 (q7 : Int), .int .u8 (q8 : Int)] 38), blk p1 (.cells #[.int .i64 n, .int .i64 f, .int .i64 sl, .int .i64 gp, .int .i64 rh, .int .i64 d0, .int .i64 d1, .int .i64 mg, .slice (some a) pn pc, .slice OA on oc, .slice RA rn rc] 26)])) (fun v32 _ => i - (intOf v32).toNat)
        case atStart => exact ⟨0, rfl, Nat.zero_le _, ⟨rfl⟩, ho4⟩
        case round =>
          clear ho4
          obtain ⟨k, rfl, hk, hcl, ho4⟩ := hrel
          by_cases hlk : k < i
          · obtain ⟨q, hq⟩ : ∃ x, ps[k]? = some x := ⟨_, List.getElem?_eq_getElem (by rw [hpl.out]; omega)⟩
            obtain ⟨j1, j2, j3, j4⟩ := hi.out q (List.mem_of_getElem? hq)
            obtain ⟨a', ea, y0, y1, y2, y3, y4, y5, y6, y7, y8⟩ := (hP.out.below (ho4.out.below fun _ => id)).part hq
            injection ea with ea
            subst ea
            have hst := any_take (f := clash ⟨q0, q1, q2, q3, q4, q5, q6, q7, q8⟩) hq
            have hat := any_at (f := clash ⟨q0, q1, q2, q3, q4, q5, q6, q7, q8⟩) hq hlk
            rw [hcl.out, Bool.false_or] at hst
            have z0 := ho4.out.cell 0 rfl 0
            have z1 := ho4.out.cell 0 rfl 1
            have z2 := ho4.out.cell 0 rfl 2
            simp at z0 z1 z2
            have hyl := World.block_lt_of_cell? _ _ y0
            have hpl4 := ho4.out.lt 0 rfl
            have bk0 : (0 : Int) ≤ (k : Int) := by omega
            have bk1 : (k : Int) < (i : Int) := by omega
            clear hq hcl
            obtain ⟨u0, u1, u2, u3, u4, u5, u6, u7, u8⟩ := q
            simp only at y0 y1 y2 y3 y4 y5 y6 y7 y8 j1 j2 j3 j4
            simp only [clash] at hst hat
            replace hst := Hidd.mk hst
            replace hat := Hidd.mk hat
            by_cases c0 : u0 = q0
            · have e0 : (u0 == q0) = true := by simpa using c0
              by_cases c1 : q1 < u1 + u2
              · have e1 : decide (q1 < u1 + u2) = true := by simpa using c1
                by_cases c2 : u1 < q1 + q2
                · have e2 : decide (u1 < q1 + q2) = true := by simpa using c2
                  have hres : Hidd (r = (i : Int)) := ⟨by rw [← hr.out, ← hdr.out, hat.out (by simp [c0, c1, c2]), if_pos rfl]; rfl⟩
                  clear c0 c1 c2
                  go_wp2
                  go_ret
                  exact ⟨ret_int hres.out.symm, ((ho4.out.alloc _).below fun _ => id)⟩
                · have e2 : decide (u1 < q1 + q2) = false := by simpa using c2
                  have hn : Hidd ((ps.take (k + 1)).any (clash ⟨q0, q1, q2, q3, q4, q5, q6, q7, q8⟩) = false) := ⟨by rw [hst.out]; simp [c2]⟩
                  clear c0 c1 c2
                  go_wp2
                  go_roundw
                  case rel => exact ⟨k + 1, by go_num, by omega, hn, ⟨(ho4.out.alloc _).tail⟩⟩
                  case measure => (simp [intOf]; try omega)
              · have e1 : decide (q1 < u1 + u2) = false := by simpa using c1
                have hn : Hidd ((ps.take (k + 1)).any (clash ⟨q0, q1, q2, q3, q4, q5, q6, q7, q8⟩) = false) := ⟨by rw [hst.out]; simp [c1]⟩
                clear c0 c1
                go_wp2
                go_roundw
                case rel => exact ⟨k + 1, by go_num, by omega, hn, ⟨(ho4.out.alloc _).tail⟩⟩
                case measure => (simp [intOf]; try omega)
            · have e0 : (u0 == q0) = false := by simpa using c0
              have hn : Hidd ((ps.take (k + 1)).any (clash ⟨q0, q1, q2, q3, q4, q5, q6, q7, q8⟩) = false) := ⟨by rw [hst.out]; simp [c0]⟩
              clear c0
              go_wp2
              go_roundw
              case rel => exact ⟨k + 1, by go_num, by omega, hn, ⟨(ho4.out.alloc _).tail⟩⟩
              case measure => (simp [intOf]; try omega)
          · obtain rfl : k = i := by omega
            have hn : Hidd (winF N (ps.take (k + 1)) (ps.drop (k + 1)) (k + 1) = winF N [] ps 0) := ⟨by rw [← hdr.out, hcl.out]; rfl⟩
            go_wp2
            go_roundw
            case rel => exact ⟨k + 1, by go_num, by omega, hn, ⟨ho4.out.tail⟩⟩
            case measure => (simp [intOf]; try omega)
    · obtain rfl : i = pn := by omega
      have hm0 : winF N [] ps 0 = none := by
        rw [← hre.out, List.drop_of_length_le (by rw [hpl.out]; exact Nat.le_refl _)]
        rfl
      have hres : Hidd (r = -1) := ⟨by rw [← hr.out, hm0]; rfl⟩
      clear hm0
      go_wp2
      go_ret
      exact ⟨ret_int hres.out.symm, ho.out.below fun _ => id⟩
end Go.Proofs.Ytcamoldjljfbeaa
