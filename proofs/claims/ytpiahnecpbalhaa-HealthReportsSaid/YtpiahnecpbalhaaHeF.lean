/- An error over an error; the fixed facts of layer 15. -/
import Derived.Test.YtpiahnecpbalhaaHeE
import Derived.Test.YtpiahnecpbalhaaHeB
namespace Go.Proofs.Ytpiahnecpbalhaa
open Go.RowKit

set_option maxRecDepth 100000
set_option maxHeartbeats 4000000
theorem wrapR_any (c a : Int) (t : TypeId) (p : Value) (l : List (Int × Int)) (r : Option Int) (w : World) (hc : c ≠ 0) (ha : -1 ≤ a) (hl : IsErr w l r (.iface t p)) : Calls Try.prog 32 #[.int .i64 c, .int .i64 a, .iface t p] w fun e w' => ∃ b, e = .returned (.iface 94 (.pointer (some ⟨b, 0, none⟩))) ∧ IsErr w' ((c, a) :: l) r (.iface 94 (.pointer (some ⟨b, 0, none⟩))) ∧ Below w.heap.size w w' := by
  have hcd : (c == 0) = false := by rw [beq_eq_false_iff_ne]; exact hc
  have hob := Hidd.mk ((Own.nil w (fun _ => False)).alloc (.cells #[.int .i64 c, .int .i64 a, .iface t p] 96))
  replace hl := Hidd.mk hl
  go_enter Try.func32, Try.ntmps32
  go_wp2
  go_ret
  have hB := hob.out.below fun _ => id
  exact ⟨_, rfl, ⟨_, _, rfl, hob.out.get 0 rfl, hl.out.below hB⟩, hB⟩
theorem awake_any (w : World) : Calls Try.prog 14 #[] w fun e w' => e = .returned (.bool true) ∧ Below w.heap.size w w' := by
  go_enter Try.func14, Try.ntmps14
  go_wp2_with (first
    | (go_at_call 32; refine (wrapR_any 17 3 _ _ [] (some 10) _ (by decide) (by decide) rfl).mono ?_; rintro e w1 ⟨b1, rfl, he1, hb1⟩; have he1 := Hidd.mk he1; have hb1 := Hidd.mk hb1)
    | (go_at_call 34; have hq := hb1.out; clear hq; refine (kind_any [(17, 3)] (some 10) _ _ he1.out 3 true (by decide)).mono ?_; rintro e w2 ⟨rfl, rfl⟩)
    | (go_at_call 15; have hq := hb1.out; clear hq; refine (new_own 1 _ 1 1 [⟨0, 0, 0, 0, 0, 0, 0, 1, 0⟩] _ (Cells.new _ _ _ _ rfl) rfl (by decide)).mono ?_; rintro e w3 ⟨b, M, rfl, hn3⟩; have hb3 := Hidd.mk (below_alloc hb1.out (.cells (Pt.cells ⟨0, 0, 0, 0, 0, 0, 0, 1, 0⟩).toArray 31 (0, 0))); have ho3 := Hidd.mk hn3; clear hn3 hb1)
    | (go_at_call 20; have hq := ho3.out; clear hq; refine (report_own 1 0 ho3.out rfl 4 2 0 (by decide) (by decide) (by decide) (by decide) (by decide) ⟨0, 0, 0, 0, 0, 0, 0, 1, 0⟩ rfl 1 rfl 0 0 rfl rfl (by decide) (by decide) (by decide) (by decide) (by decide) 1 5 1 (by decide)).mono ?_; rintro e w4 ⟨OA4, oc4, rfl, ho4⟩; have ho4 := Hidd.mk ho4; clear ho3)
    | (go_at_call 20; have hq := ho4.out; clear hq; refine (report_own 1 0 ho4.out rfl 5 2 0 (by decide) (by decide) (by decide) (by decide) (by decide) ⟨0, 0, 0, 0, 0, 0, 0, 1, 0⟩ rfl 1 rfl 5 1 rfl rfl (by decide) (by decide) (by decide) (by decide) (by decide) 1 6 2 (by decide)).mono ?_; rintro e w5 ⟨OA5, oc5, rfl, ho5⟩; have ho5 := Hidd.mk ho5; clear ho4)
    | (go_at_call 20; have hq := ho5.out; clear hq; refine (report_own 1 0 ho5.out rfl 6 2 0 (by decide) (by decide) (by decide) (by decide) (by decide) ⟨0, 0, 0, 0, 0, 0, 0, 1, 0⟩ rfl 1 rfl 6 2 rfl rfl (by decide) (by decide) (by decide) (by decide) (by decide) 2 7 3 (by decide)).mono ?_; rintro e w6 ⟨OA6, oc6, rfl, ho6⟩; have ho6 := Hidd.mk (show Own _ (fun _ => False) _ [Res.pack (monL b (1 : Nat) 1 M OA6 3 oc6 _ _ _ _)] from ho6); clear ho5)
    | (go_at_call 18; have hq := ho6.out; clear hq; refine (seal_own 0 ho6.out rfl).mono ?_; rintro e w7 ⟨rfl, ho7⟩; have ho7 := Hidd.mk ho7; clear ho6))
  go_ret
  exact ⟨rfl, below_then hb3.out (ho7.out.below fun _ => id)⟩

theorem repS_rest {l g : Int} {round : Nat} (h : ¬ (l ≠ 0 ∧ (round : Int) ≤ l)) : repS 1 l g round = (1, (round : Int) + 1, 1) := by
  unfold repS
  rw [if_pos rfl]
  simp only [if_neg h]
  rfl
theorem repS_row {l g : Int} {round : Nat} (h : l ≠ 0 ∧ (round : Int) ≤ l) : repS 1 l g round = (if 3 ≤ g + 1 then 2 else 1, (round : Int) + 1, g + 1) := by
  unfold repS
  rw [if_pos rfl]
  simp only [if_pos h]
theorem repS_row3 {l g : Int} {round : Nat} (h : l ≠ 0 ∧ (round : Int) ≤ l) (h3 : 3 ≤ g + 1) : repS 1 l g round = (2, (round : Int) + 1, g + 1) := by rw [repS_row h, if_pos h3]
theorem repS_row2 {l g : Int} {round : Nat} (h : l ≠ 0 ∧ (round : Int) ≤ l) (h3 : ¬ 3 ≤ g + 1) : repS 1 l g round = (1, (round : Int) + 1, g + 1) := by rw [repS_row h, if_neg h3]
/-- Report, its numbers spelled in whatever way. -/
theorem report_at {w w0 : World} {S : Nat → Prop} {L : List Res} {b : Nat} {n : Nat} {M : MA} {OA : Option Addr} {on oc : Nat} {ps : List Pt} {last again : List Int} {out : List Rec5} (rI pI kI : Int) (nd : Nat) (k : Nat) (hO : Own w0 S w L) (hk : L[k]? = some (Res.pack (monL b nd n M OA on oc ps last again out)))
    (round kind p : Nat) (hrI : rI = round) (hkI : kI = kind) (hpI : pI = p) (hp : p < n) (hkd : kind < 4) (hround : round < 1048576) (hn : n ≤ 255) (hnd : nd < 256) (x : Pt) (hx : ps[p]? = some x) (a : Nat) (hxa : x.rc[kind]? = some a) (l g : Int) (hl : last[p]? = some l) (hg : again[p]? = some g) (hg0 : 0 ≤ g) (hg1 : g ≤ 1000000) (hl0 : 0 ≤ l) (hl1 : l ≤ 1048576) (hon : on ≤ 1000)
    (a' : Nat) (l' g' : Int) (hr : repS a l g round = (a', l', g')) (aI : Int) (haI : aI = a') :
    Calls Try.prog 20 #[.pointer (some ⟨b, 0, none⟩), .int .u32 rI, .int .i64 pI, .int .u8 kI] w fun e w' => ∃ OA' oc', e = .returned (.tuple #[.int .u8 aI, .nilIface]) ∧
      Own w0 S w' (L.set k (Res.pack (monL b nd n M OA' (if on < 4 then on + 1 else on) oc' ps (last.set p l') (again.set p g') (if on < 4 then out ++ [⟨round, nd, p, kind, a'⟩] else out)))) := by
  subst hrI hkI hpI haI
  exact report_own nd k hO hk round kind p hp hkd hround hn hnd x hx a hxa l g hl hg hg0 hg1 hl0 hl1 hon a' l' g' hr

def ofB (a : Nat) : List Value := [.bool (1 ≤ a && a ≤ 3), .bool (a == 2 || a == 3), .bool (a == 3)]
theorem of_any (a : Nat) (w : World) (ha : a < 256) : Calls Try.prog 23 #[.int .u8 a] w fun e w' => e = .returned (.agg (ofB a).toArray) ∧ Below w.heap.size w w' := by
  have hcase : a = 3 ∨ a = 2 ∨ a = 1 ∨ (a ≠ 1 ∧ a ≠ 2 ∧ a ≠ 3) := by omega
  rcases hcase with rfl | rfl | rfl | ⟨h1, h2, h3⟩
  · go_enter Try.func23, Try.ntmps23
    go_wp2
    exact bodyPost_ret (v := .agg #[.bool true, .bool true, .bool true]) (by simp [results, Try.results23, go_sem]) rfl ⟨rfl, by repeat (first | exact Below.refl _ _ | refine Below.setCell ?_ (by simp) _ | refine Below.alloc ?_ (by simp) _)⟩
  · go_enter Try.func23, Try.ntmps23
    go_wp2
    exact bodyPost_ret (v := .agg #[.bool true, .bool true, .bool false]) (by simp [results, Try.results23, go_sem]) rfl ⟨rfl, by repeat (first | exact Below.refl _ _ | refine Below.setCell ?_ (by simp) _ | refine Below.alloc ?_ (by simp) _)⟩
  · go_enter Try.func23, Try.ntmps23
    go_wp2
    exact bodyPost_ret (v := .agg #[.bool true, .bool false, .bool false]) (by simp [results, Try.results23, go_sem]) rfl ⟨rfl, by repeat (first | exact Below.refl _ _ | refine Below.setCell ?_ (by simp) _ | refine Below.alloc ?_ (by simp) _)⟩
  · have d1 : ((a : Int) == 1) = false := by rw [beq_eq_false_iff_ne]; omega
    have d2 : ((a : Int) == 2) = false := by rw [beq_eq_false_iff_ne]; omega
    have d3 : ((a : Int) == 3) = false := by rw [beq_eq_false_iff_ne]; omega
    have e : ofB a = [.bool false, .bool false, .bool false] := by unfold ofB; simp; omega
    rw [e]
    clear e h1 h2 h3
    go_enter Try.func23, Try.ntmps23
    go_wp2
    exact bodyPost_ret (v := .agg #[.bool false, .bool false, .bool false]) (by simp [results, Try.results23, go_sem]) rfl ⟨rfl, by repeat (first | exact Below.refl _ _ | refine Below.setCell ?_ (by simp) _ | refine Below.alloc ?_ (by simp) _)⟩
end Go.Proofs.Ytpiahnecpbalhaa
