/- Tables with their own lists: Copied. -/
import Derived.Test.YtcamoldjljfbeaaSoA
namespace Go.Proofs.Ytcamoldjljfbeaa
open Go.RowKit

set_option maxRecDepth 100000
set_option maxHeartbeats 8000000
theorem copied_any (n f sl gp rh d0 d1 mg : Int) (PA : Option Addr) (pn pc : Nat) (OA : Option Addr) (on oc : Nat) (RA : Option Addr) (rn rc : Nat) (ps : List Pt) (qs : List Qt) (rs : List Rt) (w : World) (hP : At Pt.cells w PA pn ps) (hQ : At Qt.cells w OA on qs) (hR : At Rt.cells w RA rn rs) (hpn : pn * 48 ≤ 140737488351232) (hon : on * 40 ≤ 140737488351232) (hrn : rn * 16 ≤ 140737488351232) :
    Calls Try.prog 22 #[.agg #[.int .i64 n, .int .i64 f, .int .i64 sl, .int .i64 gp, .int .i64 rh, .int .i64 d0, .int .i64 d1, .int .i64 mg, .slice PA pn pc, .slice OA on oc, .slice RA rn rc]] w fun e w' => ∃ A a B b C c, e = .returned (.agg #[.int .i64 n, .int .i64 f, .int .i64 sl, .int .i64 gp, .int .i64 rh, .int .i64 d0, .int .i64 d1, .int .i64 mg, .slice A pn a, .slice B on b, .slice C rn c]) ∧
      Own w (fun _ => False) w' [row 41 2 (.slice C rn c) rn (rs.flatMap Rt.cells), row 44 6 (.slice B on b) on (qs.flatMap Qt.cells), row 38 9 (.slice A pn a) pn (ps.flatMap Pt.cells)] := by
  have ho := ((Own.nil w (fun _ => False)).alloc (.cells #[.int .i64 n, .int .i64 f, .int .i64 sl, .int .i64 gp, .int .i64 rh, .int .i64 d0, .int .i64 d1, .int .i64 mg, .slice PA pn pc, .slice OA on oc, .slice RA rn rc] 26)).alloc (.cells #[.int .i64 0, .int .i64 0, .int .i64 0, .int .i64 0, .int .i64 0, .int .i64 0, .int .i64 0, .int .i64 0, .slice none 0 0, .slice none 0 0, .slice none 0 0] 26)
  rw [show (w.alloc (.cells #[.int .i64 n, .int .i64 f, .int .i64 sl, .int .i64 gp, .int .i64 rh, .int .i64 d0, .int .i64 d1, .int .i64 mg, .slice PA pn pc, .slice OA on oc, .slice RA rn rc] 26)).heap.size = w.heap.size + 1 by simp] at ho
  have ho1 := Hidd.mk (row_lit' ho 38 9 0 #[] [] (w.heap.size + 1 + 1) (by simp) rfl rfl (by decide))
  clear ho
  have hP2 := Hidd.mk hP.2
  have hQ2 := Hidd.mk hQ.2
  have hR2 := Hidd.mk hR.2
  have hpl := Hidd.mk hP.1
  have hql := Hidd.mk hQ.1
  have hrl := Hidd.mk hR.1
  clear hP hQ hR
  obtain ⟨iP, hIP⟩ := info_parts info_part
  obtain ⟨iQ, hIQ⟩ := info_parts info_port
  obtain ⟨iR, hIR⟩ := info_parts info_route
  replace hIP := Hidd.mk hIP
  replace hIQ := Hidd.mk hIQ
  replace hIR := Hidd.mk hIR
  go_enter Try.func22, Try.ntmps22
  go_wp2_with (first
    | (at_builtin; have hq := ho1.out; clear hq; refine wpList_row rfl _ _ 22 rfl 38 iP (.agg #[.int .i64 0, .int .i64 0, .int .i64 0, .int .i64 0, .int .i64 0, .int .u8 0, .int .u8 0, .int .u8 0, .int .u8 0]) 9 48 (by rfl) hIP.out.1 hIP.out.2.1 hIP.out.2.2.1 hIP.out.2.2.2 (by rfl) (by decide) ho1.out 0 _ 0 0 [] rfl rfl PA pn pc (ps.flatMap Pt.cells) rfl (by rw [flat_len pcells_len, hpl.out]) (hP2.out.below (ho1.out.below fun _ => id)) (cells_ne pcells_len (by decide) hP2.out _ hpl.out) (one_flat pt_one _) (by unfold maxLen; omega) (by omega) ?_; intro A a w6 ho6; rw [Nat.zero_add] at ho6 ⊢; rw [List.nil_append] at ho6; have l6 := ho6.lt 2 rfl; have f8 := ho6.frozen 2 rfl 8; have e8 := ho6.cell 2 rfl 8; have e9 := ho6.cell 2 rfl 9; have eA := ho6.cell 2 rfl 10; simp at e8 e9 eA; have ho7 := ho6.set 2 rfl 8 (.slice A pn a); simp only [List.set_cons_zero, List.set_cons_succ, List.setIfInBounds_toArray] at ho7; have ho2 := Hidd.mk (row_lit' ho7 44 6 0 #[] [] w6.heap.size (by simp) rfl rfl (by decide)); clear ho7 ho6 ho1)
    | (at_builtin; have hq := ho2.out; clear hq; refine wpList_row rfl _ _ 23 rfl 44 iQ (.agg #[.int .i64 0, .int .u8 0, .bool false, .int .i64 0, .int .i64 0, .int .i64 0]) 6 40 (by rfl) hIQ.out.1 hIQ.out.2.1 hIQ.out.2.2.1 hIQ.out.2.2.2 (by rfl) (by decide) ho2.out 0 _ 0 0 [] rfl rfl OA on oc (qs.flatMap Qt.cells) rfl (by rw [flat_len qcells_len, hql.out]) (hQ2.out.below (ho2.out.below fun _ => id)) (cells_ne qcells_len (by decide) hQ2.out _ hql.out) (one_flat qt_one _) (by unfold maxLen; omega) (by omega) ?_; intro B b w8 ho8; rw [Nat.zero_add] at ho8 ⊢; rw [List.nil_append] at ho8; clear f8 e8 e9 eA l6; have l8 := ho8.lt 3 rfl; have f9 := ho8.frozen 3 rfl 9; have e9 := ho8.cell 3 rfl 9; have eA := ho8.cell 3 rfl 10; simp at e9 eA; have ho9 := ho8.set 3 rfl 9 (.slice B on b); simp only [List.set_cons_zero, List.set_cons_succ, List.setIfInBounds_toArray] at ho9; have ho3 := Hidd.mk (row_lit' ho9 41 2 0 #[] [] w8.heap.size (by simp) rfl rfl (by decide)); clear ho9 ho8 ho2)
    | (at_builtin; have hq := ho3.out; clear hq; refine wpList_row rfl _ _ 24 rfl 41 iR (.agg #[.int .i64 0, .int .i64 0]) 2 16 (by rfl) hIR.out.1 hIR.out.2.1 hIR.out.2.2.1 hIR.out.2.2.2 (by rfl) (by decide) ho3.out 0 _ 0 0 [] rfl rfl RA rn rc (rs.flatMap Rt.cells) rfl (by rw [flat_len tcells_len, hrl.out]) (hR2.out.below (ho3.out.below fun _ => id)) (cells_ne tcells_len (by decide) hR2.out _ hrl.out) (one_flat rt_one _) (by unfold maxLen; omega) (by omega) ?_; intro C c wA hoA; rw [Nat.zero_add] at hoA ⊢; rw [List.nil_append] at hoA; clear f9 e9 eA l8; have fA := hoA.frozen 4 rfl 10; have e0 := hoA.cell 4 rfl 0; have q0 := hoA.cell 3 rfl 0; have r0 := hoA.frozen 3 rfl 0; have e1 := hoA.cell 4 rfl 1; have q1 := hoA.cell 3 rfl 1; have r1 := hoA.frozen 3 rfl 1; have e2 := hoA.cell 4 rfl 2; have q2 := hoA.cell 3 rfl 2; have r2 := hoA.frozen 3 rfl 2; have e3 := hoA.cell 4 rfl 3; have q3 := hoA.cell 3 rfl 3; have r3 := hoA.frozen 3 rfl 3; have e4 := hoA.cell 4 rfl 4; have q4 := hoA.cell 3 rfl 4; have r4 := hoA.frozen 3 rfl 4; have e5 := hoA.cell 4 rfl 5; have q5 := hoA.cell 3 rfl 5; have r5 := hoA.frozen 3 rfl 5; have e6 := hoA.cell 4 rfl 6; have q6 := hoA.cell 3 rfl 6; have r6 := hoA.frozen 3 rfl 6; have e7 := hoA.cell 4 rfl 7; have q7 := hoA.cell 3 rfl 7; have r7 := hoA.frozen 3 rfl 7; have e8 := hoA.cell 4 rfl 8; have q8 := hoA.cell 3 rfl 8; have r8 := hoA.frozen 3 rfl 8; have e9 := hoA.cell 4 rfl 9; have q9 := hoA.cell 3 rfl 9; have r9 := hoA.frozen 3 rfl 9; have e10 := hoA.cell 4 rfl 10; have q10 := hoA.cell 3 rfl 10; have r10 := hoA.frozen 3 rfl 10; simp at e0 q0 e1 q1 e2 q2 e3 q3 e4 q4 e5 q5 e6 q6 e7 q7 e8 q8 e9 q9 e10 q10; have hne : ¬ w.heap.size + 1 = w.heap.size := Nat.succ_ne_self _; have hne2 : ¬ w.heap.size = w.heap.size + 1 := fun h => Nat.succ_ne_self _ h.symm; have hoB := Hidd.mk (hoA.set 4 rfl 10 (.slice C rn c)); clear hoA ho3))
  clear e0 q0 r0 e1 q1 r1 e2 q2 r2 e3 q3 r3 e4 q4 r4 e5 q5 r5 e6 q6 r6 e7 q7 r7 e8 q8 r8 e9 q9 r9 e10 q10 r10 fA
  have hf0 := (hoB.out).set 3 rfl 0 (.int .i64 n)
  have hf1 := (hf0).set 3 rfl 1 (.int .i64 f)
  have hf2 := (hf1).set 3 rfl 2 (.int .i64 sl)
  have hf3 := (hf2).set 3 rfl 3 (.int .i64 gp)
  have hf4 := (hf3).set 3 rfl 4 (.int .i64 rh)
  have hf5 := (hf4).set 3 rfl 5 (.int .i64 d0)
  have hf6 := (hf5).set 3 rfl 6 (.int .i64 d1)
  have hf7 := (hf6).set 3 rfl 7 (.int .i64 mg)
  have hf8 := (hf7).set 3 rfl 8 (.slice A pn a)
  have hf9 := (hf8).set 3 rfl 9 (.slice B on b)
  have hf10 := (hf9).set 3 rfl 10 (.slice C rn c)
  have z0 := hf10.cell 3 rfl 0
  have z1 := hf10.cell 3 rfl 1
  have z2 := hf10.cell 3 rfl 2
  have z3 := hf10.cell 3 rfl 3
  have z4 := hf10.cell 3 rfl 4
  have z5 := hf10.cell 3 rfl 5
  have z6 := hf10.cell 3 rfl 6
  have z7 := hf10.cell 3 rfl 7
  have z8 := hf10.cell 3 rfl 8
  have z9 := hf10.cell 3 rfl 9
  have z10 := hf10.cell 3 rfl 10
  simp at z0 z1 z2 z3 z4 z5 z6 z7 z8 z9 z10
  clear hf0 hf1 hf2 hf3 hf4 hf5 hf6 hf7 hf8 hf9
  replace hf10 := Hidd.mk hf10
  refine bodyPost_ret (v := .agg #[.int .i64 n, .int .i64 f, .int .i64 sl, .int .i64 gp, .int .i64 rh, .int .i64 d0, .int .i64 d1, .int .i64 mg, .slice A pn a, .slice B on b, .slice C rn c]) (by simp [results, Try.results22, go_sem, z0, z1, z2, z3, z4, z5, z6, z7, z8, z9, z10]) rfl ⟨A, a, B, b, C, c, rfl, hf10.out.reorder [0, 1, 2] rfl (by decide)⟩
end Go.Proofs.Ytcamoldjljfbeaa
