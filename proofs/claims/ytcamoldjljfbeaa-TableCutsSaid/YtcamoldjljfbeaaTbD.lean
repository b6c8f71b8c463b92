/- The reference's Encode of tables. -/
import Derived.Test.YtcamoldjljfbeaaTbB
import Derived.Test.YtcamoldjljfbeaaTaN
import Derived.Test.YtcamoldjljfbeaaRefCrc
import Derived.Test.YtcamoldjljfbeaaSoJ
import Derived.Test.YtcamoldjljfbeaaFlow
namespace Go.Proofs.Ytcamoldjljfbeaa
open Go.RowKit

set_option maxRecDepth 100000
set_option maxHeartbeats 8000000
theorem over_any (c a : Int) (t : ByteArray) (w : World) (hc1 : -9223372036854775808 < c) (hc2 : c ≤ 9223372036854775807) (ha1 : -1 ≤ a) (ha2 : a ≤ 9223372036854775807) (ht : 0 < t.size) (ht2 : t.size ≤ 1000) :
    Calls Try.prog 62 #[.int .i64 c, .int .i64 a, .string t] w fun e w' => e = .returned (.string (atB c a ++ ⟨#[62]⟩ ++ t)) ∧ Below w.heap.size w w' := by
  have hne := ne_empty ht
  have hsz := atB_size c a
  go_enter Try.func62, Try.ntmps62
  go_wp2_with (go_at_call 51; refine (at_any c a _ (by omega) (by omega) (by omega) (by omega)).mono ?_; rintro e w1 ⟨rfl, hb⟩; replace hb := Hidd.mk hb)
  go_ret
  exact ⟨rfl, hb.out⟩
theorem errB_two (c a d b : Int) : errB [(c, a), (d, b)] none = atB c a ++ ⟨#[62]⟩ ++ atB d b := by
  show atB c a ++ (sepB ++ atB d b ++ ⟨#[]⟩) = _
  unfold sepB
  have h : ∀ x : ByteArray, x ++ (⟨#[]⟩ : ByteArray) = x := fun x => by
    apply ByteArray.ext
    rw [ByteArray.data_append]
    simp
  rw [h, ByteArray.append_assoc]
theorem appw {w w0 : World} {S : Nat → Prop} {L : List Res} {ops : Array Oper} {rest : List Oper} {o : Oper} {a : Act} {Q : Exit → Act → World → Prop} (hgd : o.guard = none) (s x : Operand)
    (ho : o.op = .call { callee := .builtin .append, args := #[s, x], argTypes := #[50, 50] })
    (hO : Own w0 S w L) (k : Nat) (A : Option Addr) (n cap : Nat) (xs : List Int) (hk : L[k]? = some (wres 5 1 A n cap (nums .u8 xs))) (hs : a.eval s = .slice A n cap)
    (B : Option Addr) (m c : Nat) (ys : List Int) (hx : a.eval x = .slice B m c) (hl : ys.length = m) (hnews : Cells w B (nums .u8 ys)) (h63 : n + m ≤ 140737488355328)
    (h : ∀ A' c' w', Own w0 S w' (L.set k (wres 5 1 A' (n + m) c' (nums .u8 (xs ++ ys)))) → wpList Try.prog ops Q rest (a.put o.dst (.slice A' (n + m) c')) w') : wpList Try.prog ops Q (o :: rest) a w := by
  obtain ⟨i0, hi, hz0, hz1, hz2⟩ := info_parts info_u8
  refine wpList_any hgd s x 50 ho 5 i0 (.int .u8 0) 1 1 Try.underlying50 hi hz0 hz1 hz2 rfl (by decide) hO k A n cap _ hk hs B m c (nums .u8 ys) hx (by rw [nums_length, hl, Nat.mul_one]) hnews (ne_nil' hnews hl) (nums_one _ _) (by unfold maxLen; omega) (by omega) ?_
  rw [← nums_append]
  exact h
theorem wres_lit {w w0 : World} {S : Nat → Prop} {L : List Res} (h : Own w0 S w L) (fr : Nat × Nat) (cs : Array Value) (n : Nat) (xs : List Value) (hx : cs.toList = xs) (hn : cs.size = n) (hm : n ≤ maxLen) :
    Own w0 S (w.alloc (.cells cs 5 fr)) (wres 5 1 (some ⟨w.heap.size, 0, none⟩) n n xs :: L) :=
  h.new _ (below_alloc (Below.refl _ _) _) ⟨by subst hx; simp [hn], ⟨Nat.le_refl _, hm⟩, Cells.new _ _ _ _ hx, fun k hk => by (injection hk with hk; subst hk; simp), .inr rfl⟩ fun k hk => by (injection hk with hk; exact Nat.le_of_eq hk)
theorem all_any {w w0 : World} {S : Nat → Prop} {L : List Res} {g : Nat} {A : Option Addr} {n cap : Nat} {xs : List Int} (k j : Nat) (hO : Own w0 S w L) (hk : L[k]? = some (wres 5 1 A n cap (nums .u8 xs))) (size : Int) (sz : Nat) (hsz : wsz size = sz) (h1s : 1 ≤ size) (h2s : size ≤ 4) (m c : Nat) (ys : List Int)
    (hj : L[j]? = some (blk g (.cells (nums .i64 ys).toArray 3 (0, 0)))) (hjk : k ≠ j) (hl : ys.length = m) (hr : InU ys) (hn : n + 4 * m ≤ 1000000) (n' : Nat) (hn' : n + m * sz = n') :
    Calls Try.prog 63 #[.slice A n cap, .int .i64 size, .slice (some ⟨g, 0, none⟩) m c] w fun e w' => ∃ A' cap', e = .returned (.slice A' n' cap') ∧ Own w0 S w' (L.set k (wres 5 1 A' n' cap' (nums .u8 (xs ++ putsL sz ys)))) := by
  have hs4 : sz ≤ 4 := by rw [← hsz]; unfold wsz; split <;> omega
  have hml : m * sz ≤ 4 * m := by rw [Nat.mul_comm 4 m]; exact Nat.mul_le_mul_left m hs4
  have hkl : k < L.length := (List.getElem?_eq_some_iff.1 hk).1
  have h0 := Hidd.mk (show Own w0 S w (L.set k (wres 5 1 A (n + 0 * sz) cap (nums .u8 (xs ++ putsL sz (ys.take 0))))) by
    rw [Nat.zero_mul, Nat.add_zero, List.take_zero, show putsL sz [] = [] from rfl, List.append_nil, set_id hk]
    exact hO)
  have hset : Hidd (∀ r, (L.set k r)[k]? = some r ∧ (L.set k r)[j]? = some (blk g (.cells (nums .i64 ys).toArray 3 (0, 0)))) := ⟨fun r => ⟨by rw [List.getElem?_set, if_pos rfl, if_pos hkl], by rw [List.getElem?_set, if_neg hjk, hj]⟩⟩
  replace hr := Hidd.mk hr
  replace hl := Hidd.mk hl
  replace hn' := Hidd.mk hn'
  clear hO hk hj hkl
  go_enter Try.func63, Try.ntmps63
  go_wp2
  go_loopw [0, 7] (fun v0 v7 wr => ∃ (i N : Nat) (A' : Option Addr) (cap' : Nat), v7 = .int .i64 i ∧ v0 = .slice A' N cap' ∧ i ≤ m ∧ Hidd (N = n + i * sz) ∧ Hidd (Own w0 S wr (L.set k (wres 5 1 A' N cap' (nums .u8 (xs ++ putsL sz (ys.take i))))))) (fun _ v7 _ => m - (intOf v7).toNat)
  case atStart => exact ⟨0, n, A, cap, rfl, rfl, Nat.zero_le _, ⟨by omega⟩, ⟨by have := h0.out; rw [Nat.zero_mul, Nat.add_zero] at this; exact this⟩⟩
  case round =>
    clear h0
    obtain ⟨i, N, A', cap', rfl, rfl, hil, hN, ho⟩ := hrel
    by_cases hlt : i < m
    · obtain ⟨x, hx⟩ : ∃ x, ys[i]? = some x := ⟨_, List.getElem?_eq_getElem (by rw [hl.out]; exact hlt)⟩
      obtain ⟨x0, x1⟩ := hr.out x (List.mem_of_getElem? hx)
      obtain ⟨v, rfl⟩ : ∃ v : Nat, x = (v : Int) := ⟨x.toNat, by omega⟩
      have hps := Hidd.mk (putsL_snoc sz hx)
      have z0 := cells_at (v := .int .i64 (v : Int)) (j := i) (Cells.of_block (ho.out.get j (hset.out _).2)) (by simp [nums, hx])
      obtain ⟨u1, u2⟩ := wrapU v (by omega)
      have bi0 : (0 : Int) ≤ (i : Int) := by omega
      have bi1 : (i : Int) < (m : Int) := by omega
      have hni : n + i * sz ≤ 1000000 := by
        have : i * sz ≤ i * 4 := Nat.mul_le_mul_left i hs4
        omega
      have hv : v < 4294967296 := by omega
      have hN1 : N ≤ 1000000 := by have := hN.out; omega
      clear hx x0 x1 hni
      go_wp2_with (first
        | (go_at_call 82; refine (num_own v size _ hv h1s (by omega) sz hsz).mono ?_; rintro e w1 ⟨A2, c2, rfl, hm2⟩; have hx := row_cells hm2 0 rfl; have ho2 := Hidd.mk (ho.out.ext (hm2.below fun _ => id)); replace hx := Hidd.mk hx; clear hm2)
        | (at_builtin; refine appw rfl _ _ rfl ho2.out k A' N cap' _ (hset.out _).1 rfl A2 sz c2 (wputN v sz) rfl (wputN_length v sz) hx.out (by omega) ?_; intro A3 c3 w3 ho3; rw [List.set_set, List.append_assoc, ← hps.out] at ho3; have hend := Hidd.mk ho3; clear ho3 ho2 hx ho))
      clear z0
      go_roundw
      case rel => exact ⟨i + 1, N + sz, A3, c3, by go_num, rfl, by omega, ⟨by rw [hN.out, Nat.succ_mul]; omega⟩, hend⟩
      case measure => (simp [intOf]; try omega)
    · obtain rfl : i = m := by omega
      obtain rfl : N = n' := hN.out.trans hn'.out
      have hend := ho.out
      rw [List.take_of_length_le (by rw [hl.out]; exact Nat.le_refl _)] at hend
      replace hend := Hidd.mk hend
      clear ho
      go_wp2
      go_ret
      exact ⟨_, _, rfl, hend.out⟩
theorem refTabEnc_bad (n f sl gp rh d0 d1 mg : Int) (PA : Option Addr) (pn pc : Nat) (OA : Option Addr) (on oc : Nat) (RA : Option Addr) (rn rc : Nat) (ps : List Pt) (qs : List Qt) (rs : List Rt) (w : World) (hP : At Pt.cells w PA pn ps) (hQ : At Qt.cells w OA on qs) (hR : At Rt.cells w RA rn rs)
    (oP : ∀ p ∈ ps, p.Ok) (oQ : ∀ p ∈ qs, p.Ok) (c a : Int) (her : tabE n f sl gp rh d0 d1 mg ps qs rs = some (c, a)) :
    Calls Try.prog 30 #[.agg #[.int .i64 n, .int .i64 f, .int .i64 sl, .int .i64 gp, .int .i64 rh, .int .i64 d0, .int .i64 d1, .int .i64 mg, .slice PA pn pc, .slice OA on oc, .slice RA rn rc]] w fun e w' => e = .returned (.tuple #[.slice none 0 0, .string (errB [(60, -1), (c, a)] none)]) ∧ Below w.heap.size w w' := by
  have ho := Hidd.mk ((Own.nil w (fun _ => False)).alloc (.cells #[.int .i64 n, .int .i64 f, .int .i64 sl, .int .i64 gp, .int .i64 rh, .int .i64 d0, .int .i64 d1, .int .i64 mg, .slice PA pn pc, .slice OA on oc, .slice RA rn rc] 26))
  replace hP := Hidd.mk hP
  replace hQ := Hidd.mk hQ
  replace hR := Hidd.mk hR
  replace oP := Hidd.mk oP
  replace oQ := Hidd.mk oQ
  replace her := Hidd.mk her
  have hpos := atB_pos c a
  have hne := ne_empty hpos
  have hsz := atB_size c a
  go_enter Try.func30, Try.ntmps30
  go_wp2_with (first
    | (go_at_call 32; refine (refTab_any n f sl gp rh d0 d1 mg PA pn pc OA on oc RA rn rc ps qs rs _ (hP.out.below (ho.out.below fun _ => id)) (hQ.out.below (ho.out.below fun _ => id)) (hR.out.below (ho.out.below fun _ => id)) oP.out oQ.out _ her.out).mono ?_; rintro e w1 ⟨rfl, hb⟩; rw [show textE (some (c, a)) = atB c a from rfl]; have ho1 := Hidd.mk (ho.out.ext hb); clear hb ho)
    | (go_at_call 62; refine (over_any 60 (-1) (atB c a) _ (by decide) (by decide) (by decide) (by decide) hpos (by omega)).mono ?_; rintro e w2 ⟨rfl, hb⟩; have ho2 := Hidd.mk (ho1.out.ext hb); clear hb))
  go_ret2
  exact ⟨by rw [errB_two]; rfl, ho2.out.below fun _ => id⟩
theorem refTabEnc_ok (n f sl gp rh d0 d1 mg : Int) (PA : Option Addr) (pn pc : Nat) (OA : Option Addr) (on oc : Nat) (RA : Option Addr) (rn rc : Nat) (ps : List Pt) (qs : List Qt) (rs : List Rt) (w : World) (hP : At Pt.cells w PA pn ps) (hQ : At Qt.cells w OA on qs) (hR : At Rt.cells w RA rn rs)
    (oP : ∀ p ∈ ps, p.Ok) (oQ : ∀ p ∈ qs, p.Ok) (hT : Tab n f sl gp rh d0 d1 mg ps qs rs) (N : Nat) (hN : (imgB n f sl gp rh d0 d1 mg ps qs rs).length = N) :
    Calls Try.prog 30 #[.agg #[.int .i64 n, .int .i64 f, .int .i64 sl, .int .i64 gp, .int .i64 rh, .int .i64 d0, .int .i64 d1, .int .i64 mg, .slice PA pn pc, .slice OA on oc, .slice RA rn rc]] w fun e w' => ∃ A c, e = .returned (.tuple #[.slice A (N + 4) c, .string ⟨#[]⟩]) ∧ Own w (fun _ => False) w' [row 5 1 (.slice A (N + 4) c) (N + 4) (nums .u8 (crcSeal (imgB n f sl gp rh d0 d1 mg ps qs rs)))] := by
  have ho := Hidd.mk ((Own.nil w (fun _ => False)).alloc (.cells #[.int .i64 n, .int .i64 f, .int .i64 sl, .int .i64 gp, .int .i64 rh, .int .i64 d0, .int .i64 d1, .int .i64 mg, .slice PA pn pc, .slice OA on oc, .slice RA rn rc] 26))
  have her := Hidd.mk hT.to
  have hpl := Hidd.mk hP.1
  have hql := Hidd.mk hQ.1
  have hrl := Hidd.mk hR.1
  have hs := hT.sc
  have bP := hT.np
  have bQ := hT.nq
  have bR := hT.nr
  rw [hP.1] at bP
  rw [hQ.1] at bQ
  rw [hR.1] at bR
  have hpi := Hidd.mk fun p hp => ptB_in (hT.p p hp) hs.n7
  have hqi := Hidd.mk fun q hq => qtB_in (hT.q q hq) hT.np
  have hri := Hidd.mk hT.r
  have u2 := Hidd.mk ((InU.nil.cons (x := f) hs.f0 (by have := hs.f2; omega)).cons (x := n) (by have := hs.n1; omega) (by have := hs.n7; omega))
  have u3 := Hidd.mk ((((((InU.nil.cons (x := mg) hs.m0 (by have := hs.m2; omega)).cons (x := d1) hs.d1a (by have := hs.d1b; omega)).cons (x := d0) hs.d0a (by have := hs.d0b; have := hs.d1b; omega)).cons (x := rh) hs.r0 (by have := hs.r2; omega)).cons (x := gp) hs.g0 (by have := hs.g2; omega)).cons (x := sl) (by have := hs.s1; omega) (by have := hs.s2; omega))
  have u4 := Hidd.mk (((InU.nil.cons (x := (rn : Int)) (by omega) (by omega)).cons (x := (on : Int)) (by omega) (by omega)).cons (x := (pn : Int)) (by omega) (by omega))
  have hN2 : 33 + 15 * pn + 6 * on + 2 * rn = N := by rw [← hN, imgB_len, hpl.out, hql.out, hrl.out]
  have himg : imgB n f sl gp rh d0 d1 mg ps qs rs = hdBy n f sl gp rh d0 d1 mg pn on rn ++ ps.flatMap ptBy ++ qs.flatMap qtBy ++ rs.flatMap rtBy := by unfold imgB; rw [hpl.out, hql.out, hrl.out]
  have hby := Hidd.mk (imgB_rng n f sl gp rh d0 d1 mg ps qs rs)
  have hhl := Hidd.mk (hdBy_len n f sl gp rh d0 d1 mg pn on rn)
  have hhd : Hidd ([69, 83, 67, 49] ++ putsL 1 [n, f] ++ putsL 4 [sl, gp, rh, d0, d1, mg] ++ putsL 1 [(pn : Int), (on : Int), (rn : Int)] = hdBy n f sl gp rh d0 d1 mg pn on rn) := ⟨by unfold hdBy; rw [show putsL 4 [1163084593] = [69, 83, 67, 49] by decide +kernel]⟩
  obtain ⟨HD, hHD⟩ : ∃ HD, hdBy n f sl gp rh d0 d1 mg pn on rn = HD := ⟨_, rfl⟩
  rw [hHD] at hhd hhl himg
  replace hP := Hidd.mk hP
  replace hQ := Hidd.mk hQ
  replace hR := Hidd.mk hR
  replace oP := Hidd.mk oP
  replace oQ := Hidd.mk oQ
  replace hN := Hidd.mk hN
  replace hN2 := Hidd.mk hN2
  replace himg := Hidd.mk himg
  clear hHD hs hT
  go_enter Try.func30, Try.ntmps30
  go_upto_region 4 with (go_at_call 32; refine (refTab_any n f sl gp rh d0 d1 mg PA pn pc OA on oc RA rn rc ps qs rs _ (hP.out.below (ho.out.below fun _ => id)) (hQ.out.below (ho.out.below fun _ => id)) (hR.out.below (ho.out.below fun _ => id)) oP.out oQ.out _ her.out).mono ?_; rintro e w1 ⟨rfl, hb⟩; rw [show textE none = ⟨#[]⟩ from rfl]; have ho1 := Hidd.mk (ho.out.ext hb); clear hb ho)
  generalize w.heap.size = p1 at ho1 ⊢
  obtain ⟨x0, x1, x2, x3, x4, x5, x6, x7, x8, x9, xA⟩ := cells11 ho1.out 0 rfl
  have hpl1 := ho1.out.lt 0 rfl
  have kc := fun (w : World) (C : Array Value) (n c : Nat) => Lib.run_convert_bytes_const (P := Try.prog) w 50 5 C n c Try.underlying50 Try.underlying5
  have ho2 := wres_lit ho1.out (4, 5) #[.int .u8 69, .int .u8 83, .int .u8 67, .int .u8 49] 4 (nums .u8 [69, 83, 67, 49]) rfl rfl (by decide)
  have hz2 : (World.alloc w1 (.cells #[.int .u8 69, .int .u8 83, .int .u8 67, .int .u8 49] 5 (4, 5))).heap.size = w1.heap.size + 1 := by simp
  have ho3 := ho2.alloc (.cells #[.int .i64 n, .int .i64 f] 3)
  rw [hz2] at ho3
  replace ho3 := Hidd.mk ho3
  clear ho2 hz2
  go_upto_region 7 with (first
    | (go_at_call 63; have hq := ho3.out; clear hq; refine (all_any 1 0 ho3.out rfl 1 1 (by decide) (by decide) (by decide) 2 2 [n, f] rfl (by decide) rfl u2.out (by omega) (6) (by omega)).mono ?_; rintro e w9 ⟨A2, cap2, rfl, hn⟩; simp only [List.set_cons_zero, List.set_cons_succ] at hn; have ho4 := Hidd.mk hn.tail; clear hn ho3; clear x0 x1 x2 x3 x4 x5 x6 x7 x8 x9 xA hpl1; obtain ⟨x0, x1, x2, x3, x4, x5, x6, x7, x8, x9, xA⟩ := cells11 ho4.out 1 rfl; have hpl1 := ho4.out.lt 1 rfl)
    | (go_at_call 63; have hq := ho4.out; clear hq; refine (all_any 1 0 (ho4.out.alloc (.cells #[.int .i64 sl, .int .i64 gp, .int .i64 rh, .int .i64 d0, .int .i64 d1, .int .i64 mg] 3)) rfl 4 4 (by decide) (by decide) (by decide) 6 6 [sl, gp, rh, d0, d1, mg] rfl (by decide) rfl u3.out (by omega) (30) (by omega)).mono ?_; rintro e w9 ⟨A2, cap2, rfl, hn⟩; simp only [List.set_cons_zero, List.set_cons_succ] at hn; have ho5 := Hidd.mk hn.tail; clear hn ho4; clear x0 x1 x2 x3 x4 x5 x6 x7 x8 x9 xA hpl1; obtain ⟨x0, x1, x2, x3, x4, x5, x6, x7, x8, x9, xA⟩ := cells11 ho5.out 1 rfl; have hpl1 := ho5.out.lt 1 rfl)
    | (go_at_call 63; have hq := ho5.out; clear hq; refine (all_any 1 0 (ho5.out.alloc (.cells #[.int .i64 (pn : Int), .int .i64 (on : Int), .int .i64 (rn : Int)] 3)) rfl 1 1 (by decide) (by decide) (by decide) 3 3 [(pn : Int), (on : Int), (rn : Int)] rfl (by decide) rfl u4.out (by omega) (33) (by omega)).mono ?_; rintro e w9 ⟨A2, cap2, rfl, hn⟩; simp only [List.set_cons_zero, List.set_cons_succ] at hn; have ho6 := Hidd.mk hn.tail; clear hn ho5; clear x0 x1 x2 x3 x4 x5 x6 x7 x8 x9 xA hpl1; obtain ⟨x0, x1, x2, x3, x4, x5, x6, x7, x8, x9, xA⟩ := cells11 ho6.out 1 rfl; have hpl1 := ho6.out.lt 1 rfl))
  clear kc
  rw [hhd.out] at ho6
  clear u2 u3 u4 hhd
  clear x0 x1 x2 x3 x4 x5 x6 x7 x8 x9 xA hpl1
  go_wp2
  go_loopw [5, 6] (fun v5 v6 wr => ∃ (i M : Nat) (A : Option Addr) (cap : Nat), v6 = .int .i64 i ∧ v5 = .slice A M cap ∧ i ≤ pn ∧ Hidd (M = 33 + 15 * i) ∧ Hidd (Own w (fun _ => False) wr [wres 5 1 A M cap (nums .u8 (HD ++ (ps.take i).flatMap ptBy)), blk p1 (.cells #[.int .i64 n, .int .i64 f, .int .i64 sl, .int .i64 gp, .int .i64 rh, .int .i64 d0, .int .i64 d1, .int .i64 mg, .slice PA pn pc, .slice OA on oc, .slice RA rn rc] 26)])) (fun _ v6 _ => pn - (intOf v6).toNat)
  case atStart => exact ⟨0, 33, A2, cap2, rfl, rfl, Nat.zero_le _, ⟨rfl⟩, ⟨by rw [List.take_zero, List.flatMap_nil, List.append_nil]; exact ho6.out⟩⟩
  case round =>
    clear ho6
    obtain ⟨i, M, A, cap, rfl, rfl, hil, hM, ho⟩ := hrel
    obtain ⟨x0, x1, x2, x3, x4, x5, x6, x7, x8, x9, xA⟩ := cells11 ho.out 1 rfl
    by_cases hlt : i < pn
    · obtain ⟨p, hp⟩ : ∃ x, ps[i]? = some x := ⟨_, List.getElem?_eq_getElem (by rw [hpl.out]; exact hlt)⟩
      obtain ⟨i0, i1, i2, i3, i4, i5, i6, i7, i8⟩ := hpi.out p (List.mem_of_getElem? hp)
      obtain ⟨a, rfl, y0, y1, y2, y3, y4, y5, y6, y7, y8⟩ := (hP.out.below (ho.out.below fun _ => id)).part hp
      have hyl := World.block_lt_of_cell? wr _ y0
      have hlt1 := ho.out.lt 1 rfl
      have bi0 : (0 : Int) ≤ (i : Int) := by omega
      have bi1 : (i : Int) < (pn : Int) := by omega
      have hfs := Hidd.mk (flat_snoc (f := ptBy) hp)
      have hM1 : M ≤ 300 := by have := hM.out; omega
      clear hp
      obtain ⟨q0, q1, q2, q3, q4, q5, q6, q7, q8⟩ := p
      simp only at y0 y1 y2 y3 y4 y5 y6 y7 y8 i0 i1 i2 i3 i4 i5 i6 i7 i8 hfs
      have uA := Hidd.mk (InU.nil.cons (x := q0) (by omega) (by omega))
      have uB := Hidd.mk ((InU.nil.cons (x := q2) (by omega) (by omega)).cons (x := q1) (by omega) (by omega))
      have uC := Hidd.mk ((((((InU.nil.cons (x := (q8 : Int)) (by omega) (by omega)).cons (x := (q7 : Int)) (by omega) (by omega)).cons (x := (q6 : Int)) (by omega) (by omega)).cons (x := (q5 : Int)) (by omega) (by omega)).cons (x := q4) (by omega) (by omega)).cons (x := q3) (by omega) (by omega))
      have w5 : IntKind.i64.wrap (q5 : Int) = q5 := IntWalk.i64_in _ (by omega)
      have w6 : IntKind.i64.wrap (q6 : Int) = q6 := IntWalk.i64_in _ (by omega)
      have w7 : IntKind.i64.wrap (q7 : Int) = q7 := IntWalk.i64_in _ (by omega)
      have w8 : IntKind.i64.wrap (q8 : Int) = q8 := IntWalk.i64_in _ (by omega)
      have ho3 := Hidd.mk (ho.out.alloc (.cells #[.int .i64 q0, .int .i64 q1, .int .i64 q2, .int .i64 q3, .int .i64 q4, .int .u8 (q5 : Int), .int .u8 (q6 : Int), .int .u8 (q7 : Int), .int .u8 (q8 : Int)] 38))
      go_upto_region 11 with fail
      clear ho x0 x1 x2 x3 x4 x5 x6 x7 x8 x9 xA y0 y1 y2 y3 y4 y5 y6 y7 y8 hyl hlt1
      generalize wr.heap.size = p4 at ho3 ⊢
      generalize World.alloc wr _ = w3 at ho3 ⊢
      have e0 := ho3.out.cell 0 rfl 0
      have e1 := ho3.out.cell 0 rfl 1
      have e2 := ho3.out.cell 0 rfl 2
      have e3 := ho3.out.cell 0 rfl 3
      have e4 := ho3.out.cell 0 rfl 4
      have e5 := ho3.out.cell 0 rfl 5
      have e6 := ho3.out.cell 0 rfl 6
      have e7 := ho3.out.cell 0 rfl 7
      have e8 := ho3.out.cell 0 rfl 8
      simp at e0 e1 e2 e3 e4 e5 e6 e7 e8
      go_wp2_with (first
        | (go_at_call 63; have hq := ho3.out; clear hq; refine (all_any 2 0 (ho3.out.alloc (.cells #[.int .i64 q0] 3)) rfl 1 1 (by decide) (by decide) (by decide) 1 1 [q0] rfl (by decide) rfl uA.out (by omega) (M + 1) (by omega)).mono ?_; rintro e w9 ⟨A2, cap2, rfl, hn⟩; simp only [List.set_cons_zero, List.set_cons_succ] at hn; have ho4 := Hidd.mk hn.tail; clear hn ho3; clear e0 e1 e2 e3 e4 e5 e6 e7 e8; have e0 := ho4.out.cell 0 rfl 0; have e1 := ho4.out.cell 0 rfl 1; have e2 := ho4.out.cell 0 rfl 2; have e3 := ho4.out.cell 0 rfl 3; have e4 := ho4.out.cell 0 rfl 4; have e5 := ho4.out.cell 0 rfl 5; have e6 := ho4.out.cell 0 rfl 6; have e7 := ho4.out.cell 0 rfl 7; have e8 := ho4.out.cell 0 rfl 8; simp at e0 e1 e2 e3 e4 e5 e6 e7 e8)
        | (go_at_call 63; have hq := ho4.out; clear hq; refine (all_any 2 0 (ho4.out.alloc (.cells #[.int .i64 q1, .int .i64 q2] 3)) rfl 4 4 (by decide) (by decide) (by decide) 2 2 [q1, q2] rfl (by decide) rfl uB.out (by omega) (M + 1 + 8) (by omega)).mono ?_; rintro e w9 ⟨A2, cap2, rfl, hn⟩; simp only [List.set_cons_zero, List.set_cons_succ] at hn; have ho5 := Hidd.mk hn.tail; clear hn ho4; clear e0 e1 e2 e3 e4 e5 e6 e7 e8; have e0 := ho5.out.cell 0 rfl 0; have e1 := ho5.out.cell 0 rfl 1; have e2 := ho5.out.cell 0 rfl 2; have e3 := ho5.out.cell 0 rfl 3; have e4 := ho5.out.cell 0 rfl 4; have e5 := ho5.out.cell 0 rfl 5; have e6 := ho5.out.cell 0 rfl 6; have e7 := ho5.out.cell 0 rfl 7; have e8 := ho5.out.cell 0 rfl 8; simp at e0 e1 e2 e3 e4 e5 e6 e7 e8)
        | (go_at_call 63; have hq := ho5.out; clear hq; refine (all_any 2 0 (ho5.out.alloc (.cells #[.int .i64 q3, .int .i64 q4, .int .i64 (q5 : Int), .int .i64 (q6 : Int), .int .i64 (q7 : Int), .int .i64 (q8 : Int)] 3)) rfl 1 1 (by decide) (by decide) (by decide) 6 6 [q3, q4, (q5 : Int), (q6 : Int), (q7 : Int), (q8 : Int)] rfl (by decide) rfl uC.out (by omega) (M + 15) (by omega)).mono ?_; rintro e w9 ⟨A2, cap2, rfl, hn⟩; simp only [List.set_cons_zero, List.set_cons_succ] at hn; have ho6 := Hidd.mk hn.tail; clear hn ho5; clear e0 e1 e2 e3 e4 e5 e6 e7 e8; have e0 := ho6.out.cell 0 rfl 0; have e1 := ho6.out.cell 0 rfl 1; have e2 := ho6.out.cell 0 rfl 2; have e3 := ho6.out.cell 0 rfl 3; have e4 := ho6.out.cell 0 rfl 4; have e5 := ho6.out.cell 0 rfl 5; have e6 := ho6.out.cell 0 rfl 6; have e7 := ho6.out.cell 0 rfl 7; have e8 := ho6.out.cell 0 rfl 8; simp at e0 e1 e2 e3 e4 e5 e6 e7 e8))
      have hb2 : Hidd (HD ++ (ps.take i).flatMap ptBy ++ putsL 1 [q0] ++ putsL 4 [q1, q2] ++ putsL 1 [q3, q4, (q5 : Int), (q6 : Int), (q7 : Int), (q8 : Int)] = HD ++ (ps.take (i + 1)).flatMap ptBy) := ⟨by rw [hfs.out]; simp [ptBy]⟩
      rw [hb2.out] at ho6
      have hend := Hidd.mk (ho6.out.reorder (M := [_, _]) [1, 2] rfl (by decide))
      clear ho6 e0 e1 e2 e3 e4 e5 e6 e7 e8
      go_roundw
      case rel => exact ⟨i + 1, M + 15, A2, cap2, by go_num, rfl, by omega, ⟨by rw [hM.out]; omega⟩, hend⟩
      case measure => (simp [intOf]; try omega)
    · obtain rfl : pn = i := by omega
      have ho6 := ho
      rw [List.take_of_length_le (by rw [hpl.out]; exact Nat.le_refl _)] at ho6
      clear ho
      go_wp2
      clear x0 x1 x2 x3 x4 x5 x6 x7 x8 x9 xA
      obtain ⟨H2, hH2⟩ : ∃ H2, HD ++ ps.flatMap ptBy = H2 := ⟨_, rfl⟩
      rw [hH2] at ho6
      replace hH2 := Hidd.mk hH2
      go_loopw [5, 8] (fun v5 v8 wr => ∃ (i M : Nat) (A : Option Addr) (cap : Nat), v8 = .int .i64 i ∧ v5 = .slice A M cap ∧ i ≤ on ∧ Hidd (M = 33 + 15 * pn + 6 * i) ∧ Hidd (Own w (fun _ => False) wr [wres 5 1 A M cap (nums .u8 (H2 ++ (qs.take i).flatMap qtBy)), blk p1 (.cells #[.int .i64 n, .int .i64 f, .int .i64 sl, .int .i64 gp, .int .i64 rh, .int .i64 d0, .int .i64 d1, .int .i64 mg, .slice PA pn pc, .slice OA on oc, .slice RA rn rc] 26)])) (fun _ v8 _ => on - (intOf v8).toNat)
      case atStart => exact ⟨0, M, A, cap, rfl, rfl, Nat.zero_le _, hM, ⟨by rw [List.take_zero, List.flatMap_nil, List.append_nil]; exact ho6.out⟩⟩
      case round =>
        clear ho6
        obtain ⟨i, M, A, cap, rfl, rfl, hil, hM, ho⟩ := hrel
        obtain ⟨x0, x1, x2, x3, x4, x5, x6, x7, x8, x9, xA⟩ := cells11 ho.out 1 rfl
        by_cases hlt : i < on
        · obtain ⟨p, hp⟩ : ∃ x, qs[i]? = some x := ⟨_, List.getElem?_eq_getElem (by rw [hql.out]; exact hlt)⟩
          obtain ⟨i0, i1, i2, i3, i4⟩ := hqi.out p (List.mem_of_getElem? hp)
          obtain ⟨a, rfl, y0, y1, y2, y3, y4, y5⟩ := (hQ.out.below (ho.out.below fun _ => id)).port hp
          have hyl := World.block_lt_of_cell? wr _ y0
          have hlt1 := ho.out.lt 1 rfl
          have bi0 : (0 : Int) ≤ (i : Int) := by omega
          have bi1 : (i : Int) < (on : Int) := by omega
          have hfs := Hidd.mk (flat_snoc (f := qtBy) hp)
          have hM1 : M ≤ 400 := by have := hM.out; omega
          clear hp
          obtain ⟨q0, q1, q2, q3, q4, q5⟩ := p
          simp only at y0 y1 y2 y3 y4 y5 i0 i1 i2 i3 i4 hfs
          have wx : IntKind.i64.wrap (q1 : Int) = q1 := IntWalk.i64_in _ (by omega)
          have ho3 := Hidd.mk (ho.out.alloc (.cells #[.int .i64 q0, .int .u8 (q1 : Int), .bool q2, .int .i64 q3, .int .i64 q4, .int .i64 q5] 44))
          cases q2
          · have uA := Hidd.mk ((((((InU.nil.cons (x := q5) (by omega) (by omega)).cons (x := q4) (by omega) (by omega)).cons (x := q3) (by omega) (by omega)).cons (x := 0) (by omega) (by omega)).cons (x := (q1 : Int)) (by omega) (by omega)).cons (x := q0) (by omega) (by omega))
            go_upto_region 21 with fail
            clear ho x0 x1 x2 x3 x4 x5 x6 x7 x8 x9 xA y0 y1 y2 y3 y4 y5 hyl hlt1
            generalize wr.heap.size = p4 at ho3 ⊢
            generalize World.alloc wr _ = w3 at ho3 ⊢
            have e0 := ho3.out.cell 0 rfl 0
            have e1 := ho3.out.cell 0 rfl 1
            have e3 := ho3.out.cell 0 rfl 3
            have e4 := ho3.out.cell 0 rfl 4
            have e5 := ho3.out.cell 0 rfl 5
            simp at e0 e1 e3 e4 e5
            go_wp2_with (go_at_call 63; have hq := ho3.out; clear hq; refine (all_any 2 0 (ho3.out.alloc (.cells #[.int .i64 q0, .int .i64 (q1 : Int), .int .i64 0, .int .i64 q3, .int .i64 q4, .int .i64 q5] 3)) rfl 1 1 (by decide) (by decide) (by decide) 6 6 [q0, (q1 : Int), 0, q3, q4, q5] rfl (by decide) rfl uA.out (by omega) (M + 6) (by omega)).mono ?_; rintro e w9 ⟨A2, cap2, rfl, hn⟩; simp only [List.set_cons_zero, List.set_cons_succ] at hn; have hend := Hidd.mk hn.tail.tail; clear hn ho3; skip)
            rw [List.append_assoc, show (qs.take i).flatMap qtBy ++ putsL 1 [q0, (q1 : Int), 0, q3, q4, q5] = (qs.take (i + 1)).flatMap qtBy by rw [hfs.out]; rfl] at hend
            go_roundw
            case rel => exact ⟨i + 1, M + 6, A2, cap2, by go_num, rfl, by omega, ⟨by rw [hM.out]; omega⟩, hend⟩
            case measure => (simp [intOf]; try omega)
          · have uA := Hidd.mk ((((((InU.nil.cons (x := q5) (by omega) (by omega)).cons (x := q4) (by omega) (by omega)).cons (x := q3) (by omega) (by omega)).cons (x := 1) (by omega) (by omega)).cons (x := (q1 : Int)) (by omega) (by omega)).cons (x := q0) (by omega) (by omega))
            go_upto_region 21 with fail
            clear ho x0 x1 x2 x3 x4 x5 x6 x7 x8 x9 xA y0 y1 y2 y3 y4 y5 hyl hlt1
            generalize wr.heap.size = p4 at ho3 ⊢
            generalize World.alloc wr _ = w3 at ho3 ⊢
            have e0 := ho3.out.cell 0 rfl 0
            have e1 := ho3.out.cell 0 rfl 1
            have e3 := ho3.out.cell 0 rfl 3
            have e4 := ho3.out.cell 0 rfl 4
            have e5 := ho3.out.cell 0 rfl 5
            simp at e0 e1 e3 e4 e5
            go_wp2_with (go_at_call 63; have hq := ho3.out; clear hq; refine (all_any 2 0 (ho3.out.alloc (.cells #[.int .i64 q0, .int .i64 (q1 : Int), .int .i64 1, .int .i64 q3, .int .i64 q4, .int .i64 q5] 3)) rfl 1 1 (by decide) (by decide) (by decide) 6 6 [q0, (q1 : Int), 1, q3, q4, q5] rfl (by decide) rfl uA.out (by omega) (M + 6) (by omega)).mono ?_; rintro e w9 ⟨A2, cap2, rfl, hn⟩; simp only [List.set_cons_zero, List.set_cons_succ] at hn; have hend := Hidd.mk hn.tail.tail; clear hn ho3; skip)
            rw [List.append_assoc, show (qs.take i).flatMap qtBy ++ putsL 1 [q0, (q1 : Int), 1, q3, q4, q5] = (qs.take (i + 1)).flatMap qtBy by rw [hfs.out]; rfl] at hend
            go_roundw
            case rel => exact ⟨i + 1, M + 6, A2, cap2, by go_num, rfl, by omega, ⟨by rw [hM.out]; omega⟩, hend⟩
            case measure => (simp [intOf]; try omega)
        · obtain rfl : on = i := by omega
          have ho6 := ho
          rw [List.take_of_length_le (by rw [hql.out]; exact Nat.le_refl _)] at ho6
          clear ho
          go_wp2
          clear x0 x1 x2 x3 x4 x5 x6 x7 x8 x9 xA
          obtain ⟨H3, hH3⟩ : ∃ H3, H2 ++ qs.flatMap qtBy = H3 := ⟨_, rfl⟩
          rw [hH3] at ho6
          replace hH3 := Hidd.mk hH3
          go_loopw [5, 11] (fun v5 v11 wr => ∃ (i M : Nat) (A : Option Addr) (cap : Nat), v11 = .int .i64 i ∧ v5 = .slice A M cap ∧ i ≤ rn ∧ Hidd (M = 33 + 15 * pn + 6 * on + 2 * i) ∧ Hidd (Own w (fun _ => False) wr [wres 5 1 A M cap (nums .u8 (H3 ++ (rs.take i).flatMap rtBy)), blk p1 (.cells #[.int .i64 n, .int .i64 f, .int .i64 sl, .int .i64 gp, .int .i64 rh, .int .i64 d0, .int .i64 d1, .int .i64 mg, .slice PA pn pc, .slice OA on oc, .slice RA rn rc] 26)])) (fun _ v11 _ => rn - (intOf v11).toNat)
          case atStart => exact ⟨0, M, A, cap, rfl, rfl, Nat.zero_le _, hM, ⟨by rw [List.take_zero, List.flatMap_nil, List.append_nil]; exact ho6.out⟩⟩
          case round =>
            clear ho6
            obtain ⟨i, M, A, cap, rfl, rfl, hil, hM, ho⟩ := hrel
            obtain ⟨x0, x1, x2, x3, x4, x5, x6, x7, x8, x9, xA⟩ := cells11 ho.out 1 rfl
            by_cases hlt : i < rn
            · obtain ⟨p, hp⟩ : ∃ x, rs[i]? = some x := ⟨_, List.getElem?_eq_getElem (by rw [hrl.out]; exact hlt)⟩
              have hrb := hri.out p (List.mem_of_getElem? hp)
              rw [hql.out] at hrb
              have bi0 : (0 : Int) ≤ (i : Int) := by omega
              have bi1 : (i : Int) < (rn : Int) := by omega
              have hfs := Hidd.mk (flat_snoc (f := rtBy) hp)
              obtain ⟨s, t, rfl, hs', ht'⟩ := rt_nat hrb
              have uA := Hidd.mk ((InU.nil.cons (x := (t : Int)) (by omega) (by omega)).cons (x := (s : Int)) (by omega) (by omega))
              have hM1 : M ≤ 500 := by have := hM.out; omega
              replace hp := Hidd.mk hp
              clear hrb
              go_wp2
              clear x0 x1 x2 x3 x4 x5 x6 x7 x8 x9 xA
              obtain ⟨W0, hW0⟩ : ∃ zz, zz = World.drew wr := ⟨_, rfl⟩
              refine wp_region_flow [([0, 1, 3, 7, 9, 2, 8, 4, 10, 5, 11, 6, 12], some (13, [true])), ([], some (14, [false, false])), ([15], none)] (by kernel_rfl) (by kernel_rfl) ?_
              rw [show ({ wr with drawn := wr.drawn + 1 } : World) = W0 from hW0.symm]
              replace hW0 := Hidd.mk hW0
              simp only [opsF, List.map_cons, List.map_nil, List.getD_cons_succ, List.getD_cons_zero, Option.map]
              have ho3 := Hidd.mk (show Own w (fun _ => False) W0 _ by rw [hW0.out]; exact ho.out.drew)
              clear hW0 ho
              obtain ⟨x0, x1, x2, x3, x4, x5, x6, x7, x8, x9, xA⟩ := cells11 ho3.out 1 rfl
              have hlt1 := ho3.out.lt 1 rfl
              obtain ⟨a, rfl, y0, y1⟩ := (hR.out.below (ho3.out.below fun _ => id)).route hp.out
              (try simp only at y0 y1)
              have hyl := World.block_lt_of_cell? _ _ y0
              refine FlW.stage (fun zz => Kept (fun _ => False) W0 zz) (Kept.refl _ _) ?_
              repeat (first | (refine StQ.skip (by rfl) ?_; simp only [Act.put, List.setIfInBounds_toArray, List.set_cons_zero, List.set_cons_succ]) | (refine StQ.go' (by rfl) (Exists.intro ?_ (And.intro (fun w' hS => ?_) ?_)); rotate_left; (focus (have hc := Kept.cell0 hS; go_simp; try with_reducible rfl)); simp only [Act.put, List.setIfInBounds_toArray, List.set_cons_zero, List.set_cons_succ]))
              refine StQ.nil ?_
              refine FlO.go (by rfl) (fun K hK => ?_); go_simp; refine hK.out _ _ (.inr ⟨Kept.alloc _ _ _, trivial⟩) ?_; clear hK K
              clear x0 x1 x2 x3 x4 x5 x6 x7 x8 x9 xA y0 y1 hyl hlt1
              have ho4 := Hidd.mk (ho3.out.alloc (.cells #[.int .i64 (s : Int), .int .i64 (t : Int)] 3))
              clear ho3
              generalize (World.heap _).size = g9 at ho4 ⊢
              generalize World.alloc _ _ = W4 at ho4 ⊢
              refine FlW.stage (fun _ => True) trivial (StQ.nil ?_)
              refine FlO.go (by rfl) (fun K hK => ?_)
              go_simp
              (refine (all_any 1 0 ho4.out rfl 1 1 (by decide) (by decide) (by decide) 2 2 [(s : Int), (t : Int)] rfl (by decide) rfl uA.out (by omega) (M + 2) (by omega)).mono ?_; rintro e w9 ⟨A3, cap3, rfl, hn⟩; simp only [List.set_cons_zero, List.set_cons_succ] at hn; have hend := Hidd.mk hn.tail)
              refine hK.out _ _ (.inr trivial) ?_
              clear hK K
              clear hn ho4
              rw [List.append_assoc, show (rs.take i).flatMap rtBy ++ putsL 1 [(s : Int), (t : Int)] = (rs.take (i + 1)).flatMap rtBy by rw [hfs.out]; rfl] at hend
              refine FlW.heads (fun zz => zz = _) rfl ?_
              repeat (first | (refine StQ.skip (by rfl) ?_; simp only [Act.put, List.setIfInBounds_toArray, List.set_cons_zero, List.set_cons_succ]) | (refine StQ.go' (by rfl) (Exists.intro ?_ (And.intro (fun w' hS => ?_) ?_)); rotate_left; (focus (rw [hS]; go_simp; try with_reducible rfl)); simp only [Act.put, List.setIfInBounds_toArray, List.set_cons_zero, List.set_cons_succ]))
              refine StQ.nil ?_
              refine FlW.nil (Calm.normal ?_)
              go_wp2
              go_roundw
              case rel => exact ⟨i + 1, M + 2, A3, cap3, by go_num, rfl, by omega, ⟨by rw [hM.out]; omega⟩, hend⟩
              case measure => (simp [intOf]; try omega)
            · obtain rfl : rn = i := by omega
              obtain rfl : M = N := hM.out.trans hN2.out
              have ho6 := ho
              rw [List.take_of_length_le (by rw [hrl.out]; exact Nat.le_refl _), ← hH3.out, ← hH2.out, ← himg.out] at ho6
              clear ho
              have hN5 : M ≤ 1000 := by have := hN2.out; omega
              go_wp2_with (go_at_call 64; refine (refSeal_any A M cap _ _ (show WIn wr 5 1 A M cap _ from ho6.out.get 0 rfl).cells hby.out (by omega) hN.out).mono ?_; rintro e w6 ⟨v, rfl, hrow, hb⟩; obtain ⟨A6, c6, rfl, _, _, _⟩ := Cells.of_own hrow; have ho8 := Hidd.mk (own_row ho6.out hrow hb); clear hrow hb)
              go_ret2
              exact ⟨A6, c6, rfl, ho8.out.reorder [0] rfl (by decide)⟩
end Go.Proofs.Ytcamoldjljfbeaa
