/- table.Encode: the image, or the error. -/
import Derived.Test.YtcamoldjljfbeaaTbA
import Derived.Test.YtcamoldjljfbeaaSoG
import Derived.Deep.DeepCutAuto
namespace Go.Proofs.Ytcamoldjljfbeaa
open Go.RowKit

theorem wtrT_new {w w0 : World} {S : Nat → Prop} {L : List Res} (h : Own w0 S w L) : Own w0 S (w.alloc (.cells #[.slice none 0 0] 84)) (wtr w.heap.size none 0 0 [] :: L) := by
  have h1 := h.alloc (.cells #[.slice none 0 0] 84)
  have h2 := (h1.new (wres 5 1 none 0 0 []) (Below.refl _ _) (wres_nil _ _ _) (fun i hi => by cases hi)).perm (List.Perm.swap _ _ _)
  exact h2.join (wtr w.heap.size none 0 0 []) (fun a b c => ⟨a, b, fun k hk e => c k e hk⟩) (fun i hi => hi)
theorem own_low {w : World} {base b2 : Nat} {e : TypeId} {size n : Nat} {v : Value} {xs : List Value} (h : w.ownsRow base e size v n xs) (hb : b2 ≤ base) : w.ownsRow b2 e size v n xs := by
  obtain ⟨h1, h2⟩ := h
  refine ⟨h1, ?_⟩
  rcases h2 with h2 | ⟨g, cap, cur, rfl, hg, r⟩
  · exact .inl h2
  · exact .inr ⟨g, cap, cur, rfl, Nat.le_trans hb hg, r⟩
theorem own_row {w0 w : World} {S : Nat → Prop} {L : List Res} {w1 : World} (ho : Own w0 S w L) {e : TypeId} {size n : Nat} {v : Value} {xs : List Value} (h : w1.ownsRow w.heap.size e size v n xs) (hB : Below w.heap.size w w1) : Own w0 S w1 (row e size v n xs :: L) :=
  ho.new _ hB (own_low h (Nat.zero_le _)) fun i hi => (h.lt i hi).1
theorem ptB_in {p : Pt} {n : Int} (h : ptB p n = true) (h7 : n ≤ 7) : (0 ≤ p.node ∧ p.node < 7) ∧ (0 ≤ p.start ∧ p.start ≤ 268435456) ∧ (0 ≤ p.len ∧ p.len ≤ 268435456) ∧ (0 ≤ p.budget ∧ p.budget ≤ 64) ∧ (0 ≤ p.words ∧ p.words ≤ 16) ∧ p.r0 ≤ 3 ∧ p.r1 ≤ 3 ∧ p.r2 ≤ 3 ∧ p.r3 ≤ 3 := by
  simp only [ptB, inB, Bool.and_eq_true, decide_eq_true_eq] at h
  omega
theorem qtB_in {q : Qt} {n : Nat} (h : qtB q (n : Int) = true) (h7 : n ≤ 12) : (0 ≤ q.part ∧ q.part < 12) ∧ (1 ≤ q.kind ∧ q.kind ≤ 2) ∧ (0 ≤ q.size ∧ q.size ≤ 16) ∧ (0 ≤ q.depth ∧ q.depth ≤ 4) ∧ (0 ≤ q.fresh ∧ q.fresh ≤ 8) := by
  simp only [qtB, inB, Bool.and_eq_true, decide_eq_true_eq] at h
  obtain ⟨⟨h1, h2⟩, h3⟩ := h
  split at h3
  · simp only [Bool.and_eq_true, decide_eq_true_eq] at h3
    omega
  · split at h3
    · simp only [Bool.and_eq_true, decide_eq_true_eq] at h3
      omega
    · cases h3
theorem idx4 (r0 r1 r2 r3 : Nat) (k : Nat) (hk : k < 4) : ∃ x : Nat, (∀ w, (Instr.index 36 (.agg #[.int .u8 (r0 : Int), .int .u8 (r1 : Int), .int .u8 (r2 : Int), .int .u8 (r3 : Int)]) (.int .i64 (k : Int))).run Try.prog w = .ok (.int .u8 (x : Int)) w) ∧ ([(r0 : Int), r1, r2, r3] : List Int)[k]? = some (x : Int) := by
  rcases k with _ | _ | _ | _ | k
  · exact ⟨r0, fun w => by kernel_rfl, rfl⟩
  · exact ⟨r1, fun w => by kernel_rfl, rfl⟩
  · exact ⟨r2, fun w => by kernel_rfl, rfl⟩
  · exact ⟨r3, fun w => by kernel_rfl, rfl⟩
  · omega
theorem flat_snoc {α : Type} {f : α → List Int} {l : List α} {i : Nat} {x : α} (h : l[i]? = some x) : (l.take (i + 1)).flatMap f = (l.take i).flatMap f ++ f x := by
  rw [List.take_add_one, h, List.flatMap_append]
  simp
set_option maxRecDepth 100000
set_option maxHeartbeats 8000000
theorem tabEnc_bad (n f sl gp rh d0 d1 mg : Int) (PA : Option Addr) (pn pc : Nat) (OA : Option Addr) (on oc : Nat) (RA : Option Addr) (rn rc : Nat) (ps : List Pt) (qs : List Qt) (rs : List Rt) (w : World) (hP : At Pt.cells w PA pn ps) (hQ : At Qt.cells w OA on qs) (hR : At Rt.cells w RA rn rs)
    (oP : ∀ p ∈ ps, p.Ok) (oQ : ∀ p ∈ qs, p.Ok) (q : Int × Int) (her : tabE n f sl gp rh d0 d1 mg ps qs rs = some q) :
    Calls Try.prog 29 #[.agg #[.int .i64 n, .int .i64 f, .int .i64 sl, .int .i64 gp, .int .i64 rh, .int .i64 d0, .int .i64 d1, .int .i64 mg, .slice PA pn pc, .slice OA on oc, .slice RA rn rc]] w fun e w' => ∃ v, e = .returned (.tuple #[.slice none 0 0, v]) ∧ (∃ b, v = .iface 77 (.pointer (some ⟨b, 0, none⟩))) ∧ IsErr w' [(60, -1), q] none v ∧ Below w.heap.size w w' := by
  have ho := Hidd.mk ((Own.nil w (fun _ => False)).alloc (.cells #[.int .i64 n, .int .i64 f, .int .i64 sl, .int .i64 gp, .int .i64 rh, .int .i64 d0, .int .i64 d1, .int .i64 mg, .slice PA pn pc, .slice OA on oc, .slice RA rn rc] 26))
  replace hP := Hidd.mk hP
  replace hQ := Hidd.mk hQ
  replace hR := Hidd.mk hR
  replace oP := Hidd.mk oP
  replace oQ := Hidd.mk oQ
  replace her := Hidd.mk her
  go_enter Try.func29, Try.ntmps29
  go_wp2_with (first
    | (go_at_call 31; refine (tabCheck_any n f sl gp rh d0 d1 mg PA pn pc OA on oc RA rn rc ps qs rs _ (hP.out.below (ho.out.below fun _ => id)) (hQ.out.below (ho.out.below fun _ => id)) (hR.out.below (ho.out.below fun _ => id)) oP.out oQ.out _ her.out).mono ?_; rintro e w1 ⟨v, rfl, he, hb⟩; have hv := he.isErr; obtain ⟨b0, rfl, _⟩ := he; have ho1 := Hidd.mk (ho.out.ext hb); replace hv := Hidd.mk (show IsErr w1 [q] none _ from hv); clear hb ho)
    | (go_at_call 58; refine (wrapE_any 60 (-1) _ _ _ _ (by decide) (by decide) hv.out).mono ?_; rintro e w2 ⟨b, rfl, he, hb⟩; have ho2 := Hidd.mk (ho1.out.ext hb); replace he := Hidd.mk he; clear hb))
  go_ret2
  exact ⟨_, rfl, ⟨_, rfl⟩, he.out, ho2.out.below fun _ => id⟩
theorem tabEnc_ok (n f sl gp rh d0 d1 mg : Int) (PA : Option Addr) (pn pc : Nat) (OA : Option Addr) (on oc : Nat) (RA : Option Addr) (rn rc : Nat) (ps : List Pt) (qs : List Qt) (rs : List Rt) (w : World) (hP : At Pt.cells w PA pn ps) (hQ : At Qt.cells w OA on qs) (hR : At Rt.cells w RA rn rs)
    (oP : ∀ p ∈ ps, p.Ok) (oQ : ∀ p ∈ qs, p.Ok) (hT : Tab n f sl gp rh d0 d1 mg ps qs rs) (N : Nat) (hN : (imgB n f sl gp rh d0 d1 mg ps qs rs).length = N) :
    Calls Try.prog 29 #[.agg #[.int .i64 n, .int .i64 f, .int .i64 sl, .int .i64 gp, .int .i64 rh, .int .i64 d0, .int .i64 d1, .int .i64 mg, .slice PA pn pc, .slice OA on oc, .slice RA rn rc]] w fun e w' => ∃ A c, e = .returned (.tuple #[.slice A (N + 4) c, .nilIface]) ∧ N + 4 ≤ c ∧ Own w (fun _ => False) w' [row 5 1 (.slice A (N + 4) c) (N + 4) (nums .u8 (crcSeal (imgB n f sl gp rh d0 d1 mg ps qs rs)))] := by
  have ho := Hidd.mk ((Own.nil w (fun _ => False)).alloc (.cells #[.int .i64 n, .int .i64 f, .int .i64 sl, .int .i64 gp, .int .i64 rh, .int .i64 d0, .int .i64 d1, .int .i64 mg, .slice PA pn pc, .slice OA on oc, .slice RA rn rc] 26))
  have her := Hidd.mk hT.to
  have hpl := Hidd.mk hP.1
  have hql := Hidd.mk hQ.1
  have hrl := Hidd.mk hR.1
  have hs := hT.sc
  have bP := hT.np
  have bQ := hT.nq
  have bR := hT.nr
  rw [hP.1] at bP
  rw [hQ.1] at bQ
  rw [hR.1] at bR
  have hpi := Hidd.mk fun p hp => ptB_in (hT.p p hp) hs.n7
  have hqi := Hidd.mk fun q hq => qtB_in (hT.q q hq) hT.np
  have hri := Hidd.mk hT.r
  have u1 := Hidd.mk (InU.nil.cons (x := 1163084593) (by decide) (by decide))
  have u2 := Hidd.mk ((InU.nil.cons (x := f) hs.f0 (by have := hs.f2; omega)).cons (x := n) (by have := hs.n1; omega) (by have := hs.n7; omega))
  have u3 := Hidd.mk ((((((InU.nil.cons (x := mg) hs.m0 (by have := hs.m2; omega)).cons (x := d1) hs.d1a (by have := hs.d1b; omega)).cons (x := d0) hs.d0a (by have := hs.d0b; have := hs.d1b; omega)).cons (x := rh) hs.r0 (by have := hs.r2; omega)).cons (x := gp) hs.g0 (by have := hs.g2; omega)).cons (x := sl) (by have := hs.s1; omega) (by have := hs.s2; omega))
  have u4 := Hidd.mk (((InU.nil.cons (x := (rn : Int)) (by omega) (by omega)).cons (x := (on : Int)) (by omega) (by omega)).cons (x := (pn : Int)) (by omega) (by omega))
  have hN2 : 33 + 15 * pn + 6 * on + 2 * rn = N := by rw [← hN, imgB_len, hpl.out, hql.out, hrl.out]
  have himg : imgB n f sl gp rh d0 d1 mg ps qs rs = hdBy n f sl gp rh d0 d1 mg pn on rn ++ ps.flatMap ptBy ++ qs.flatMap qtBy ++ rs.flatMap rtBy := by unfold imgB; rw [hpl.out, hql.out, hrl.out]
  have hby := Hidd.mk (imgB_rng n f sl gp rh d0 d1 mg ps qs rs)
  have hhl := Hidd.mk (hdBy_len n f sl gp rh d0 d1 mg pn on rn)
  have hhd : Hidd ([] ++ putsL 4 [1163084593] ++ putsL 1 [n, f] ++ putsL 4 [sl, gp, rh, d0, d1, mg] ++ putsL 1 [(pn : Int), (on : Int), (rn : Int)] = hdBy n f sl gp rh d0 d1 mg pn on rn) := ⟨rfl⟩
  obtain ⟨HD, hHD⟩ : ∃ HD, hdBy n f sl gp rh d0 d1 mg pn on rn = HD := ⟨_, rfl⟩
  rw [hHD] at hhd hhl himg
  replace hP := Hidd.mk hP
  replace hQ := Hidd.mk hQ
  replace hR := Hidd.mk hR
  replace oP := Hidd.mk oP
  replace oQ := Hidd.mk oQ
  replace hN := Hidd.mk hN
  replace hN2 := Hidd.mk hN2
  replace himg := Hidd.mk himg
  clear hHD hs hT
  go_enter Try.func29, Try.ntmps29
  go_upto_region 4 with (go_at_call 31; refine (tabCheck_any n f sl gp rh d0 d1 mg PA pn pc OA on oc RA rn rc ps qs rs _ (hP.out.below (ho.out.below fun _ => id)) (hQ.out.below (ho.out.below fun _ => id)) (hR.out.below (ho.out.below fun _ => id)) oP.out oQ.out _ her.out).mono ?_; rintro e w1 ⟨v, rfl, he, hb⟩; obtain rfl := show v = .nilIface from he; have ho1 := Hidd.mk (ho.out.ext hb); clear hb ho he)
  have ho2 := Hidd.mk (wtrT_new ho1.out)
  clear ho1
  generalize w.heap.size = p1 at ho2 ⊢
  go_upto_region 6 with fail
  generalize w1.heap.size = b at ho2 ⊢
  generalize World.alloc w1 _ = w2 at ho2 ⊢
  obtain ⟨x0, x1, x2, x3, x4, x5, x6, x7, x8, x9, xA⟩ := cells11 ho2.out 1 rfl
  go_upto_region 10 with (first
    | (go_at_call 59; have hq := ho2.out; clear hq; refine (puts_own 1 0 (ho2.out.alloc (.cells #[.int .i64 1163084593] 3)) rfl 4 4 (by decide) 1 1 [1163084593] rfl (by decide) rfl u1.out (by omega) 4 (by omega)).mono ?_; rintro e w9 ⟨rfl, A2, cap2, hn⟩; simp only [List.set_cons_zero, List.set_cons_succ] at hn; have ho3 := Hidd.mk hn.tail; clear hn ho2; clear x0 x1 x2 x3 x4 x5 x6 x7 x8 x9 xA; obtain ⟨x0, x1, x2, x3, x4, x5, x6, x7, x8, x9, xA⟩ := cells11 ho3.out 1 rfl)
    | (go_at_call 59; have hq := ho3.out; clear hq; refine (puts_own 1 0 (ho3.out.alloc (.cells #[.int .i64 n, .int .i64 f] 3)) rfl 1 1 (by decide) 2 2 [n, f] rfl (by decide) rfl u2.out (by omega) 6 (by omega)).mono ?_; rintro e w9 ⟨rfl, A2, cap2, hn⟩; simp only [List.set_cons_zero, List.set_cons_succ] at hn; have ho4 := Hidd.mk hn.tail; clear hn ho3; clear x0 x1 x2 x3 x4 x5 x6 x7 x8 x9 xA; obtain ⟨x0, x1, x2, x3, x4, x5, x6, x7, x8, x9, xA⟩ := cells11 ho4.out 1 rfl)
    | (go_at_call 59; have hq := ho4.out; clear hq; refine (puts_own 1 0 (ho4.out.alloc (.cells #[.int .i64 sl, .int .i64 gp, .int .i64 rh, .int .i64 d0, .int .i64 d1, .int .i64 mg] 3)) rfl 4 4 (by decide) 6 6 [sl, gp, rh, d0, d1, mg] rfl (by decide) rfl u3.out (by omega) 30 (by omega)).mono ?_; rintro e w9 ⟨rfl, A2, cap2, hn⟩; simp only [List.set_cons_zero, List.set_cons_succ] at hn; have ho5 := Hidd.mk hn.tail; clear hn ho4; clear x0 x1 x2 x3 x4 x5 x6 x7 x8 x9 xA; obtain ⟨x0, x1, x2, x3, x4, x5, x6, x7, x8, x9, xA⟩ := cells11 ho5.out 1 rfl)
    | (go_at_call 59; have hq := ho5.out; clear hq; refine (puts_own 1 0 (ho5.out.alloc (.cells #[.int .i64 (pn : Int), .int .i64 (on : Int), .int .i64 (rn : Int)] 3)) rfl 1 1 (by decide) 3 3 [(pn : Int), (on : Int), (rn : Int)] rfl (by decide) rfl u4.out (by omega) 33 (by omega)).mono ?_; rintro e w9 ⟨rfl, A2, cap2, hn⟩; simp only [List.set_cons_zero, List.set_cons_succ] at hn; have ho6 := Hidd.mk hn.tail; clear hn ho5; clear x0 x1 x2 x3 x4 x5 x6 x7 x8 x9 xA; obtain ⟨x0, x1, x2, x3, x4, x5, x6, x7, x8, x9, xA⟩ := cells11 ho6.out 1 rfl))
  rw [hhd.out] at ho6
  clear u1 u2 u3 u4 hhd
  go_wp2
  clear x0 x1 x2 x3 x4 x5 x6 x7 x8 x9 xA
  go_loopw [63] (fun v63 wr => ∃ (i : Nat) (A : Option Addr) (cap : Nat), v63 = .int .i64 i ∧ i ≤ pn ∧ Hidd (Own w (fun _ => False) wr [wtr b A (33 + 15 * i) cap (HD ++ (ps.take i).flatMap ptBy), blk p1 (.cells #[.int .i64 n, .int .i64 f, .int .i64 sl, .int .i64 gp, .int .i64 rh, .int .i64 d0, .int .i64 d1, .int .i64 mg, .slice PA pn pc, .slice OA on oc, .slice RA rn rc] 26)])) (fun v63 _ => pn - (intOf v63).toNat)
  case atStart => exact ⟨0, A2, cap2, rfl, Nat.zero_le _, ⟨by rw [List.take_zero, List.flatMap_nil, List.append_nil]; exact ho6.out⟩⟩
  case round =>
    clear ho6
    obtain ⟨i, A, cap, rfl, hil, ho⟩ := hrel
    obtain ⟨x0, x1, x2, x3, x4, x5, x6, x7, x8, x9, xA⟩ := cells11 ho.out 1 rfl
    by_cases hlt : i < pn
    · obtain ⟨p, hp⟩ : ∃ x, ps[i]? = some x := ⟨_, List.getElem?_eq_getElem (by rw [hpl.out]; exact hlt)⟩
      obtain ⟨i0, i1, i2, i3, i4, i5, i6, i7, i8⟩ := hpi.out p (List.mem_of_getElem? hp)
      obtain ⟨a, rfl, y0, y1, y2, y3, y4, y5, y6, y7, y8⟩ := (hP.out.below (ho.out.below fun _ => id)).part hp
      have hyl := World.block_lt_of_cell? wr _ y0
      have hlt1 := ho.out.lt 1 rfl
      have bi0 : (0 : Int) ≤ (i : Int) := by omega
      have bi1 : (i : Int) < (pn : Int) := by omega
      have hfs := Hidd.mk (flat_snoc (f := ptBy) hp)
      clear hp
      obtain ⟨q0, q1, q2, q3, q4, q5, q6, q7, q8⟩ := p
      simp only at y0 y1 y2 y3 y4 y5 y6 y7 y8 i0 i1 i2 i3 i4 i5 i6 i7 i8 hfs
      have uA := Hidd.mk (InU.nil.cons (x := q0) (by omega) (by omega))
      have uB := Hidd.mk ((InU.nil.cons (x := q2) (by omega) (by omega)).cons (x := q1) (by omega) (by omega))
      have uC := Hidd.mk ((InU.nil.cons (x := q4) (by omega) (by omega)).cons (x := q3) (by omega) (by omega))
      have ho3 := Hidd.mk (ho.out.alloc (.cells #[.int .i64 q0, .int .i64 q1, .int .i64 q2, .int .i64 q3, .int .i64 q4, .int .u8 (q5 : Int), .int .u8 (q6 : Int), .int .u8 (q7 : Int), .int .u8 (q8 : Int)] 38))
      go_upto_region 13 with fail
      clear ho x0 x1 x2 x3 x4 x5 x6 x7 x8 x9 xA y0 y1 y2 y3 y4 y5 y6 y7 y8 hyl hlt1
      generalize wr.heap.size = p4 at ho3 ⊢
      generalize World.alloc wr _ = w3 at ho3 ⊢
      have e0 := ho3.out.cell 0 rfl 0
      have e1 := ho3.out.cell 0 rfl 1
      have e2 := ho3.out.cell 0 rfl 2
      have e3 := ho3.out.cell 0 rfl 3
      have e4 := ho3.out.cell 0 rfl 4
      have e5 := ho3.out.cell 0 rfl 5
      have e6 := ho3.out.cell 0 rfl 6
      have e7 := ho3.out.cell 0 rfl 7
      have e8 := ho3.out.cell 0 rfl 8
      simp at e0 e1 e2 e3 e4 e5 e6 e7 e8
      go_upto_region 16 with (first
        | (go_at_call 59; have hq := ho3.out; clear hq; refine (puts_own 2 0 (ho3.out.alloc (.cells #[.int .i64 q0] 3)) rfl 1 1 (by decide) 1 1 [q0] rfl (by decide) rfl uA.out (by omega) (33 + 15 * i + 1) (by omega)).mono ?_; rintro e w9 ⟨rfl, A2, cap2, hn⟩; simp only [List.set_cons_zero, List.set_cons_succ] at hn; have ho4 := Hidd.mk hn.tail; clear hn ho3 e0 e1 e2 e3 e4 e5 e6 e7 e8; have e0 := ho4.out.cell 0 rfl 0; have e1 := ho4.out.cell 0 rfl 1; have e2 := ho4.out.cell 0 rfl 2; have e3 := ho4.out.cell 0 rfl 3; have e4 := ho4.out.cell 0 rfl 4; have e5 := ho4.out.cell 0 rfl 5; have e6 := ho4.out.cell 0 rfl 6; have e7 := ho4.out.cell 0 rfl 7; have e8 := ho4.out.cell 0 rfl 8; simp at e0 e1 e2 e3 e4 e5 e6 e7 e8)
        | (go_at_call 59; have hq := ho4.out; clear hq; refine (puts_own 2 0 (ho4.out.alloc (.cells #[.int .i64 q1, .int .i64 q2] 3)) rfl 4 4 (by decide) 2 2 [q1, q2] rfl (by decide) rfl uB.out (by omega) (33 + 15 * i + 9) (by omega)).mono ?_; rintro e w9 ⟨rfl, A2, cap2, hn⟩; simp only [List.set_cons_zero, List.set_cons_succ] at hn; have ho5 := Hidd.mk hn.tail; clear hn ho4 e0 e1 e2 e3 e4 e5 e6 e7 e8; have e0 := ho5.out.cell 0 rfl 0; have e1 := ho5.out.cell 0 rfl 1; have e2 := ho5.out.cell 0 rfl 2; have e3 := ho5.out.cell 0 rfl 3; have e4 := ho5.out.cell 0 rfl 4; have e5 := ho5.out.cell 0 rfl 5; have e6 := ho5.out.cell 0 rfl 6; have e7 := ho5.out.cell 0 rfl 7; have e8 := ho5.out.cell 0 rfl 8; simp at e0 e1 e2 e3 e4 e5 e6 e7 e8)
        | (go_at_call 59; have hq := ho5.out; clear hq; refine (puts_own 2 0 (ho5.out.alloc (.cells #[.int .i64 q3, .int .i64 q4] 3)) rfl 1 1 (by decide) 2 2 [q3, q4] rfl (by decide) rfl uC.out (by omega) (33 + 15 * i + 11) (by omega)).mono ?_; rintro e w9 ⟨rfl, A2, cap2, hn⟩; simp only [List.set_cons_zero, List.set_cons_succ] at hn; have ho6 := Hidd.mk hn.tail; clear hn ho5 e0 e1 e2 e3 e4 e5 e6 e7 e8; have e0 := ho6.out.cell 0 rfl 0; have e1 := ho6.out.cell 0 rfl 1; have e2 := ho6.out.cell 0 rfl 2; have e3 := ho6.out.cell 0 rfl 3; have e4 := ho6.out.cell 0 rfl 4; have e5 := ho6.out.cell 0 rfl 5; have e6 := ho6.out.cell 0 rfl 6; have e7 := ho6.out.cell 0 rfl 7; have e8 := ho6.out.cell 0 rfl 8; simp at e0 e1 e2 e3 e4 e5 e6 e7 e8))
      go_wp2
      clear uA uB uC i0 i1 i2 i3 i4
      clear e0 e1 e2 e3 e4 e5 e6 e7 e8
      obtain ⟨XX, hXX⟩ : ∃ XX, HD ++ (ps.take i).flatMap ptBy ++ putsL 1 [q0] ++ putsL 4 [q1, q2] ++ putsL 1 [q3, q4] = XX := ⟨_, rfl⟩
      rw [hXX] at ho6
      replace hXX := Hidd.mk hXX
      go_loopw [88] (fun v88 wr => ∃ (k : Nat) (A : Option Addr) (cap : Nat), v88 = .int .i64 k ∧ k ≤ 4 ∧ Hidd (Own w (fun _ => False) wr [wtr b A (33 + 15 * i + 11 + k) cap (XX ++ putsL 1 ([(q5 : Int), q6, q7, q8].take k)), blk p1 (.cells #[.int .i64 n, .int .i64 f, .int .i64 sl, .int .i64 gp, .int .i64 rh, .int .i64 d0, .int .i64 d1, .int .i64 mg, .slice (some a) pn pc, .slice OA on oc, .slice RA rn rc] 26)])) (fun v88 _ => 4 - (intOf v88).toNat)
      case atStart => exact ⟨0, A2, cap2, rfl, Nat.zero_le _, ⟨by rw [List.take_zero, show putsL 1 [] = [] from rfl, List.append_nil]; exact ho6.out.tail⟩⟩
      case round =>
        clear ho6
        obtain ⟨k, A, cap, rfl, hk4, ho⟩ := hrel
        by_cases hk : k < 4
        · obtain ⟨x, hix, hx⟩ := idx4 q5 q6 q7 q8 k hk
          have hx3 : x ≤ 3 := by
            rcases k with _ | _ | _ | _ | k
            · simp at hx; omega
            · simp at hx; omega
            · simp at hx; omega
            · simp at hx; omega
            · omega
          have hps := Hidd.mk (show putsL 1 ([(q5 : Int), q6, q7, q8].take (k + 1)) = putsL 1 ([(q5 : Int), q6, q7, q8].take k) ++ putsL 1 [(x : Int)] by rw [List.take_add_one, hx, putsL_app]; rfl)
          have wx : IntKind.i64.wrap (x : Int) = x := IntWalk.i64_in _ (by omega)
          have bk0 : (0 : Int) ≤ (k : Int) := by omega
          have bk1 : (k : Int) < 4 := by omega
          have uX := Hidd.mk (InU.nil.cons (x := (x : Int)) (by omega) (by omega))
          clear hx i5 i6 i7 i8
          go_wp2_with (go_at_call 59; refine (puts_own 1 0 (ho.out.alloc (.cells #[.int .i64 (x : Int)] 3)) rfl 1 1 (by decide) 1 1 [(x : Int)] rfl (by decide) rfl uX.out (by omega) (33 + 15 * i + 11 + (k + 1)) (by omega)).mono ?_; rintro e w9 ⟨rfl, A3, cap3, hn⟩; simp only [List.set_cons_zero, List.set_cons_succ] at hn; have hend := Hidd.mk hn.tail; clear hn)
          rw [List.append_assoc, ← hps.out] at hend
          go_roundw
          case rel => exact ⟨k + 1, A3, cap3, by go_num, by omega, hend⟩
          case measure => (simp [intOf]; try omega)
        · obtain rfl : k = 4 := by omega
          have hb2 : Hidd (XX ++ putsL 1 ([(q5 : Int), q6, q7, q8].take 4) = HD ++ (ps.take (i + 1)).flatMap ptBy) := ⟨by rw [hfs.out, ← hXX.out]; simp [ptBy, putsL]⟩
          rw [hb2.out, show 33 + 15 * i + 11 + 4 = 33 + 15 * (i + 1) by omega] at ho
          go_wp2
          go_roundw
          case rel => exact ⟨i + 1, A, cap, by go_num, by omega, ho⟩
          case measure => (simp [intOf]; try omega)
    · obtain rfl : pn = i := by omega
      have ho6 := ho
      rw [List.take_of_length_le (by rw [hpl.out]; exact Nat.le_refl _)] at ho6
      clear ho
      go_wp2
      clear x0 x1 x2 x3 x4 x5 x6 x7 x8 x9 xA
      obtain ⟨H2, hH2⟩ : ∃ H2, HD ++ ps.flatMap ptBy = H2 := ⟨_, rfl⟩
      rw [hH2] at ho6
      replace hH2 := Hidd.mk hH2
      go_loopw [101] (fun v101 wr => ∃ (i : Nat) (A : Option Addr) (cap : Nat), v101 = .int .i64 i ∧ i ≤ on ∧ Hidd (Own w (fun _ => False) wr [wtr b A (33 + 15 * pn + 6 * i) cap (H2 ++ (qs.take i).flatMap qtBy), blk p1 (.cells #[.int .i64 n, .int .i64 f, .int .i64 sl, .int .i64 gp, .int .i64 rh, .int .i64 d0, .int .i64 d1, .int .i64 mg, .slice PA pn pc, .slice OA on oc, .slice RA rn rc] 26)])) (fun v101 _ => on - (intOf v101).toNat)
      case atStart => exact ⟨0, A, cap, rfl, Nat.zero_le _, ⟨by rw [List.take_zero, List.flatMap_nil, List.append_nil]; exact ho6.out⟩⟩
      case round =>
        clear ho6
        obtain ⟨i, A, cap, rfl, hil, ho⟩ := hrel
        obtain ⟨x0, x1, x2, x3, x4, x5, x6, x7, x8, x9, xA⟩ := cells11 ho.out 1 rfl
        by_cases hlt : i < on
        · obtain ⟨p, hp⟩ : ∃ x, qs[i]? = some x := ⟨_, List.getElem?_eq_getElem (by rw [hql.out]; exact hlt)⟩
          obtain ⟨i0, i1, i2, i3, i4⟩ := hqi.out p (List.mem_of_getElem? hp)
          obtain ⟨a, rfl, y0, y1, y2, y3, y4, y5⟩ := (hQ.out.below (ho.out.below fun _ => id)).port hp
          have hyl := World.block_lt_of_cell? wr _ y0
          have hlt1 := ho.out.lt 1 rfl
          have bi0 : (0 : Int) ≤ (i : Int) := by omega
          have bi1 : (i : Int) < (on : Int) := by omega
          have hfs := Hidd.mk (flat_snoc (f := qtBy) hp)
          clear hp
          obtain ⟨q0, q1, q2, q3, q4, q5⟩ := p
          simp only at y0 y1 y2 y3 y4 y5 i0 i1 i2 i3 i4 hfs
          have wx : IntKind.i64.wrap (q1 : Int) = q1 := IntWalk.i64_in _ (by omega)
          have ho3 := Hidd.mk (ho.out.alloc (.cells #[.int .i64 q0, .int .u8 (q1 : Int), .bool q2, .int .i64 q3, .int .i64 q4, .int .i64 q5] 44))
          cases q2
          · have uA := Hidd.mk ((((((InU.nil.cons (x := q5) (by omega) (by omega)).cons (x := q4) (by omega) (by omega)).cons (x := q3) (by omega) (by omega)).cons (x := 0) (by omega) (by omega)).cons (x := (q1 : Int)) (by omega) (by omega)).cons (x := q0) (by omega) (by omega))
            go_upto_region 28 with fail
            clear ho x0 x1 x2 x3 x4 x5 x6 x7 x8 x9 xA y0 y1 y2 y3 y4 y5 hyl hlt1
            generalize wr.heap.size = p4 at ho3 ⊢
            generalize World.alloc wr _ = w3 at ho3 ⊢
            have e0 := ho3.out.cell 0 rfl 0
            have e1 := ho3.out.cell 0 rfl 1
            have e3 := ho3.out.cell 0 rfl 3
            have e4 := ho3.out.cell 0 rfl 4
            have e5 := ho3.out.cell 0 rfl 5
            simp at e0 e1 e3 e4 e5
            go_wp2_with (go_at_call 59; refine (puts_own 2 0 (ho3.out.alloc (.cells #[.int .i64 q0, .int .i64 (q1 : Int), .int .i64 0, .int .i64 q3, .int .i64 q4, .int .i64 q5] 3)) rfl 1 1 (by decide) 6 6 [q0, (q1 : Int), 0, q3, q4, q5] rfl (by decide) rfl uA.out (by omega) (33 + 15 * pn + 6 * (i + 1)) (by omega)).mono ?_; rintro e w9 ⟨rfl, A3, cap3, hn⟩; simp only [List.set_cons_zero, List.set_cons_succ] at hn; have hend := Hidd.mk hn.tail.tail; clear hn)
            rw [List.append_assoc, show (qs.take i).flatMap qtBy ++ putsL 1 [q0, (q1 : Int), 0, q3, q4, q5] = (qs.take (i + 1)).flatMap qtBy by rw [hfs.out]; rfl] at hend
            go_roundw
            case rel => exact ⟨i + 1, A3, cap3, by go_num, by omega, hend⟩
            case measure => (simp [intOf]; try omega)
          · have uA := Hidd.mk ((((((InU.nil.cons (x := q5) (by omega) (by omega)).cons (x := q4) (by omega) (by omega)).cons (x := q3) (by omega) (by omega)).cons (x := 1) (by omega) (by omega)).cons (x := (q1 : Int)) (by omega) (by omega)).cons (x := q0) (by omega) (by omega))
            go_upto_region 28 with fail
            clear ho x0 x1 x2 x3 x4 x5 x6 x7 x8 x9 xA y0 y1 y2 y3 y4 y5 hyl hlt1
            generalize wr.heap.size = p4 at ho3 ⊢
            generalize World.alloc wr _ = w3 at ho3 ⊢
            have e0 := ho3.out.cell 0 rfl 0
            have e1 := ho3.out.cell 0 rfl 1
            have e3 := ho3.out.cell 0 rfl 3
            have e4 := ho3.out.cell 0 rfl 4
            have e5 := ho3.out.cell 0 rfl 5
            simp at e0 e1 e3 e4 e5
            go_wp2_with (go_at_call 59; refine (puts_own 2 0 (ho3.out.alloc (.cells #[.int .i64 q0, .int .i64 (q1 : Int), .int .i64 1, .int .i64 q3, .int .i64 q4, .int .i64 q5] 3)) rfl 1 1 (by decide) 6 6 [q0, (q1 : Int), 1, q3, q4, q5] rfl (by decide) rfl uA.out (by omega) (33 + 15 * pn + 6 * (i + 1)) (by omega)).mono ?_; rintro e w9 ⟨rfl, A3, cap3, hn⟩; simp only [List.set_cons_zero, List.set_cons_succ] at hn; have hend := Hidd.mk hn.tail.tail; clear hn)
            rw [List.append_assoc, show (qs.take i).flatMap qtBy ++ putsL 1 [q0, (q1 : Int), 1, q3, q4, q5] = (qs.take (i + 1)).flatMap qtBy by rw [hfs.out]; rfl] at hend
            go_roundw
            case rel => exact ⟨i + 1, A3, cap3, by go_num, by omega, hend⟩
            case measure => (simp [intOf]; try omega)
        · obtain rfl : on = i := by omega
          have ho6 := ho
          rw [List.take_of_length_le (by rw [hql.out]; exact Nat.le_refl _)] at ho6
          clear ho
          go_wp2
          clear x0 x1 x2 x3 x4 x5 x6 x7 x8 x9 xA
          obtain ⟨H3, hH3⟩ : ∃ H3, H2 ++ qs.flatMap qtBy = H3 := ⟨_, rfl⟩
          rw [hH3] at ho6
          replace hH3 := Hidd.mk hH3
          go_loopw [126] (fun v126 wr => ∃ (i : Nat) (A : Option Addr) (cap : Nat), v126 = .int .i64 i ∧ i ≤ rn ∧ Hidd (Own w (fun _ => False) wr [wtr b A (33 + 15 * pn + 6 * on + 2 * i) cap (H3 ++ (rs.take i).flatMap rtBy), blk p1 (.cells #[.int .i64 n, .int .i64 f, .int .i64 sl, .int .i64 gp, .int .i64 rh, .int .i64 d0, .int .i64 d1, .int .i64 mg, .slice PA pn pc, .slice OA on oc, .slice RA rn rc] 26)])) (fun v126 _ => rn - (intOf v126).toNat)
          case atStart => exact ⟨0, A, cap, rfl, Nat.zero_le _, ⟨by rw [List.take_zero, List.flatMap_nil, List.append_nil]; exact ho6.out⟩⟩
          case round =>
            clear ho6
            obtain ⟨i, A, cap, rfl, hil, ho⟩ := hrel
            by_cases hlt : i < rn
            · obtain ⟨p, hp⟩ : ∃ x, rs[i]? = some x := ⟨_, List.getElem?_eq_getElem (by rw [hrl.out]; exact hlt)⟩
              have hrb := hri.out p (List.mem_of_getElem? hp)
              rw [hql.out] at hrb
              obtain ⟨a, rfl, y0, y1⟩ := (hR.out.below (ho.out.below fun _ => id)).route hp
              have hyl := World.block_lt_of_cell? wr _ y0
              have hlt1 := ho.out.lt 1 rfl
              have bi0 : (0 : Int) ≤ (i : Int) := by omega
              have bi1 : (i : Int) < (rn : Int) := by omega
              have hfs := Hidd.mk (flat_snoc (f := rtBy) hp)
              clear hp
              obtain ⟨s, t, rfl, hs', ht'⟩ := rt_nat hrb
              (try simp only at y0 y1 hfs)
              have uA := Hidd.mk ((InU.nil.cons (x := (t : Int)) (by omega) (by omega)).cons (x := (s : Int)) (by omega) (by omega))
              have ho3 := Hidd.mk (ho.out.alloc (.cells #[.int .i64 (s : Int), .int .i64 (t : Int)] 41))
              clear hrb
              go_upto_region 33 with fail
              clear ho y0 y1 hyl hlt1
              generalize wr.heap.size = p4 at ho3 ⊢
              generalize World.alloc wr _ = w3 at ho3 ⊢
              have e0 := ho3.out.cell 0 rfl 0
              have e1 := ho3.out.cell 0 rfl 1
              simp at e0 e1
              go_wp2_with (go_at_call 59; refine (puts_own 2 0 (ho3.out.alloc (.cells #[.int .i64 (s : Int), .int .i64 (t : Int)] 3)) rfl 1 1 (by decide) 2 2 [(s : Int), (t : Int)] rfl (by decide) rfl uA.out (by omega) (33 + 15 * pn + 6 * on + 2 * (i + 1)) (by omega)).mono ?_; rintro e w9 ⟨rfl, A3, cap3, hn⟩; simp only [List.set_cons_zero, List.set_cons_succ] at hn; have hend := Hidd.mk hn.tail.tail; clear hn)
              rw [List.append_assoc, show (rs.take i).flatMap rtBy ++ putsL 1 [(s : Int), (t : Int)] = (rs.take (i + 1)).flatMap rtBy by rw [hfs.out]; rfl] at hend
              go_roundw
              case rel => exact ⟨i + 1, A3, cap3, by go_num, by omega, hend⟩
              case measure => (simp [intOf]; try omega)
            · obtain rfl : rn = i := by omega
              have ho6 := ho
              rw [List.take_of_length_le (by rw [hrl.out]; exact Nat.le_refl _), ← hH3.out, ← hH2.out, ← himg.out, hN2.out] at ho6
              clear ho
              have hW : WrIn wr b A N cap _ := ho6.out.get 0 rfl
              have hN5 : N ≤ 1000 := by have := hN2.out; omega
              replace hW := Hidd.mk hW
              go_wp2_with (first
                | (go_at_call 61; refine (bytes_new hW.out (by omega)).mono ?_; rintro e w5 ⟨A5, c5, rfl, hn⟩; have ho7 := Hidd.mk (ho6.out.made hn); clear hn)
                | (go_at_call 46; refine (seal_at A5 N c5 _ _ (row_cells ho7.out 0 rfl) hby.out (by omega) hN.out).mono ?_; rintro e w6 ⟨A6, c6, rfl, hc6, hrow, _, hb⟩; have ho8 := Hidd.mk (own_row ho7.out hrow hb); clear hrow hb))
              go_ret2
              exact ⟨A6, c6, rfl, hc6, ho8.out.reorder [0] rfl (by decide)⟩
end Go.Proofs.Ytcamoldjljfbeaa
