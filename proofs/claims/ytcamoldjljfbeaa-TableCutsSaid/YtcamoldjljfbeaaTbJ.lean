/- escapementref05.read: the walk. -/
import Derived.Test.YtcamoldjljfbeaaTbI
import Derived.Test.YtcamoldjljfbeaaTbH
namespace Go.Proofs.Ytcamoldjljfbeaa
open Go.RowKit

def RrPost (w0 : World) (F : Nat → Prop) (b : Nat) (A : Option Addr) (n cap : Nat) (r : Rd) (e : Ending) (w' : World) : Prop :=
  (∀ q, r.e = some q → e = .returned (.tuple #[.agg #[.int .i64 0, .int .i64 0, .int .i64 0, .int .i64 0, .int .i64 0, .int .i64 0, .int .i64 0, .int .i64 0, .slice none 0 0, .slice none 0 0, .slice none 0 0], .string (atB q.1 q.2)]) ∧ Own w0 F w' [rref b A n cap r.s.p r.s.er]) ∧
  (r.e = none → ∃ A1 c1 A2 c2 A3 c3, e = .returned (.tuple #[.agg #[.int .i64 (r.h.getD 0 0 : Nat), .int .i64 (r.h.getD 1 0 : Nat), .int .i64 (r.h.getD 2 0 : Nat), .int .i64 (r.h.getD 3 0 : Nat), .int .i64 (r.h.getD 4 0 : Nat), .int .i64 (r.h.getD 5 0 : Nat), .int .i64 (r.h.getD 6 0 : Nat), .int .i64 (r.h.getD 7 0 : Nat), .slice A1 r.ps.length c1, .slice A2 r.qs.length c2, .slice A3 r.rs.length c3], .string ⟨#[]⟩]) ∧
    Own w0 F w' [row 41 2 (.slice A3 r.rs.length c3) r.rs.length (r.rs.flatMap Rt.cells), row 44 6 (.slice A2 r.qs.length c2) r.qs.length (r.qs.flatMap Qt.cells), row 38 9 (.slice A1 r.ps.length c1) r.ps.length (r.ps.flatMap Pt.cells), rref b A n cap r.s.p r.s.er])
set_option maxRecDepth 100000
set_option maxHeartbeats 16000000
theorem rreadT (b : Nat) (A : Option Addr) (n cap : Nat) (xs : List Int) (w w1 : World) (F : Nat → Prop) (hO : Own w F w1 [rref b A n cap 0 none]) (hC : ∀ w', Kept F w w' → Cells w' A (nums .u8 xs)) (hl : xs.length = n) (hn : n ≤ 1000000) (hx : ∀ x ∈ xs, 0 ≤ x ∧ x < 256) (r : Rd) (hr : rdT xs n = r) :
    Calls Try.prog 75 #[.pointer (some ⟨b, 0, none⟩)] w1 fun e w' => RrPost w F b A n cap r e w' := by
  have ho0 := Hidd.mk (hO.alloc (.cells #[.int .i64 0, .int .i64 0, .int .i64 0, .int .i64 0, .int .i64 0, .int .i64 0, .int .i64 0, .int .i64 0, .slice none 0 0, .slice none 0 0, .slice none 0 0] 26))
  replace hC := Hidd.mk hC
  replace hl := Hidd.mk hl
  replace hn := Hidd.mk hn
  replace hx := Hidd.mk hx
  replace hr := Hidd.mk hr
  obtain ⟨iP, hIP⟩ : ∃ i, _ := info_parts info_part
  obtain ⟨iQ, hIQ⟩ : ∃ i, _ := info_parts info_port
  obtain ⟨iT, hIT⟩ : ∃ i, _ := info_parts info_route
  replace hIP := Hidd.mk hIP
  replace hIQ := Hidd.mk hIQ
  replace hIT := Hidd.mk hIT
  clear hO
  go_enter Try.func75, Try.ntmps75
  go_upto_region 2 with (go_at_call 88; have hq := ho0.out; clear hq; refine (rtk_any hC.out hl.out hn.out hx.out 4 (by decide) 1 ⟨0, none⟩ ho0.out rfl (Nat.zero_le _)).mono ?_; rintro e w2 ⟨m, S0, rfl, htk, hn1⟩; have hpp := Hidd.mk (tk_pos htk (Nat.zero_le _)); simp only [List.set_cons_zero, List.set_cons_succ] at hn1; have o0 := Hidd.mk hn1; replace htk := Hidd.mk htk; clear hn1 ho0)
  generalize w1.heap.size = p2 at o0 ⊢
  obtain ⟨c0, c1, c2⟩ := rref_at 1 o0.out rfl
  go_cut [29] (fun v29 wx => v29 = .bool (S0.er.isNone && decide (m ≠ 1163084593)) ∧ wx = w2)
  case first =>
    obtain ⟨p, er⟩ := S0
    rcases er with _ | ⟨q0, q1⟩
    · replace c2 : World.cell? _ ⟨b, 2, none⟩ = some (.string ⟨#[]⟩) := c2
      by_cases hm : m = 1163084593
      · have dm : ((m : Int) != 1163084593) = false := by rw [bne_eq_false_iff_eq]; omega
        replace hm := Hidd.mk hm
        go_wp2_with fail
        go_meet
        case rel => exact ⟨by simp [hm.out], rfl⟩
      · have dm : ((m : Int) != 1163084593) = true := by rw [bne_iff_ne]; omega
        go_wp2_with fail
        go_meet
        case rel => exact ⟨by simp [hm], rfl⟩
    · replace c2 : World.cell? _ ⟨b, 2, none⟩ = some (.string (atB q0 q1)) := c2
      have hne := ne_empty (atB_pos q0 q1)
      go_wp2_with fail
      go_meet
      case rel => exact ⟨by simp, rfl⟩
  case rest =>
    clear c0 c1 c2
    obtain ⟨rfl, hw0⟩ := hcut
    obtain rfl : w2 = _ := hw0.symm
    clear hw0
    obtain ⟨CC, hCC⟩ : ∃ CC, (S0.er.isNone && decide (m ≠ 1163084593)) = CC := ⟨_, rfl⟩
    rw [hCC]
    rcases CC with _ | _
    rotate_left
    · have hreq : Hidd (⟨some (7, 0), [], [], [], [], S0⟩ = r) := ⟨by
        rw [← hr.out]
        unfold rdT
        rw [htk.out, if_pos (by simpa [and_comm] using hCC)]⟩
      go_wp2_with (go_at_call 51; refine (at_any 7 0 _ (by decide) (by decide) (by decide) (by decide)).mono ?_; rintro e w8 ⟨rfl, hb8⟩; have hz8 := Hidd.mk (o0.out.ext hb8); clear hb8; obtain ⟨x0, x1, x2, x3, x4, x5, x6, x7, x8, x9, xA⟩ := cells11 hz8.out 0 rfl; have fz0 := hz8.out.frozen 0 rfl 0; have fz1 := hz8.out.frozen 0 rfl 1; have fz2 := hz8.out.frozen 0 rfl 2; have fz3 := hz8.out.frozen 0 rfl 3; have fz4 := hz8.out.frozen 0 rfl 4; have fz5 := hz8.out.frozen 0 rfl 5; have fz6 := hz8.out.frozen 0 rfl 6; have fz7 := hz8.out.frozen 0 rfl 7; have fz8 := hz8.out.frozen 0 rfl 8; have fz9 := hz8.out.frozen 0 rfl 9; have fz10 := hz8.out.frozen 0 rfl 10)
      have hz9 := (((((((((((hz8.out.set 0 rfl 0 (.int .i64 0)).set 0 rfl 1 (.int .i64 0)).set 0 rfl 2 (.int .i64 0)).set 0 rfl 3 (.int .i64 0)).set 0 rfl 4 (.int .i64 0)).set 0 rfl 5 (.int .i64 0)).set 0 rfl 6 (.int .i64 0)).set 0 rfl 7 (.int .i64 0)).set 0 rfl 8 (.slice none 0 0)).set 0 rfl 9 (.slice none 0 0)).set 0 rfl 10 (.slice none 0 0))
      simp only [List.set_cons_zero, List.set_cons_succ, List.setIfInBounds_toArray] at hz9
      clear hz8 o0 x0 x1 x2 x3 x4 x5 x6 x7 x8 x9 xA fz0 fz1 fz2 fz3 fz4 fz5 fz6 fz7 fz8 fz9 fz10
      generalize World.setCell _ _ _ = WZ at hz9 ⊢
      replace hz9 := Hidd.mk hz9
      obtain ⟨x0, x1, x2, x3, x4, x5, x6, x7, x8, x9, xA⟩ := cells11 hz9.out 0 rfl
      refine bodyPost_ret (v := .tuple #[.agg #[.int .i64 0, .int .i64 0, .int .i64 0, .int .i64 0, .int .i64 0, .int .i64 0, .int .i64 0, .int .i64 0, .slice none 0 0, .slice none 0 0, .slice none 0 0], .string (atB 7 0)]) (by simp [results, Try.results75, go_sem, x0, x1, x2, x3, x4, x5, x6, x7, x8, x9, xA]) rfl ?_
      rw [← hreq.out]
      exact ⟨fun q hq => by
        injection hq with hq
        subst hq
        exact ⟨rfl, hz9.out.reorder (M := [_]) [1] rfl (by decide)⟩, fun h => by cases h⟩
    · have a0p := hpp
      have hng : ¬ (m ≠ 1163084593 ∧ S0.er.isNone = true) := by
        intro h
        simp [h.1, h.2] at hCC
      clear hpp
      go_upto_region 7 with (first
          | (go_at_call 89; have hq := o0.out; clear hq; refine (some_any hC.out hl.out hn.out hx.out 1 (by decide) 2 (by decide) 1 S0 o0.out rfl a0p.out).mono ?_; rintro e w9 ⟨go1, vs, U1, rfl, htk, hvl, hvb, hpq, hn9⟩; obtain ⟨h0, h1, rfl⟩ := len2 hvl; have a1 := Hidd.mk htk; have a1p := Hidd.mk hpq; have hbo1 := Hidd.mk hvb; simp only [List.set_cons_zero, List.set_cons_succ] at hn9; have o1 := Hidd.mk hn9; clear htk hvl hvb hpq hn9 o0)
          | (go_at_call 89; have hq := o1.out; clear hq; refine (some_any hC.out hl.out hn.out hx.out 4 (by decide) 6 (by decide) 2 U1 o1.out rfl a1p.out).mono ?_; rintro e w9 ⟨go2, vs, U2, rfl, htk, hvl, hvb, hpq, hn9⟩; obtain ⟨h2, h3, h4, h5, h6, h7, rfl⟩ := len6 hvl; have a2 := Hidd.mk htk; have a2p := Hidd.mk hpq; have hbo2 := Hidd.mk hvb; simp only [List.set_cons_zero, List.set_cons_succ] at hn9; have o2 := Hidd.mk hn9; clear htk hvl hvb hpq hn9 o1)
          | (go_at_call 89; have hq := o2.out; clear hq; refine (some_any hC.out hl.out hn.out hx.out 1 (by decide) 3 (by decide) 3 U2 o2.out rfl a2p.out).mono ?_; rintro e w9 ⟨go3, vs, S11, rfl, htk, hvl, hvb, hpq, hn9⟩; obtain ⟨h8, h9, h10, rfl⟩ := len3 hvl; have a3 := Hidd.mk htk; have a3p := Hidd.mk hpq; have hbo3 := Hidd.mk hvb; simp only [List.set_cons_zero, List.set_cons_succ] at hn9; have o3 := Hidd.mk hn9; clear htk hvl hvb hpq hn9 o2))
      have hh := (show takes xs n [1, 1, 4, 4, 4, 4, 4, 4, 1, 1, 1] S0 = ([h0, h1, h2, h3, h4, h5, h6, h7, h8, h9, h10], S11) from takes_glue (takes_glue a1.out a2.out) a3.out)
      have hr2 : Hidd ((if (qtsR xs n h9 0 (ptsR xs n h8 S11).2).1.isSome = true then (⟨(qtsR xs n h9 0 (ptsR xs n h8 S11).2).1, [], [], [], [], (qtsR xs n h9 0 (ptsR xs n h8 S11).2).2.2⟩ : Rd) else
          ⟨none, [h0, h1, h2, h3, h4, h5, h6, h7, h8, h9, h10], (ptsR xs n h8 S11).1, (qtsR xs n h9 0 (ptsR xs n h8 S11).2).2.1, (rtsR xs n h10 (qtsR xs n h9 0 (ptsR xs n h8 S11).2).2.2).1, (rtsR xs n h10 (qtsR xs n h9 0 (ptsR xs n h8 S11).2).2.2).2⟩) = r) := ⟨by
        rw [← hr.out]
        unfold rdT
        rw [htk.out, if_neg hng, hh]
        rfl⟩
      have b8 : h8 < 256 := hbo3.out h8 (by simp)
      have b9 : h9 < 256 := hbo3.out h9 (by simp)
      have b10 : h10 < 256 := hbo3.out h10 (by simp)
      clear hh a1 a2 a3 htk hr hng hCC hbo1 hbo2 hbo3
      generalize go3 = gn at o3 ⊢
      obtain ⟨W0, hW0⟩ : ∃ zz, zz = World.drew w9 := ⟨_, rfl⟩
      refine wp_region_flow [([0, 3, 6, 9, 12, 15, 18, 21, 1, 4, 7, 10, 13, 16, 19, 22, 2, 5, 8, 11, 14, 17, 20, 23, 24], some (25, [true])), ([], some (26, [false, false]))] (by kernel_rfl) (by kernel_rfl) ?_
      rw [show ({ w9 with drawn := w9.drawn + 1 } : World) = W0 from hW0.symm]
      replace hW0 := Hidd.mk hW0
      simp only [opsF, List.map_cons, List.map_nil, List.getD_cons_succ, List.getD_cons_zero, Option.map]
      have o4 := Hidd.mk (show Own w F W0 [row 3 1 (.slice (some ⟨gn, 0, none⟩) 3 3) 3 (natsC [h8, h9, h10]), row 3 1 (.slice (some ⟨go2, 0, none⟩) 6 6) 6 (natsC [h2, h3, h4, h5, h6, h7]), row 3 1 (.slice (some ⟨go1, 0, none⟩) 2 2) 2 (natsC [h0, h1]), blk p2 (.cells #[.int .i64 0, .int .i64 0, .int .i64 0, .int .i64 0, .int .i64 0, .int .i64 0, .int .i64 0, .int .i64 0, .slice none 0 0, .slice none 0 0, .slice none 0 0] 26 (0, 0)), rref b A n cap S11.p S11.er] by rw [hW0.out]; exact o3.out.drew)
      clear hW0 o3
      have zx0 := cells_at (row_cells o4.out 2 rfl) (show (natsC [h0, h1])[0]? = some (.int .i64 (h0 : Int)) from rfl); have zx1 := cells_at (row_cells o4.out 2 rfl) (show (natsC [h0, h1])[1]? = some (.int .i64 (h1 : Int)) from rfl)
      have zy0 := cells_at (row_cells o4.out 1 rfl) (show (natsC [h2, h3, h4, h5, h6, h7])[0]? = some (.int .i64 (h2 : Int)) from rfl); have zy1 := cells_at (row_cells o4.out 1 rfl) (show (natsC [h2, h3, h4, h5, h6, h7])[1]? = some (.int .i64 (h3 : Int)) from rfl); have zy2 := cells_at (row_cells o4.out 1 rfl) (show (natsC [h2, h3, h4, h5, h6, h7])[2]? = some (.int .i64 (h4 : Int)) from rfl); have zy3 := cells_at (row_cells o4.out 1 rfl) (show (natsC [h2, h3, h4, h5, h6, h7])[3]? = some (.int .i64 (h5 : Int)) from rfl); have zy4 := cells_at (row_cells o4.out 1 rfl) (show (natsC [h2, h3, h4, h5, h6, h7])[4]? = some (.int .i64 (h6 : Int)) from rfl); have zy5 := cells_at (row_cells o4.out 1 rfl) (show (natsC [h2, h3, h4, h5, h6, h7])[5]? = some (.int .i64 (h7 : Int)) from rfl)
      have hgx := World.block_lt_of_cell? W0 _ zx0
      have hgy := World.block_lt_of_cell? W0 _ zy0
      refine FlW.stage (fun zz => Kept (fun _ => False) W0 zz) (Kept.refl _ _) ?_
      repeat (first | (refine StQ.skip (by rfl) ?_; simp only [Act.put, List.setIfInBounds_toArray, List.set_cons_zero, List.set_cons_succ]) | (refine StQ.go' (by rfl) (Exists.intro ?_ (And.intro (fun w' hS => ?_) ?_)); rotate_left; (focus (have hc := Kept.cell0 hS; go_simp; try with_reducible rfl)); simp only [Act.put, List.setIfInBounds_toArray, List.set_cons_zero, List.set_cons_succ]))
      refine StQ.nil ?_
      refine FlO.go (by rfl) (fun K hK => ?_); go_simp; refine hK.out _ _ (.inr ⟨Kept.alloc _ _ _, trivial⟩) ?_; clear hK K
      refine FlW.stage (fun _ => True) trivial (StQ.nil ?_)
      refine FlO.go (by rfl) (fun K hK => ?_); go_simp; refine hK.out _ _ (.inr trivial) ?_; clear hK K
      refine FlW.nil (Calm.normal ?_)
      clear zx0 zx1 zy0 zy1 zy2 zy3 zy4 zy5 hgx hgy
      have o5 := Hidd.mk (row_nil ((o4.out.alloc (.cells #[.int .i64 (h0 : Int), .int .i64 (h1 : Int), .int .i64 (h2 : Int), .int .i64 (h3 : Int), .int .i64 (h4 : Int), .int .i64 (h5 : Int), .int .i64 (h6 : Int), .int .i64 (h7 : Int), .slice none 0 0, .slice none 0 0, .slice none 0 0] 26)).reorder (M := [_, _, _, _]) [0, 4, 1, 5] rfl (by decide)) 38 9)
      clear o4
      generalize W0.heap.size = p8 at o5 ⊢
      go_wp2
      go_loopw [9] (fun v9 wr => ∃ (i : Nat) (s : RS) (B : Option Addr) (c : Nat) (l : List Pt), v9 = .int .i64 i ∧ i ≤ h8 ∧ Hidd (s.p ≤ n) ∧ Hidd (l.length = i) ∧ Hidd (ptsR xs n h8 S11 = (l ++ (ptsR xs n (h8 - i) s).1, (ptsR xs n (h8 - i) s).2)) ∧ Hidd (Own w F wr [row 38 9 (.slice B i c) i (l.flatMap Pt.cells), blk p8 (.cells #[.int .i64 (h0 : Int), .int .i64 (h1 : Int), .int .i64 (h2 : Int), .int .i64 (h3 : Int), .int .i64 (h4 : Int), .int .i64 (h5 : Int), .int .i64 (h6 : Int), .int .i64 (h7 : Int), .slice B i c, .slice none 0 0, .slice none 0 0] 26 (0, 0)), blk p2 (.cells #[.int .i64 0, .int .i64 0, .int .i64 0, .int .i64 0, .int .i64 0, .int .i64 0, .int .i64 0, .int .i64 0, .slice none 0 0, .slice none 0 0, .slice none 0 0] 26 (0, 0)), row 3 1 (.slice (some ⟨gn, 0, none⟩) 3 3) 3 (natsC [h8, h9, h10]), rref b A n cap s.p s.er])) (fun v9 _ => h8 - (intOf v9).toNat)
      case atStart => exact ⟨0, S11, none, 0, [], rfl, Nat.zero_le _, a3p, ⟨rfl⟩, ⟨rfl⟩, o5⟩
      case round =>
        clear o5 a3p
        obtain ⟨i, s, B, c, l, rfl, hil, hpp, hll, hR, ho⟩ := hrel
        obtain ⟨p, er⟩ := s
        obtain ⟨wv, hwv⟩ : ∃ wv, wv = wr := ⟨_, rfl⟩
        have yn0 := cells_at (row_cells ho.out 3 rfl) (show (natsC [h8, h9, h10])[0]? = some (.int .i64 (h8 : Int)) from rfl); have yn1 := cells_at (row_cells ho.out 3 rfl) (show (natsC [h8, h9, h10])[1]? = some (.int .i64 (h9 : Int)) from rfl); have yn2 := cells_at (row_cells ho.out 3 rfl) (show (natsC [h8, h9, h10])[2]? = some (.int .i64 (h10 : Int)) from rfl)
        obtain ⟨c0, c1, c2⟩ := rref_at 4 ho.out rfl
        simp only at c2
        go_upto_region 9 with fail
        go_cut [74] (fun v74 wx => v74 = .bool (decide (i < h8) && er.isNone) ∧ wx = wr)
        case first =>
          clear hwv
          by_cases hlt : i < h8
          · have dl : decide ((i : Int) < (h8 : Int)) = true := decide_eq_true (by omega)
            rcases er with _ | ⟨q0, q1⟩
            · replace c2 : World.cell? _ ⟨b, 2, none⟩ = some (.string ⟨#[]⟩) := c2
              go_wp2_with fail
              go_meet
              case rel => exact ⟨by simp [hlt], rfl⟩
            · replace c2 : World.cell? _ ⟨b, 2, none⟩ = some (.string (atB q0 q1)) := c2
              have hne := ne_empty (atB_pos q0 q1)
              go_wp2_with fail
              go_meet
              case rel => exact ⟨by simp, rfl⟩
          · have dl : decide ((i : Int) < (h8 : Int)) = false := decide_eq_false (by omega)
            go_wp2_with fail
            go_meet
            case rel => exact ⟨by simp [hlt], rfl⟩
        case rest =>
          clear yn0 yn1 yn2 c0 c1 c2
          obtain ⟨rfl, hw0⟩ := hcut
          obtain rfl : wr = _ := hw0.symm
          clear hw0
          obtain ⟨CC, hCC⟩ : ∃ CC, (decide (i < h8) && er.isNone) = CC := ⟨_, rfl⟩
          rw [hCC]
          rcases CC with _ | _
          rotate_left
          · rw [Bool.and_eq_true, decide_eq_true_eq, Option.isNone_iff_eq_none] at hCC
            obtain ⟨hlt, rfl⟩ := hCC
            clear hwv
            obtain ⟨d, hd⟩ : ∃ d, h8 - i = d + 1 := ⟨h8 - i - 1, by omega⟩
            have o0 := ho
            have a0p := hpp
            clear ho hpp
            go_upto_region 14 with (first
                | (go_at_call 88; have hq := o0.out; clear hq; refine (rtk_any hC.out hl.out hn.out hx.out 1 (by decide) 4 ⟨p, none⟩ o0.out rfl a0p.out).mono ?_; rintro e w1 ⟨q0, T1, rfl, htk, hn1⟩; have hv := tk_lt hx.out htk; have hw := IntWalk.i64_in (q0 : Int) (by omega); have a1p := Hidd.mk (tk_pos htk a0p.out); have a1 := Hidd.mk (takes_one htk); have hm := hn1.alloc (.cells #[.int .i64 (q0 : Int), .int .i64 0, .int .i64 0, .int .i64 0, .int .i64 0, .int .u8 0, .int .u8 0, .int .u8 0, .int .u8 0] 38); simp only [List.set_cons_zero, List.set_cons_succ] at hm; have o1 := Hidd.mk hm; clear hn1 htk o0 hm hv)
                | (go_at_call 89; have hq := o1.out; clear hq; refine (some_any hC.out hl.out hn.out hx.out 4 (by decide) 2 (by decide) 5 T1 o1.out rfl a1p.out).mono ?_; rintro e w9 ⟨go2, vs, T2, rfl, htk, hvl, hvb, hpq, hn9⟩; obtain ⟨x0, x1, rfl⟩ := len2 hvl; have a2 := Hidd.mk htk; have a2p := Hidd.mk hpq; have hbo2 := Hidd.mk hvb; simp only [List.set_cons_zero, List.set_cons_succ] at hn9; have o2 := Hidd.mk hn9; clear htk hvl hvb hpq hn9 o1)
                | (go_at_call 89; have hq := o2.out; clear hq; refine (some_any hC.out hl.out hn.out hx.out 1 (by decide) 6 (by decide) 6 T2 o2.out rfl a2p.out).mono ?_; rintro e w9 ⟨go3, vs, T3, rfl, htk, hvl, hvb, hpq, hn9⟩; obtain ⟨y0, y1, y2, y3, y4, y5, rfl⟩ := len6 hvl; have a3 := Hidd.mk htk; have a3p := Hidd.mk hpq; have hbo3 := Hidd.mk hvb; simp only [List.set_cons_zero, List.set_cons_succ] at hn9; have o3 := Hidd.mk hn9; clear htk hvl hvb hpq hn9 o2))
            have aa := Hidd.mk (show takes xs n [1, 4, 4, 1, 1, 1, 1, 1, 1] ⟨p, none⟩ = ([q0, x0, x1, y0, y1, y2, y3, y4, y5], T3) from takes_glue (takes_glue a1.out a2.out) a3.out)
            clear a1 a2 a3 hbo2
            generalize w1.heap.size = p10 at o3 ⊢
            obtain ⟨W0, hW0⟩ : ∃ zz, zz = World.drew w9 := ⟨_, rfl⟩
            refine wp_region_flow [([0, 3, 6, 9, 1, 4, 7, 10, 2, 5, 8, 11, 12], some (13, [true])), ([14], some (15, [false, true])), ([16], some (17, [false, false, true])), ([18], some (19, [false, false, false, false]))] (by kernel_rfl) (by kernel_rfl) ?_
            rw [show ({ w9 with drawn := w9.drawn + 1 } : World) = W0 from hW0.symm]
            replace hW0 := Hidd.mk hW0
            simp only [opsF, List.map_cons, List.map_nil, List.getD_cons_succ, List.getD_cons_zero, Option.map]
            have o4 := Hidd.mk (show Own w F W0 [row 3 1 (.slice (some ⟨go3, 0, none⟩) 6 6) 6 (natsC [y0, y1, y2, y3, y4, y5]), row 3 1 (.slice (some ⟨go2, 0, none⟩) 2 2) 2 (natsC [x0, x1]), blk p10 (.cells #[.int .i64 (q0 : Int), .int .i64 0, .int .i64 0, .int .i64 0, .int .i64 0, .int .u8 ((0 : Nat) : Int), .int .u8 ((0 : Nat) : Int), .int .u8 ((0 : Nat) : Int), .int .u8 ((0 : Nat) : Int)] 38 (0, 0)), row 38 9 (.slice B i c) i (l.flatMap Pt.cells), blk p8 (.cells #[.int .i64 (h0 : Int), .int .i64 (h1 : Int), .int .i64 (h2 : Int), .int .i64 (h3 : Int), .int .i64 (h4 : Int), .int .i64 (h5 : Int), .int .i64 (h6 : Int), .int .i64 (h7 : Int), .slice B i c, .slice none 0 0, .slice none 0 0] 26 (0, 0)), blk p2 (.cells #[.int .i64 0, .int .i64 0, .int .i64 0, .int .i64 0, .int .i64 0, .int .i64 0, .int .i64 0, .int .i64 0, .slice none 0 0, .slice none 0 0, .slice none 0 0] 26 (0, 0)), row 3 1 (.slice (some ⟨gn, 0, none⟩) 3 3) 3 (natsC [h8, h9, h10]), rref b A n cap T3.p T3.er] by rw [hW0.out]; exact o3.out.drew)
            clear hW0 o3
            have zx0 := cells_at (row_cells o4.out 1 rfl) (show (natsC [x0, x1])[0]? = some (.int .i64 (x0 : Int)) from rfl); have zx1 := cells_at (row_cells o4.out 1 rfl) (show (natsC [x0, x1])[1]? = some (.int .i64 (x1 : Int)) from rfl)
            have zy0 := cells_at (row_cells o4.out 0 rfl) (show (natsC [y0, y1, y2, y3, y4, y5])[0]? = some (.int .i64 (y0 : Int)) from rfl); have zy1 := cells_at (row_cells o4.out 0 rfl) (show (natsC [y0, y1, y2, y3, y4, y5])[1]? = some (.int .i64 (y1 : Int)) from rfl); have zy2 := cells_at (row_cells o4.out 0 rfl) (show (natsC [y0, y1, y2, y3, y4, y5])[2]? = some (.int .i64 (y2 : Int)) from rfl); have zy3 := cells_at (row_cells o4.out 0 rfl) (show (natsC [y0, y1, y2, y3, y4, y5])[3]? = some (.int .i64 (y3 : Int)) from rfl); have zy4 := cells_at (row_cells o4.out 0 rfl) (show (natsC [y0, y1, y2, y3, y4, y5])[4]? = some (.int .i64 (y4 : Int)) from rfl); have zy5 := cells_at (row_cells o4.out 0 rfl) (show (natsC [y0, y1, y2, y3, y4, y5])[5]? = some (.int .i64 (y5 : Int)) from rfl)
            have hgx := World.block_lt_of_cell? W0 _ zx0
            have hgy := World.block_lt_of_cell? W0 _ zy0
            have hgp := o4.out.lt 2 rfl
            have e1 := o4.out.cell 2 rfl 1
            have e2 := o4.out.cell 2 rfl 2
            have e3 := o4.out.cell 2 rfl 3
            have e4 := o4.out.cell 2 rfl 4
            simp at e1 e2 e3 e4
            have g1 := o4.out.frozen 2 rfl 1
            have g2 := o4.out.frozen 2 rfl 2
            have g3 := o4.out.frozen 2 rfl 3
            have g4 := o4.out.frozen 2 rfl 4
            obtain ⟨T, hT⟩ : ∃ T : Nat → Prop, T = fun q => q = p10 := ⟨_, rfl⟩
            have hTx : ¬ T go2 := by rw [hT]; exact fun e => o4.out.apart 1 2 rfl rfl (by omega) go2 rfl e
            have hTy : ¬ T go3 := by rw [hT]; exact fun e => o4.out.apart 0 2 rfl rfl (by omega) go3 rfl e
            have hTp : T p10 := by rw [hT]
            clear hT
            refine FlW.stage (fun zz => Kept T W0 zz) (Kept.refl _ _) ?_
            repeat (first | (refine StQ.skip (by rfl) ?_; simp only [Act.put, List.setIfInBounds_toArray, List.set_cons_zero, List.set_cons_succ]) | (refine StQ.go' (by rfl) (Exists.intro ?_ (And.intro (fun w' hS => ?_) ?_)); rotate_left; (focus (have hc := Kept.cellAt hS; go_simp; try with_reducible rfl)); simp only [Act.put, List.setIfInBounds_toArray, List.set_cons_zero, List.set_cons_succ]))
            refine StQ.nil ?_
            refine FlO.go (by rfl) (fun K hK => ?_); go_simp; refine hK.out _ _ (.inr ⟨Kept.setCell _ _ _ hTp, trivial⟩) ?_; clear hK K
            refine FlW.stage (fun zz => zz = _) rfl ?_
            repeat (first | (refine StQ.skip (by rfl) ?_; simp only [Act.put, List.setIfInBounds_toArray, List.set_cons_zero, List.set_cons_succ]) | (refine StQ.go' (by rfl) (Exists.intro ?_ (And.intro (fun w' hS => ?_) ?_)); rotate_left; (focus (rw [hS]; go_simp; try with_reducible rfl)); simp only [Act.put, List.setIfInBounds_toArray, List.set_cons_zero, List.set_cons_succ]))
            refine StQ.nil ?_
            refine FlO.go (by rfl) (fun K hK => ?_); go_simp; refine hK.out _ _ (.inr ⟨(Kept.setCell _ _ _ hTp).trans (Kept.setCell _ _ _ hTp), trivial⟩) ?_; clear hK K
            refine FlW.stage (fun zz => zz = _) rfl ?_
            repeat (first | (refine StQ.skip (by rfl) ?_; simp only [Act.put, List.setIfInBounds_toArray, List.set_cons_zero, List.set_cons_succ]) | (refine StQ.go' (by rfl) (Exists.intro ?_ (And.intro (fun w' hS => ?_) ?_)); rotate_left; (focus (rw [hS]; go_simp; try with_reducible rfl)); simp only [Act.put, List.setIfInBounds_toArray, List.set_cons_zero, List.set_cons_succ]))
            refine StQ.nil ?_
            refine FlO.go (by rfl) (fun K hK => ?_); go_simp; refine hK.out _ _ (.inr ⟨((Kept.setCell _ _ _ hTp).trans (Kept.setCell _ _ _ hTp)).trans (Kept.setCell _ _ _ hTp), trivial⟩) ?_; clear hK K
            refine FlW.stage (fun zz => zz = _) rfl ?_
            repeat (first | (refine StQ.skip (by rfl) ?_; simp only [Act.put, List.setIfInBounds_toArray, List.set_cons_zero, List.set_cons_succ]) | (refine StQ.go' (by rfl) (Exists.intro ?_ (And.intro (fun w' hS => ?_) ?_)); rotate_left; (focus (rw [hS]; go_simp; try with_reducible rfl)); simp only [Act.put, List.setIfInBounds_toArray, List.set_cons_zero, List.set_cons_succ]))
            refine StQ.nil ?_
            refine FlO.go (by rfl) (fun K hK => ?_); go_simp; refine hK.out _ _ (.inr trivial) ?_; clear hK K
            refine FlW.nil (Calm.normal ?_)
            have hs := (((o4.out.set 2 rfl 1 (.int .i64 (x0 : Int))).set 2 rfl 2 (.int .i64 (x1 : Int))).set 2 rfl 3 (.int .i64 (y0 : Int))).set 2 rfl 4 (.int .i64 (y1 : Int))
            simp only [List.set_cons_zero, List.set_cons_succ, List.setIfInBounds_toArray] at hs
            have o5 := Hidd.mk (show Own w F _ [row 3 1 (.slice (some ⟨go3, 0, none⟩) 6 6) 6 (natsC [y0, y1, y2, y3, y4, y5]), blk p10 (.cells (ptOf ([q0, x0, x1, y0, y1] ++ ([y0, y1, y2, y3, y4, y5].drop 2).take 0)).cells.toArray 38 (0, 0)), row 38 9 (.slice B i c) i (l.flatMap Pt.cells), blk p8 (.cells #[.int .i64 (h0 : Int), .int .i64 (h1 : Int), .int .i64 (h2 : Int), .int .i64 (h3 : Int), .int .i64 (h4 : Int), .int .i64 (h5 : Int), .int .i64 (h6 : Int), .int .i64 (h7 : Int), .slice B i c, .slice none 0 0, .slice none 0 0] 26 (0, 0)), blk p2 (.cells #[.int .i64 0, .int .i64 0, .int .i64 0, .int .i64 0, .int .i64 0, .int .i64 0, .int .i64 0, .int .i64 0, .slice none 0 0, .slice none 0 0, .slice none 0 0] 26 (0, 0)), row 3 1 (.slice (some ⟨gn, 0, none⟩) 3 3) 3 (natsC [h8, h9, h10]), rref b A n cap T3.p T3.er] from hs.reorder [0, 2, 3, 4, 5, 6, 7] rfl (by decide))
            clear hs o4 zx0 zx1 zy0 zy1 zy2 zy3 zy4 zy5 hgx hgy hgp e1 e2 e3 e4 g1 g2 g3 g4 hTx hTy hTp
            go_wp2
            obtain ⟨ysl, hysl⟩ : ∃ l : List Nat, l = [y0, y1, y2, y3, y4, y5] := ⟨_, rfl⟩
            rw [← hysl] at o5
            go_loopw [13] (fun v13 wz => ∃ k : Nat, v13 = .int .i64 k ∧ k ≤ 4 ∧ Hidd (Own w F wz [row 3 1 (.slice (some ⟨go3, 0, none⟩) 6 6) 6 (natsC ysl), blk p10 (.cells (ptOf ([q0, x0, x1, y0, y1] ++ (ysl.drop 2).take k)).cells.toArray 38 (0, 0)), row 38 9 (.slice B i c) i (l.flatMap Pt.cells), blk p8 (.cells #[.int .i64 (h0 : Int), .int .i64 (h1 : Int), .int .i64 (h2 : Int), .int .i64 (h3 : Int), .int .i64 (h4 : Int), .int .i64 (h5 : Int), .int .i64 (h6 : Int), .int .i64 (h7 : Int), .slice B i c, .slice none 0 0, .slice none 0 0] 26 (0, 0)), blk p2 (.cells #[.int .i64 0, .int .i64 0, .int .i64 0, .int .i64 0, .int .i64 0, .int .i64 0, .int .i64 0, .int .i64 0, .slice none 0 0, .slice none 0 0, .slice none 0 0] 26 (0, 0)), row 3 1 (.slice (some ⟨gn, 0, none⟩) 3 3) 3 (natsC [h8, h9, h10]), rref b A n cap T3.p T3.er])) (fun v13 _ => 4 - (intOf v13).toNat)
            case atStart => exact ⟨0, rfl, by omega, o5⟩
            case round =>
              clear o5
              obtain ⟨k, rfl, hk4, o5⟩ := hrel
              by_cases hk : k < 4
              · obtain ⟨q, hqk⟩ : ∃ q, 2 + k = q := ⟨_, rfl⟩
                obtain ⟨v, hv⟩ : ∃ v, ysl[q]? = some v := ⟨_, List.getElem?_eq_getElem (by rw [hysl]; simp; omega)⟩
                have hvb : v < 256 := hbo3.out v (by rw [← hysl]; exact List.mem_of_getElem? hv)
                have y := cells_at (row_cells o5.out 0 rfl) (natsC_get hv)
                have hwq : IntKind.i64.wrap ((2 : Int) + (k : Int)) = (q : Int) := by rw [IntWalk.i64_in _ (by omega)]; omega
                have bk0 : (0 : Int) ≤ (k : Int) := by omega
                have bk1 : (k : Int) < 4 := by omega
                have bq0 : (0 : Int) ≤ (q : Int) := by omega
                have bq1 : (q : Int) < 6 := by omega
                have wv8 := (wrap8 v hvb).1
                have ef := o5.out.frozen 1 rfl (5 + k)
                obtain ⟨uu, hu⟩ : ∃ u, World.cell? _ ⟨p10, 5 + k, none⟩ = some u := ⟨_, (o5.out.cell 1 rfl (5 + k)).trans (Array.getElem?_eq_getElem (by rw [List.size_toArray, rec_len]; omega))⟩
                have hs := o5.out.set 1 rfl (5 + k) (.int .u8 (v : Int))
                simp only [List.set_cons_zero, List.set_cons_succ, List.setIfInBounds_toArray] at hs
                rw [rec_set _ k v (by rw [List.length_append, List.length_take, List.length_drop, hysl]; simp; omega) hk, List.append_assoc, show (ysl.drop 2).take k ++ [v] = (ysl.drop 2).take (k + 1) by rw [List.take_add_one, List.getElem?_drop, hqk, hv]; rfl] at hs
                have hend := Hidd.mk hs
                clear hs o5
                replace hvb := Hidd.mk hvb
                go_wp2
                go_roundw
                case rel => exact ⟨k + 1, by go_num, by omega, hend⟩
                case measure => (simp [intOf]; try omega)
              · obtain rfl : k = 4 := by omega
                have hst := ptsR_step (l := l) (R := ptsR xs n h8 S11) rfl aa.out (by rw [← hd]; exact hR.out)
                rw [show d = h8 - (i + 1) by omega] at hst
                replace hst := Hidd.mk hst
                rw [hysl] at o5
                have o6 := Hidd.mk (show Own w F _ (blk p10 (.cells (ptOf [q0, x0, x1, y0, y1, y2, y3, y4, y5]).cells.toArray 38 (0, 0)) :: _) from o5.out.tail)
                obtain ⟨P, hPP⟩ : ∃ P, ptOf [q0, x0, x1, y0, y1, y2, y3, y4, y5] = P := ⟨_, rfl⟩
                rw [hPP] at o6 hst
                clear hPP aa hR o5
                obtain ⟨g0, g1, g2, g3, g4, g5, g6, g7, g8⟩ := P
                have o1 := Hidd.mk (show Own w F _ (blk p10 (.cells #[.int .i64 g0, .int .i64 g1, .int .i64 g2, .int .i64 g3, .int .i64 g4, .int .u8 (g5 : Int), .int .u8 (g6 : Int), .int .u8 (g7 : Int), .int .u8 (g8 : Int)] 38 (0, 0)) :: _) from o6.out)
                clear o6
                have e0 := o1.out.cell 0 rfl 0
                have e1 := o1.out.cell 0 rfl 1
                have e2 := o1.out.cell 0 rfl 2
                have e3 := o1.out.cell 0 rfl 3
                have e4 := o1.out.cell 0 rfl 4
                have e5 := o1.out.cell 0 rfl 5
                have e6 := o1.out.cell 0 rfl 6
                have e7 := o1.out.cell 0 rfl 7
                have e8 := o1.out.cell 0 rfl 8
                simp at e0 e1 e2 e3 e4 e5 e6 e7 e8
                have y8 := o1.out.cell 2 rfl 8
                simp at y8
                go_wp2_with (at_builtin; refine wpList_row rfl _ _ 22 rfl 38 iP (.agg #[.int .i64 0, .int .i64 0, .int .i64 0, .int .i64 0, .int .i64 0, .int .u8 0, .int .u8 0, .int .u8 0, .int .u8 0]) 9 48 (by rfl) hIP.out.1 hIP.out.2.1 hIP.out.2.2.1 hIP.out.2.2.2 (by rfl) (by decide) (o1.out.alloc _) 2 B i c _ rfl rfl _ 1 1 (Pt.cells ⟨g0, g1, g2, g3, g4, g5, g6, g7, g8⟩) rfl rfl (Cells.new _ _ _ _ rfl) (by intro _ h; cases h) (pt_one _) (by unfold maxLen; omega) (by omega) ?_; intro A6 c6 w6 ho6; simp only [List.set_cons_zero, List.set_cons_succ] at ho6; clear e0 e1 e2 e3 e4 e5 e6 e7 e8 y8; have y8 := ho6.cell 3 rfl 8; have f8 := ho6.frozen 3 rfl 8; simp at y8; replace ho6 := Hidd.mk ho6)
                have hs9 := (ho6.out.set 3 rfl 8 (.slice A6 (i + 1) c6)).tail.tail
                simp only [List.set_cons_zero, List.set_cons_succ, List.setIfInBounds_toArray] at hs9
                rw [show l.flatMap Pt.cells ++ Pt.cells ⟨g0, g1, g2, g3, g4, g5, g6, g7, g8⟩ = (l ++ [(⟨g0, g1, g2, g3, g4, g5, g6, g7, g8⟩ : Pt)]).flatMap Pt.cells by simp [List.flatMap_append]] at hs9
                have hend := Hidd.mk hs9
                clear hs9 ho6 y8 f8 o1
                go_roundw
                case rel => exact ⟨i + 1, T3, A6, c6, l ++ [⟨g0, g1, g2, g3, g4, g5, g6, g7, g8⟩], by go_num, by omega, a3p, ⟨by rw [List.length_append, hll.out]; rfl⟩, hst, hend⟩
                case measure => (simp [intOf]; try omega)
          · clear hwv
            have hRT : ptsR xs n h8 S11 = (l, ⟨p, er⟩) := by
              rw [hR.out]
              by_cases hlt : i < h8
              · have her : er.isSome = true := by
                  rw [decide_eq_true hlt, Bool.true_and] at hCC
                  cases er
                  · cases hCC
                  · rfl
                rw [ptsR_err _ _ _ ⟨p, er⟩ her]
                simp
              · rw [show h8 - i = 0 by omega, show ptsR xs n 0 ⟨p, er⟩ = ([], ⟨p, er⟩) from rfl]
                simp
            rw [hRT] at hr2
            simp only at hr2
            clear hR hRT hCC hil
            obtain ⟨n1, rfl⟩ : ∃ n1, n1 = i := ⟨_, rfl⟩
            obtain ⟨B1, rfl⟩ : ∃ B1, B1 = B := ⟨_, rfl⟩
            obtain ⟨c1, rfl⟩ : ∃ c1, c1 = c := ⟨_, rfl⟩
            obtain ⟨l1, rfl⟩ : ∃ l1, l1 = l := ⟨_, rfl⟩
            have hll1 := hll
            clear hll
            obtain ⟨S2, hS2⟩ : ∃ S2 : RS, S2 = ⟨p, er⟩ := ⟨_, rfl⟩
            rw [← hS2] at hr2
            have o12 := Hidd.mk (row_nil ho.out 44 6)
            replace o12 := Hidd.mk (show Own w F _ (_ :: _ :: _ :: _ :: _ :: rref b A n cap S2.p S2.er :: []) by rw [hS2]; exact o12.out)
            replace hpp := Hidd.mk (show S2.p ≤ n by rw [hS2]; exact hpp.out)
            clear ho hS2
            go_wp2
            go_loopw [14] (fun v14 wr => ∃ (i : Nat) (s : RS) (B : Option Addr) (c : Nat) (l : List Qt), v14 = .int .i64 i ∧ i ≤ h9 ∧ Hidd (s.p ≤ n) ∧ Hidd (l.length = i) ∧ Hidd (qtsR xs n h9 0 S2 = ((qtsR xs n (h9 - i) i s).1, l ++ (qtsR xs n (h9 - i) i s).2.1, (qtsR xs n (h9 - i) i s).2.2)) ∧ Hidd (Own w F wr [row 44 6 (.slice B i c) i (l.flatMap Qt.cells), row 38 9 (.slice B1 n1 c1) n1 (l1.flatMap Pt.cells), blk p8 (.cells #[.int .i64 (h0 : Int), .int .i64 (h1 : Int), .int .i64 (h2 : Int), .int .i64 (h3 : Int), .int .i64 (h4 : Int), .int .i64 (h5 : Int), .int .i64 (h6 : Int), .int .i64 (h7 : Int), .slice B1 n1 c1, .slice B i c, .slice none 0 0] 26 (0, 0)), blk p2 (.cells #[.int .i64 0, .int .i64 0, .int .i64 0, .int .i64 0, .int .i64 0, .int .i64 0, .int .i64 0, .int .i64 0, .slice none 0 0, .slice none 0 0, .slice none 0 0] 26 (0, 0)), row 3 1 (.slice (some ⟨gn, 0, none⟩) 3 3) 3 (natsC [h8, h9, h10]), rref b A n cap s.p s.er])) (fun v14 _ => h9 - (intOf v14).toNat)
            case atStart => exact ⟨0, S2, none, 0, [], rfl, Nat.zero_le _, hpp, ⟨rfl⟩, ⟨rfl⟩, o12⟩
            case round =>
              clear o12 hpp
              obtain ⟨i, s, B, c, l, rfl, hil, hpp, hll, hR, ho⟩ := hrel
              obtain ⟨p, er⟩ := s
              obtain ⟨wv, hwv⟩ : ∃ wv, wv = wr := ⟨_, rfl⟩
              have yn0 := cells_at (row_cells ho.out 4 rfl) (show (natsC [h8, h9, h10])[0]? = some (.int .i64 (h8 : Int)) from rfl); have yn1 := cells_at (row_cells ho.out 4 rfl) (show (natsC [h8, h9, h10])[1]? = some (.int .i64 (h9 : Int)) from rfl); have yn2 := cells_at (row_cells ho.out 4 rfl) (show (natsC [h8, h9, h10])[2]? = some (.int .i64 (h10 : Int)) from rfl)
              obtain ⟨c0, c1, c2⟩ := rref_at 5 ho.out rfl
              simp only at c2
              go_upto_region 21 with fail
              go_cut [131] (fun v131 wx => v131 = .bool (decide (i < h9) && er.isNone) ∧ wx = wr)
              case first =>
                clear hwv
                by_cases hlt : i < h9
                · have dl : decide ((i : Int) < (h9 : Int)) = true := decide_eq_true (by omega)
                  rcases er with _ | ⟨q0, q1⟩
                  · replace c2 : World.cell? _ ⟨b, 2, none⟩ = some (.string ⟨#[]⟩) := c2
                    go_wp2_with fail
                    go_meet
                    case rel => exact ⟨by simp [hlt], rfl⟩
                  · replace c2 : World.cell? _ ⟨b, 2, none⟩ = some (.string (atB q0 q1)) := c2
                    have hne := ne_empty (atB_pos q0 q1)
                    go_wp2_with fail
                    go_meet
                    case rel => exact ⟨by simp, rfl⟩
                · have dl : decide ((i : Int) < (h9 : Int)) = false := decide_eq_false (by omega)
                  go_wp2_with fail
                  go_meet
                  case rel => exact ⟨by simp [hlt], rfl⟩
              case rest =>
                clear yn0 yn1 yn2 c0 c1 c2
                obtain ⟨rfl, hw0⟩ := hcut
                obtain rfl : wr = _ := hw0.symm
                clear hw0
                obtain ⟨CC, hCC⟩ : ∃ CC, (decide (i < h9) && er.isNone) = CC := ⟨_, rfl⟩
                rw [hCC]
                rcases CC with _ | _
                rotate_left
                · rw [Bool.and_eq_true, decide_eq_true_eq, Option.isNone_iff_eq_none] at hCC
                  obtain ⟨hlt, rfl⟩ := hCC
                  clear hwv
                  obtain ⟨d, hd⟩ : ∃ d, h9 - i = d + 1 := ⟨h9 - i - 1, by omega⟩
                  have o0 := ho
                  have a0p := hpp
                  clear ho hpp
                  go_upto_region 24 with (first
                      | (go_at_call 89; have hq := o0.out; clear hq; refine (some_any hC.out hl.out hn.out hx.out 1 (by decide) 3 (by decide) 5 ⟨p, none⟩ o0.out rfl a0p.out).mono ?_; rintro e w9 ⟨go1, vs, T1, rfl, htk, hvl, hvb, hpq, hn9⟩; obtain ⟨q0, q1, q2, rfl⟩ := len3 hvl; have a1 := Hidd.mk htk; have a1p := Hidd.mk hpq; have hbo1 := Hidd.mk hvb; simp only [List.set_cons_zero, List.set_cons_succ] at hn9; have o1 := Hidd.mk hn9; clear htk hvl hvb hpq hn9 o0))
                  obtain ⟨W3, hW3⟩ : ∃ W3, W3 = w9 := ⟨_, rfl⟩
                  rw [← hW3] at o1 ⊢
                  clear hW3
                  have zx0 := cells_at (row_cells o1.out 0 rfl) (show (natsC [q0, q1, q2])[0]? = some (.int .i64 (q0 : Int)) from rfl); have zx1 := cells_at (row_cells o1.out 0 rfl) (show (natsC [q0, q1, q2])[1]? = some (.int .i64 (q1 : Int)) from rfl); have zx2 := cells_at (row_cells o1.out 0 rfl) (show (natsC [q0, q1, q2])[2]? = some (.int .i64 (q2 : Int)) from rfl)
                  obtain ⟨c0, c1, c2⟩ := rref_at 6 o1.out rfl
                  go_cut [146] (fun v146 wx => v146 = .bool (T1.er.isNone && decide (1 < q2)) ∧ wx = W3)
                  case first =>
                    obtain ⟨tp, te⟩ := T1
                    rcases te with _ | ⟨t0, t1⟩
                    · replace c2 : World.cell? _ ⟨b, 2, none⟩ = some (.string ⟨#[]⟩) := c2
                      by_cases hq : 1 < q2
                      · have dq : decide ((1 : Int) < (q2 : Int)) = true := decide_eq_true (by omega)
                        go_wp2_with fail
                        go_meet
                        case rel => exact ⟨by simp [hq], rfl⟩
                      · have dq : decide ((1 : Int) < (q2 : Int)) = false := decide_eq_false (by omega)
                        go_wp2_with fail
                        go_meet
                        case rel => exact ⟨by simp [hq], rfl⟩
                    · replace c2 : World.cell? _ ⟨b, 2, none⟩ = some (.string (atB t0 t1)) := c2
                      have hne := ne_empty (atB_pos t0 t1)
                      go_wp2_with fail
                      go_meet
                      case rel => exact ⟨by simp, rfl⟩
                  case rest =>
                    clear zx0 zx1 zx2 c0 c1 c2
                    obtain ⟨rfl, hw0⟩ := hcut
                    obtain rfl : W3 = _ := hw0.symm
                    clear hw0
                    obtain ⟨CC, hCC⟩ : ∃ CC, (T1.er.isNone && decide (1 < q2)) = CC := ⟨_, rfl⟩
                    rw [hCC]
                    rcases CC with _ | _
                    rotate_left
                    · obtain ⟨tp, te⟩ := T1
                      rw [Bool.and_eq_true, decide_eq_true_eq, Option.isNone_iff_eq_none] at hCC
                      obtain ⟨rfl, hq⟩ : te = none ∧ 1 < q2 := hCC
                      replace hCC : 1 < q2 ∧ True := ⟨hq, trivial⟩
                      rw [hd] at hR
                      have hreq : Hidd (⟨some (8, (i : Int)), [], [], [], [], ⟨tp, none⟩⟩ = r) := ⟨by
                        rw [← hr2.out, hR.out, qtsR_bad rfl a1.out (by unfold badOut; simp [hCC.1])]
                        rfl⟩
                      go_wp2_with (go_at_call 51; refine (at_any 8 (i : Int) _ (by omega) (by omega) (by omega) (by omega)).mono ?_; rintro e w8 ⟨rfl, hb8⟩; have hz8 := Hidd.mk (o1.out.ext hb8); clear hb8; obtain ⟨x0, x1, x2, x3, x4, x5, x6, x7, x8, x9, xA⟩ := cells11 hz8.out 4 rfl; have fz0 := hz8.out.frozen 4 rfl 0; have fz1 := hz8.out.frozen 4 rfl 1; have fz2 := hz8.out.frozen 4 rfl 2; have fz3 := hz8.out.frozen 4 rfl 3; have fz4 := hz8.out.frozen 4 rfl 4; have fz5 := hz8.out.frozen 4 rfl 5; have fz6 := hz8.out.frozen 4 rfl 6; have fz7 := hz8.out.frozen 4 rfl 7; have fz8 := hz8.out.frozen 4 rfl 8; have fz9 := hz8.out.frozen 4 rfl 9; have fz10 := hz8.out.frozen 4 rfl 10)
                      have hz9 := (((((((((((hz8.out.set 4 rfl 0 (.int .i64 0)).set 4 rfl 1 (.int .i64 0)).set 4 rfl 2 (.int .i64 0)).set 4 rfl 3 (.int .i64 0)).set 4 rfl 4 (.int .i64 0)).set 4 rfl 5 (.int .i64 0)).set 4 rfl 6 (.int .i64 0)).set 4 rfl 7 (.int .i64 0)).set 4 rfl 8 (.slice none 0 0)).set 4 rfl 9 (.slice none 0 0)).set 4 rfl 10 (.slice none 0 0))
                      simp only [List.set_cons_zero, List.set_cons_succ, List.setIfInBounds_toArray] at hz9
                      clear hz8 o1 x0 x1 x2 x3 x4 x5 x6 x7 x8 x9 xA fz0 fz1 fz2 fz3 fz4 fz5 fz6 fz7 fz8 fz9 fz10
                      generalize World.setCell _ _ _ = WZ at hz9 ⊢
                      replace hz9 := Hidd.mk hz9
                      obtain ⟨x0, x1, x2, x3, x4, x5, x6, x7, x8, x9, xA⟩ := cells11 hz9.out 4 rfl
                      refine bodyPost_ret (v := .tuple #[.agg #[.int .i64 0, .int .i64 0, .int .i64 0, .int .i64 0, .int .i64 0, .int .i64 0, .int .i64 0, .int .i64 0, .slice none 0 0, .slice none 0 0, .slice none 0 0], .string (atB 8 (i : Int))]) (by simp [results, Try.results75, go_sem, x0, x1, x2, x3, x4, x5, x6, x7, x8, x9, xA]) rfl ?_
                      rw [← hreq.out]
                      exact ⟨fun q hq => by
                        injection hq with hq
                        subst hq
                        exact ⟨rfl, hz9.out.reorder (M := [_]) [6] rfl (by decide)⟩, fun h => by cases h⟩
                    · have hbad : badOut ([q0, q1, q2], T1) = false := by
                        unfold badOut
                        exact hCC
                      have wv := (wrap8 q1 (hbo1.out q1 (by simp))).1
                      have d2 : ((q2 : Int) == 1) = decide (q2 = 1) := by
                        rw [Bool.eq_iff_iff, beq_iff_eq, decide_eq_true_eq]
                        omega
                      go_upto_region 27 with (first
                          | (go_at_call 89; have hq := o1.out; clear hq; refine (some_any hC.out hl.out hn.out hx.out 1 (by decide) 3 (by decide) 6 T1 o1.out rfl a1p.out).mono ?_; rintro e w9 ⟨go2, vs, T2, rfl, htk, hvl, hvb, hpq, hn9⟩; obtain ⟨q3, q4, q5, rfl⟩ := len3 hvl; have a2 := Hidd.mk htk; have a2p := Hidd.mk hpq; have hbo2 := Hidd.mk hvb; simp only [List.set_cons_zero, List.set_cons_succ] at hn9; have o2 := Hidd.mk hn9; clear htk hvl hvb hpq hn9 o1))
                      have hst := qtsR_step (l := l) (R := qtsR xs n h9 0 S2) rfl a1.out hbad (show takes xs n [1, 1, 1, 1, 1, 1] ⟨p, none⟩ = ([q0, q1, q2, q3, q4, q5], T2) from takes_glue a1.out a2.out) (by rw [← hd]; exact hR.out)
                      rw [show d = h9 - (i + 1) by omega, show qtOf [q0, q1, q2, q3, q4, q5] = ⟨(q0 : Int), q1, decide (q2 = 1), (q3 : Int), (q4 : Int), (q5 : Int)⟩ from rfl] at hst
                      replace hst := Hidd.mk hst
                      clear a1 a2 hbad hR hbo1 hbo2
                      obtain ⟨W0, hW0⟩ : ∃ zz, zz = World.drew w9 := ⟨_, rfl⟩
                      refine wp_region_flow [([0, 2, 5, 9, 13, 16, 19, 1, 3, 6, 10, 14, 17, 20, 4, 7, 11, 15, 18, 21, 8, 12, 22], some (23, [true])), ([], some (24, [false, false])), ([25], some (26, [false, false, false]))] (by kernel_rfl) (by kernel_rfl) ?_
                      rw [show ({ w9 with drawn := w9.drawn + 1 } : World) = W0 from hW0.symm]
                      replace hW0 := Hidd.mk hW0
                      simp only [opsF, List.map_cons, List.map_nil, List.getD_cons_succ, List.getD_cons_zero, Option.map]
                      have o4 := Hidd.mk (show Own w F W0 [row 3 1 (.slice (some ⟨go2, 0, none⟩) 3 3) 3 (natsC [q3, q4, q5]), row 3 1 (.slice (some ⟨go1, 0, none⟩) 3 3) 3 (natsC [q0, q1, q2]), row 44 6 (.slice B i c) i (l.flatMap Qt.cells), row 38 9 (.slice B1 n1 c1) n1 (l1.flatMap Pt.cells), blk p8 (.cells #[.int .i64 (h0 : Int), .int .i64 (h1 : Int), .int .i64 (h2 : Int), .int .i64 (h3 : Int), .int .i64 (h4 : Int), .int .i64 (h5 : Int), .int .i64 (h6 : Int), .int .i64 (h7 : Int), .slice B1 n1 c1, .slice B i c, .slice none 0 0] 26 (0, 0)), blk p2 (.cells #[.int .i64 0, .int .i64 0, .int .i64 0, .int .i64 0, .int .i64 0, .int .i64 0, .int .i64 0, .int .i64 0, .slice none 0 0, .slice none 0 0, .slice none 0 0] 26 (0, 0)), row 3 1 (.slice (some ⟨gn, 0, none⟩) 3 3) 3 (natsC [h8, h9, h10]), rref b A n cap T2.p T2.er] by rw [hW0.out]; exact o2.out.drew)
                      clear hW0 o2
                      have zx0 := cells_at (row_cells o4.out 1 rfl) (show (natsC [q0, q1, q2])[0]? = some (.int .i64 (q0 : Int)) from rfl); have zx1 := cells_at (row_cells o4.out 1 rfl) (show (natsC [q0, q1, q2])[1]? = some (.int .i64 (q1 : Int)) from rfl); have zx2 := cells_at (row_cells o4.out 1 rfl) (show (natsC [q0, q1, q2])[2]? = some (.int .i64 (q2 : Int)) from rfl)
                      have zy0 := cells_at (row_cells o4.out 0 rfl) (show (natsC [q3, q4, q5])[0]? = some (.int .i64 (q3 : Int)) from rfl); have zy1 := cells_at (row_cells o4.out 0 rfl) (show (natsC [q3, q4, q5])[1]? = some (.int .i64 (q4 : Int)) from rfl); have zy2 := cells_at (row_cells o4.out 0 rfl) (show (natsC [q3, q4, q5])[2]? = some (.int .i64 (q5 : Int)) from rfl)
                      have hgx := World.block_lt_of_cell? W0 _ zx0
                      have hgy := World.block_lt_of_cell? W0 _ zy0
                      have y9 := o4.out.cell 4 rfl 9
                      simp at y9
                      have hg8 := o4.out.lt 4 rfl
                      generalize decide (q2 = 1) = qb at d2 hst ⊢
                      refine FlW.stage (fun zz => Kept (fun _ => False) W0 zz) (Kept.refl _ _) ?_
                      repeat (first | (refine StQ.skip (by rfl) ?_; simp only [Act.put, List.setIfInBounds_toArray, List.set_cons_zero, List.set_cons_succ]) | (refine StQ.go' (by rfl) (Exists.intro ?_ (And.intro (fun w' hS => ?_) ?_)); rotate_left; (focus (have hc := Kept.cell0 hS; go_simp; try with_reducible rfl)); simp only [Act.put, List.setIfInBounds_toArray, List.set_cons_zero, List.set_cons_succ]))
                      refine StQ.nil ?_
                      refine FlO.go (by rfl) (fun K hK => ?_); go_simp; refine hK.out _ _ (.inr ⟨Kept.alloc _ _ _, trivial⟩) ?_; clear hK K
                      refine FlW.stage (fun _ => True) trivial (StQ.nil ?_)
                      refine FlO.go (by rfl) (fun K hK => ?_)
                      (refine wp_row _ _ 23 rfl 44 iQ (.agg #[.int .i64 0, .int .u8 0, .bool false, .int .i64 0, .int .i64 0, .int .i64 0]) 6 40 (by rfl) hIQ.out.1 hIQ.out.2.1 hIQ.out.2.2.1 hIQ.out.2.2.2 (by rfl) (by decide) (o4.out.alloc (.cells #[.int .i64 (q0 : Int), .int .u8 (q1 : Int), .bool qb, .int .i64 (q3 : Int), .int .i64 (q4 : Int), .int .i64 (q5 : Int)] 44)) 3 B i c (l.flatMap Qt.cells) rfl rfl _ 1 1 (Qt.cells ⟨(q0 : Int), q1, qb, (q3 : Int), (q4 : Int), (q5 : Int)⟩) rfl rfl (Cells.new _ _ _ _ rfl) (by intro _ h; cases h) (qt_one _) (by unfold maxLen; omega) (by omega) ?_; intro A6 c6 w7 ho6 hk6)
                      refine hK.out _ _ (.inr trivial) ?_
                      clear hK K
                      simp only [List.set_cons_zero, List.set_cons_succ] at ho6
                      clear y9 zx0 zx1 zx2 zy0 zy1 zy2 hgx hgy hg8
                      have y8 := ho6.cell 5 rfl 9
                      have f8 := ho6.frozen 5 rfl 9
                      simp at y8
                      have hs9 := (ho6.set 5 rfl 9 (.slice A6 (i + 1) c6)).tail.tail.tail
                      simp only [List.set_cons_zero, List.set_cons_succ, List.setIfInBounds_toArray] at hs9
                      rw [show l.flatMap Qt.cells ++ Qt.cells ⟨(q0 : Int), q1, qb, (q3 : Int), (q4 : Int), (q5 : Int)⟩ = (l ++ [(⟨(q0 : Int), q1, qb, (q3 : Int), (q4 : Int), (q5 : Int)⟩ : Qt)]).flatMap Qt.cells by simp [List.flatMap_append]] at hs9
                      have hend := Hidd.mk hs9
                      clear hs9 ho6 o4 hk6
                      refine FlW.stage (fun zz => zz = _) rfl ?_
                      repeat (first | (refine StQ.skip (by rfl) ?_; simp only [Act.put, List.setIfInBounds_toArray, List.set_cons_zero, List.set_cons_succ]) | (refine StQ.go' (by rfl) (Exists.intro ?_ (And.intro (fun w' hS => ?_) ?_)); rotate_left; (focus (rw [hS]; go_simp; try with_reducible rfl)); simp only [Act.put, List.setIfInBounds_toArray, List.set_cons_zero, List.set_cons_succ]))
                      refine StQ.nil ?_
                      refine FlO.go (by rfl) (fun K hK => ?_); go_simp; refine hK.out _ _ (.inr trivial) ?_; clear hK K
                      refine FlW.nil (Calm.normal ?_)
                      go_wp2
                      go_roundw
                      case rel => exact ⟨i + 1, T2, A6, c6, l ++ [⟨(q0 : Int), q1, qb, (q3 : Int), (q4 : Int), (q5 : Int)⟩], by go_num, by omega, a2p, ⟨by rw [List.length_append, hll.out]; rfl⟩, hst, hend⟩
                      case measure => (simp [intOf]; try omega)
                · clear hwv
                  have hRT : qtsR xs n h9 0 S2 = (none, l, ⟨p, er⟩) := by
                    rw [hR.out]
                    by_cases hlt : i < h9
                    · have her : er.isSome = true := by
                        rw [decide_eq_true hlt, Bool.true_and] at hCC
                        cases er
                        · cases hCC
                        · rfl
                      rw [qtsR_err _ _ _ _ ⟨p, er⟩ her]
                      simp
                    · rw [show h9 - i = 0 by omega, show qtsR xs n 0 i ⟨p, er⟩ = (none, [], ⟨p, er⟩) from rfl]
                      simp
                  rw [hRT] at hr2
                  replace hr2 := Hidd.mk (show (⟨none, [h0, h1, h2, h3, h4, h5, h6, h7, h8, h9, h10], l1, l, (rtsR xs n h10 ⟨p, er⟩).1, (rtsR xs n h10 ⟨p, er⟩).2⟩ : Rd) = r from hr2.out)
                  clear hR hRT hCC hil
                  obtain ⟨n2, rfl⟩ : ∃ n2, n2 = i := ⟨_, rfl⟩
                  obtain ⟨B2, rfl⟩ : ∃ B2, B2 = B := ⟨_, rfl⟩
                  obtain ⟨c2, rfl⟩ : ∃ c2, c2 = c := ⟨_, rfl⟩
                  obtain ⟨l2, rfl⟩ : ∃ l2, l2 = l := ⟨_, rfl⟩
                  have hll2 := hll
                  clear hll
                  obtain ⟨S3, hS3⟩ : ∃ S3 : RS, S3 = ⟨p, er⟩ := ⟨_, rfl⟩
                  rw [← hS3] at hr2
                  have o12 := Hidd.mk (row_nil ho.out 41 2)
                  replace o12 := Hidd.mk (show Own w F _ (_ :: _ :: _ :: _ :: _ :: _ :: rref b A n cap S3.p S3.er :: []) by rw [hS3]; exact o12.out)
                  replace hpp := Hidd.mk (show S3.p ≤ n by rw [hS3]; exact hpp.out)
                  clear ho hS3
                  go_wp2
                  go_loopw [17] (fun v17 wr => ∃ (i : Nat) (s : RS) (B : Option Addr) (c : Nat) (l : List Rt), v17 = .int .i64 i ∧ i ≤ h10 ∧ Hidd (s.p ≤ n) ∧ Hidd (l.length = i) ∧ Hidd (rtsR xs n h10 S3 = (l ++ (rtsR xs n (h10 - i) s).1, (rtsR xs n (h10 - i) s).2)) ∧ Hidd (Own w F wr [row 41 2 (.slice B i c) i (l.flatMap Rt.cells), row 44 6 (.slice B2 n2 c2) n2 (l2.flatMap Qt.cells), row 38 9 (.slice B1 n1 c1) n1 (l1.flatMap Pt.cells), blk p8 (.cells #[.int .i64 (h0 : Int), .int .i64 (h1 : Int), .int .i64 (h2 : Int), .int .i64 (h3 : Int), .int .i64 (h4 : Int), .int .i64 (h5 : Int), .int .i64 (h6 : Int), .int .i64 (h7 : Int), .slice B1 n1 c1, .slice B2 n2 c2, .slice B i c] 26 (0, 0)), blk p2 (.cells #[.int .i64 0, .int .i64 0, .int .i64 0, .int .i64 0, .int .i64 0, .int .i64 0, .int .i64 0, .int .i64 0, .slice none 0 0, .slice none 0 0, .slice none 0 0] 26 (0, 0)), row 3 1 (.slice (some ⟨gn, 0, none⟩) 3 3) 3 (natsC [h8, h9, h10]), rref b A n cap s.p s.er])) (fun v17 _ => h10 - (intOf v17).toNat)
                  case atStart => exact ⟨0, S3, none, 0, [], rfl, Nat.zero_le _, hpp, ⟨rfl⟩, ⟨rfl⟩, o12⟩
                  case round =>
                    clear o12 hpp
                    obtain ⟨i, s, B, c, l, rfl, hil, hpp, hll, hR, ho⟩ := hrel
                    obtain ⟨p, er⟩ := s
                    obtain ⟨wv, hwv⟩ : ∃ wv, wv = wr := ⟨_, rfl⟩
                    have yn0 := cells_at (row_cells ho.out 5 rfl) (show (natsC [h8, h9, h10])[0]? = some (.int .i64 (h8 : Int)) from rfl); have yn1 := cells_at (row_cells ho.out 5 rfl) (show (natsC [h8, h9, h10])[1]? = some (.int .i64 (h9 : Int)) from rfl); have yn2 := cells_at (row_cells ho.out 5 rfl) (show (natsC [h8, h9, h10])[2]? = some (.int .i64 (h10 : Int)) from rfl)
                    obtain ⟨c0, c1, c2⟩ := rref_at 6 ho.out rfl
                    simp only at c2
                    go_upto_region 29 with fail
                    go_cut [189] (fun v189 wx => v189 = .bool (decide (i < h10) && er.isNone) ∧ wx = wr)
                    case first =>
                      clear hwv
                      by_cases hlt : i < h10
                      · have dl : decide ((i : Int) < (h10 : Int)) = true := decide_eq_true (by omega)
                        rcases er with _ | ⟨q0, q1⟩
                        · replace c2 : World.cell? _ ⟨b, 2, none⟩ = some (.string ⟨#[]⟩) := c2
                          go_wp2_with fail
                          go_meet
                          case rel => exact ⟨by simp [hlt], rfl⟩
                        · replace c2 : World.cell? _ ⟨b, 2, none⟩ = some (.string (atB q0 q1)) := c2
                          have hne := ne_empty (atB_pos q0 q1)
                          go_wp2_with fail
                          go_meet
                          case rel => exact ⟨by simp, rfl⟩
                      · have dl : decide ((i : Int) < (h10 : Int)) = false := decide_eq_false (by omega)
                        go_wp2_with fail
                        go_meet
                        case rel => exact ⟨by simp [hlt], rfl⟩
                    case rest =>
                      clear yn0 yn1 yn2 c0 c1 c2
                      obtain ⟨rfl, hw0⟩ := hcut
                      obtain rfl : wr = _ := hw0.symm
                      clear hw0
                      obtain ⟨CC, hCC⟩ : ∃ CC, (decide (i < h10) && er.isNone) = CC := ⟨_, rfl⟩
                      rw [hCC]
                      rcases CC with _ | _
                      rotate_left
                      · rw [Bool.and_eq_true, decide_eq_true_eq, Option.isNone_iff_eq_none] at hCC
                        obtain ⟨hlt, rfl⟩ := hCC
                        clear hwv
                        obtain ⟨d, hd⟩ : ∃ d, h10 - i = d + 1 := ⟨h10 - i - 1, by omega⟩
                        have o0 := ho
                        have a0p := hpp
                        clear ho hpp
                        go_upto_region 32 with (first
                            | (go_at_call 89; have hq := o0.out; clear hq; refine (some_any hC.out hl.out hn.out hx.out 1 (by decide) 2 (by decide) 6 ⟨p, none⟩ o0.out rfl a0p.out).mono ?_; rintro e w9 ⟨go1, vs, T1, rfl, htk, hvl, hvb, hpq, hn9⟩; obtain ⟨r0, r1, rfl⟩ := len2 hvl; have a1 := Hidd.mk htk; have a1p := Hidd.mk hpq; have hbo1 := Hidd.mk hvb; simp only [List.set_cons_zero, List.set_cons_succ] at hn9; have o1 := Hidd.mk hn9; clear htk hvl hvb hpq hn9 o0))
                        have hst := rtsR_step (l := l) (R := rtsR xs n h10 S3) rfl (show takes xs n [1, 1] ⟨p, none⟩ = ([r0, r1], T1) from a1.out) (by rw [← hd]; exact hR.out)
                        rw [show d = h10 - (i + 1) by omega, show rtOf [r0, r1] = ⟨(r0 : Int), (r1 : Int)⟩ from rfl] at hst
                        replace hst := Hidd.mk hst
                        clear a1 hR hbo1
                        obtain ⟨W0, hW0⟩ : ∃ zz, zz = World.drew w9 := ⟨_, rfl⟩
                        refine wp_region_flow [([0, 2, 5, 1, 3, 6, 4, 7, 8], some (9, [true])), ([], some (10, [false, false])), ([11], some (12, [false, false, false]))] (by kernel_rfl) (by kernel_rfl) ?_
                        rw [show ({ w9 with drawn := w9.drawn + 1 } : World) = W0 from hW0.symm]
                        replace hW0 := Hidd.mk hW0
                        simp only [opsF, List.map_cons, List.map_nil, List.getD_cons_succ, List.getD_cons_zero, Option.map]
                        have o4 := Hidd.mk (show Own w F W0 [row 3 1 (.slice (some ⟨go1, 0, none⟩) 2 2) 2 (natsC [r0, r1]), row 41 2 (.slice B i c) i (l.flatMap Rt.cells), row 44 6 (.slice B2 n2 c2) n2 (l2.flatMap Qt.cells), row 38 9 (.slice B1 n1 c1) n1 (l1.flatMap Pt.cells), blk p8 (.cells #[.int .i64 (h0 : Int), .int .i64 (h1 : Int), .int .i64 (h2 : Int), .int .i64 (h3 : Int), .int .i64 (h4 : Int), .int .i64 (h5 : Int), .int .i64 (h6 : Int), .int .i64 (h7 : Int), .slice B1 n1 c1, .slice B2 n2 c2, .slice B i c] 26 (0, 0)), blk p2 (.cells #[.int .i64 0, .int .i64 0, .int .i64 0, .int .i64 0, .int .i64 0, .int .i64 0, .int .i64 0, .int .i64 0, .slice none 0 0, .slice none 0 0, .slice none 0 0] 26 (0, 0)), row 3 1 (.slice (some ⟨gn, 0, none⟩) 3 3) 3 (natsC [h8, h9, h10]), rref b A n cap T1.p T1.er] by rw [hW0.out]; exact o1.out.drew)
                        clear hW0 o1
                        have zx0 := cells_at (row_cells o4.out 0 rfl) (show (natsC [r0, r1])[0]? = some (.int .i64 (r0 : Int)) from rfl); have zx1 := cells_at (row_cells o4.out 0 rfl) (show (natsC [r0, r1])[1]? = some (.int .i64 (r1 : Int)) from rfl)
                        have hgx := World.block_lt_of_cell? W0 _ zx0
                        have y10 := o4.out.cell 4 rfl 10
                        simp at y10
                        have hg8 := o4.out.lt 4 rfl
                        refine FlW.stage (fun zz => Kept (fun _ => False) W0 zz) (Kept.refl _ _) ?_
                        repeat (first | (refine StQ.skip (by rfl) ?_; simp only [Act.put, List.setIfInBounds_toArray, List.set_cons_zero, List.set_cons_succ]) | (refine StQ.go' (by rfl) (Exists.intro ?_ (And.intro (fun w' hS => ?_) ?_)); rotate_left; (focus (have hc := Kept.cell0 hS; go_simp; try with_reducible rfl)); simp only [Act.put, List.setIfInBounds_toArray, List.set_cons_zero, List.set_cons_succ]))
                        refine StQ.nil ?_
                        refine FlO.go (by rfl) (fun K hK => ?_); go_simp; refine hK.out _ _ (.inr ⟨Kept.alloc _ _ _, trivial⟩) ?_; clear hK K
                        refine FlW.stage (fun _ => True) trivial (StQ.nil ?_)
                        refine FlO.go (by rfl) (fun K hK => ?_)
                        (refine wp_row _ _ 24 rfl 41 iT (.agg #[.int .i64 0, .int .i64 0]) 2 16 (by rfl) hIT.out.1 hIT.out.2.1 hIT.out.2.2.1 hIT.out.2.2.2 (by rfl) (by decide) (o4.out.alloc (.cells #[.int .i64 (r0 : Int), .int .i64 (r1 : Int)] 41)) 2 B i c (l.flatMap Rt.cells) rfl rfl _ 1 1 (Rt.cells ⟨(r0 : Int), (r1 : Int)⟩) rfl rfl (Cells.new _ _ _ _ rfl) (by intro _ h; cases h) (rt_one _) (by unfold maxLen; omega) (by omega) ?_; intro A6 c6 w7 ho6 hk6)
                        refine hK.out _ _ (.inr trivial) ?_
                        clear hK K
                        simp only [List.set_cons_zero, List.set_cons_succ] at ho6
                        clear y10 zx0 zx1 hgx hg8
                        have y8 := ho6.cell 5 rfl 10
                        have f8 := ho6.frozen 5 rfl 10
                        simp at y8
                        have hs9 := (ho6.set 5 rfl 10 (.slice A6 (i + 1) c6)).tail.tail
                        simp only [List.set_cons_zero, List.set_cons_succ, List.setIfInBounds_toArray] at hs9
                        rw [show l.flatMap Rt.cells ++ Rt.cells ⟨(r0 : Int), (r1 : Int)⟩ = (l ++ [(⟨(r0 : Int), (r1 : Int)⟩ : Rt)]).flatMap Rt.cells by simp [List.flatMap_append]] at hs9
                        have hend := Hidd.mk hs9
                        clear hs9 ho6 o4 hk6
                        refine FlW.stage (fun zz => zz = _) rfl ?_
                        repeat (first | (refine StQ.skip (by rfl) ?_; simp only [Act.put, List.setIfInBounds_toArray, List.set_cons_zero, List.set_cons_succ]) | (refine StQ.go' (by rfl) (Exists.intro ?_ (And.intro (fun w' hS => ?_) ?_)); rotate_left; (focus (rw [hS]; go_simp; try with_reducible rfl)); simp only [Act.put, List.setIfInBounds_toArray, List.set_cons_zero, List.set_cons_succ]))
                        refine StQ.nil ?_
                        refine FlO.go (by rfl) (fun K hK => ?_); go_simp; refine hK.out _ _ (.inr trivial) ?_; clear hK K
                        refine FlW.nil (Calm.normal ?_)
                        go_wp2
                        go_roundw
                        case rel => exact ⟨i + 1, T1, A6, c6, l ++ [⟨(r0 : Int), (r1 : Int)⟩], by go_num, by omega, a1p, ⟨by rw [List.length_append, hll.out]; rfl⟩, hst, hend⟩
                        case measure => (simp [intOf]; try omega)
                      · clear hwv
                        have hRT : rtsR xs n h10 S3 = (l, ⟨p, er⟩) := by
                          rw [hR.out]
                          by_cases hlt : i < h10
                          · have her : er.isSome = true := by
                              rw [decide_eq_true hlt, Bool.true_and] at hCC
                              cases er
                              · cases hCC
                              · rfl
                            rw [rtsR_err _ _ _ ⟨p, er⟩ her]
                            simp
                          · rw [show h10 - i = 0 by omega, show rtsR xs n 0 ⟨p, er⟩ = ([], ⟨p, er⟩) from rfl]
                            simp
                        rw [hRT] at hr2
                        replace hr2 := Hidd.mk (show (⟨none, [h0, h1, h2, h3, h4, h5, h6, h7, h8, h9, h10], l1, l2, l, ⟨p, er⟩⟩ : Rd) = r from hr2.out)
                        clear hR hRT hCC hil hpp
                        replace ho := Hidd.mk (show Own w F _ [row 41 2 (.slice B i c) i (l.flatMap Rt.cells), row 44 6 (.slice B2 n2 c2) n2 (l2.flatMap Qt.cells), row 38 9 (.slice B1 n1 c1) n1 (l1.flatMap Pt.cells), blk p8 (.cells #[.int .i64 (h0 : Int), .int .i64 (h1 : Int), .int .i64 (h2 : Int), .int .i64 (h3 : Int), .int .i64 (h4 : Int), .int .i64 (h5 : Int), .int .i64 (h6 : Int), .int .i64 (h7 : Int), .slice B1 n1 c1, .slice B2 n2 c2, .slice B i c] 26 (0, 0)), blk p2 (.cells #[.int .i64 0, .int .i64 0, .int .i64 0, .int .i64 0, .int .i64 0, .int .i64 0, .int .i64 0, .int .i64 0, .slice none 0 0, .slice none 0 0, .slice none 0 0] 26 (0, 0)), row 3 1 (.slice (some ⟨gn, 0, none⟩) 3 3) 3 (natsC [h8, h9, h10]), rref b A n cap p er] from ho.out)
                        obtain ⟨y0, y1, y2, y3, y4, y5, y6, y7, y8, y9, y10⟩ := cells11 ho.out 3 rfl
                        obtain ⟨x0, x1, x2, x3, x4, x5, x6, x7, x8, x9, xA⟩ := cells11 ho.out 4 rfl
                        have fz0 := ho.out.frozen 4 rfl 0; have fz1 := ho.out.frozen 4 rfl 1; have fz2 := ho.out.frozen 4 rfl 2; have fz3 := ho.out.frozen 4 rfl 3; have fz4 := ho.out.frozen 4 rfl 4; have fz5 := ho.out.frozen 4 rfl 5; have fz6 := ho.out.frozen 4 rfl 6; have fz7 := ho.out.frozen 4 rfl 7; have fz8 := ho.out.frozen 4 rfl 8; have fz9 := ho.out.frozen 4 rfl 9; have fz10 := ho.out.frozen 4 rfl 10
                        have hz9 := (((((((((((ho.out.set 4 rfl 0 (.int .i64 (h0 : Int))).set 4 rfl 1 (.int .i64 (h1 : Int))).set 4 rfl 2 (.int .i64 (h2 : Int))).set 4 rfl 3 (.int .i64 (h3 : Int))).set 4 rfl 4 (.int .i64 (h4 : Int))).set 4 rfl 5 (.int .i64 (h5 : Int))).set 4 rfl 6 (.int .i64 (h6 : Int))).set 4 rfl 7 (.int .i64 (h7 : Int))).set 4 rfl 8 (.slice B1 n1 c1)).set 4 rfl 9 (.slice B2 n2 c2)).set 4 rfl 10 (.slice B i c))
                        simp only [List.set_cons_zero, List.set_cons_succ, List.setIfInBounds_toArray] at hz9
                        replace hz9 := Hidd.mk hz9
                        go_wp2
                        clear x0 x1 x2 x3 x4 x5 x6 x7 x8 x9 xA fz0 fz1 fz2 fz3 fz4 fz5 fz6 fz7 fz8 fz9 fz10 ho
                        generalize World.setCell _ _ _ = WZ at hz9 ⊢
                        obtain ⟨x0, x1, x2, x3, x4, x5, x6, x7, x8, x9, xA⟩ := cells11 hz9.out 4 rfl
                        refine bodyPost_ret (v := .tuple #[.agg #[.int .i64 (h0 : Int), .int .i64 (h1 : Int), .int .i64 (h2 : Int), .int .i64 (h3 : Int), .int .i64 (h4 : Int), .int .i64 (h5 : Int), .int .i64 (h6 : Int), .int .i64 (h7 : Int), .slice B1 n1 c1, .slice B2 n2 c2, .slice B i c], .string ⟨#[]⟩]) (by simp [results, Try.results75, go_sem, x0, x1, x2, x3, x4, x5, x6, x7, x8, x9, xA]) rfl ?_
                        rw [← hr2.out]
                        refine ⟨fun q hq => (by cases hq), fun _ => ?_⟩
                        obtain rfl := hll1.out
                        obtain rfl := hll2.out
                        obtain rfl := hll.out
                        exact ⟨B1, c1, B2, c2, B, c, rfl, hz9.out.reorder (M := [_, _, _, _]) [0, 1, 2, 6] rfl (by decide)⟩
end Go.Proofs.Ytcamoldjljfbeaa
