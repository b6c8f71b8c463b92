/- table.read: the walk. -/
import Derived.Test.YtcamoldjljfbeaaTbG
namespace Go.Proofs.Ytcamoldjljfbeaa
open Go.RowKit

theorem wrap8 (v : Nat) (h : v < 256) : IntKind.u8.wrap (v : Int) = v ∧ (v : Int) % 256 = v := by
  have h1 : IntKind.u8.wrap (v : Int) = (v : Int) % 256 := by simp [IntKind.wrap, IntKind.signed, IntKind.bits]
  omega
set_option maxRecDepth 100000
set_option maxHeartbeats 16000000
theorem readT (b : Nat) (A : Option Addr) (n cap : Nat) (xs : List Int) (w : World) (hR : (rdr b A n cap xs 0 none .nilIface).holds w) (hn : n ≤ 1000000) (hx : ∀ x ∈ xs, 0 ≤ x ∧ x < 256) (r : Rd) (hr : rdT xs n = r) (F : Nat → Prop) (hF : (rdr b A n cap xs 0 none .nilIface).foot = F) :
    Calls Try.prog 71 #[.pointer (some ⟨b, 0, none⟩)] w fun e w' => RdPost w F b A n cap xs r e w' := by
  have ho0 := ((Own.one (r := rdr b A n cap xs 0 none .nilIface) hR).alloc (.cells #[.pointer (some ⟨b, 0, none⟩)] 97)).alloc (.cells #[.int .i64 0, .int .i64 0, .int .i64 0, .int .i64 0, .int .i64 0, .int .i64 0, .int .i64 0, .int .i64 0, .slice none 0 0, .slice none 0 0, .slice none 0 0] 26)
  rw [show (w.alloc (.cells #[.pointer (some ⟨b, 0, none⟩)] 97)).heap.size = w.heap.size + 1 by simp, hF] at ho0
  replace ho0 := Hidd.mk ho0
  replace hn := Hidd.mk hn
  replace hx := Hidd.mk hx
  replace hr := Hidd.mk hr
  obtain ⟨iP, hIP⟩ : ∃ i, _ := info_parts info_part
  obtain ⟨iQ, hIQ⟩ : ∃ i, _ := info_parts info_port
  obtain ⟨iT, hIT⟩ : ∃ i, _ := info_parts info_route
  replace hIP := Hidd.mk hIP
  replace hIQ := Hidd.mk hIQ
  replace hIT := Hidd.mk hIT
  clear hR hF
  go_enter Try.func71, Try.ntmps71
  go_upto_region 3 with fail
  generalize World.alloc (World.alloc w _) _ = W0 at ho0 ⊢
  generalize w.heap.size + 1 = p2 at ho0 ⊢
  generalize w.heap.size = p1 at ho0 ⊢
  have c0 := ho0.out.cell 1 rfl 0
  simp at c0
  go_cut [26] (fun v26 wx => ∃ (m : Nat) (s : RS) (ev : Value), v26 = .bool (decide (m ≠ 1163084593) && s.er.isNone) ∧ Hidd (tk xs n 4 ⟨0, none⟩ = (m, s)) ∧ Hidd (s.p ≤ n) ∧ Hidd (Own w F wx [blk p2 (.cells #[.int .i64 0, .int .i64 0, .int .i64 0, .int .i64 0, .int .i64 0, .int .i64 0, .int .i64 0, .int .i64 0, .slice none 0 0, .slice none 0 0, .slice none 0 0] 26 (0, 0)), blk p1 (.cells #[.pointer (some ⟨b, 0, none⟩)] 97 (0, 0)), rdr b A n cap xs s.p s.er ev]))
  case first =>
    go_wp2_with fail
    refine (tkT_any (s := ⟨0, none⟩) 4 (by decide) b (ho0.out.get 2 rfl) (Nat.zero_le _) hn.out hx.out).mono ?_
    rintro e w9 ⟨m, s, ev, rfl, htk, hn9⟩
    have hm := ho0.out.call 2 rfl hn9
    simp only [List.set_cons_zero, List.set_cons_succ] at hm
    have ho1 := Hidd.mk hm
    have hpp := Hidd.mk (tk_pos htk (Nat.zero_le _))
    replace htk := Hidd.mk htk
    clear hm hn9 ho0 c0
    have c0 := ho1.out.cell 1 rfl 0
    simp at c0
    by_cases hm : m = 1163084593
    · have dm : ((m : Int) != 1163084593) = false := by rw [bne_eq_false_iff_eq]; omega
      go_wp2_with fail
      go_meet
      case rel => exact ⟨m, s, ev, by simp [hm], htk, hpp, ho1⟩
    · have dm : ((m : Int) != 1163084593) = true := by rw [bne_iff_ne]; omega
      obtain ⟨p, er⟩ := s
      rcases er with _ | q
      · obtain rfl := ev_none (ho1.out.get 2 rfl)
        go_wp2_with (go_at_call 87; refine (errT_any (s := ⟨p, none⟩) b (ho1.out.get 2 rfl)).mono ?_; rintro e w' ⟨rfl, rfl⟩)
        go_meet
        case rel => exact ⟨m, ⟨p, none⟩, _, by simp [hm], htk, hpp, ho1⟩
      · obtain ⟨eb, rfl⟩ := ev_some (ho1.out.get 2 rfl)
        go_wp2_with (go_at_call 87; refine (errT_any (s := ⟨p, some q⟩) b (ho1.out.get 2 rfl)).mono ?_; rintro e w' ⟨rfl, rfl⟩)
        go_meet
        case rel => exact ⟨m, ⟨p, some q⟩, _, by simp, htk, hpp, ho1⟩
  case rest =>
    clear ho0 c0
    obtain ⟨m, S0, ev, rfl, htk, hpp, o0⟩ := hcut
    obtain ⟨CC, hCC⟩ : ∃ CC, (decide (m ≠ 1163084593) && S0.er.isNone) = CC := ⟨_, rfl⟩
    rw [hCC]
    rcases CC with _ | _
    rotate_left
    · have hreq : Hidd (⟨some (7, 0), [], [], [], [], S0⟩ = r) := ⟨by
        rw [← hr.out]
        unfold rdT
        rw [htk.out, if_pos (by simpa using hCC)]⟩
      go_wp2_with (go_at_call 52; refine (newFault_any 7 0 _ (by decide) (by decide)).mono ?_; rintro e w8 ⟨vv, rfl, hn8, bb, rfl⟩; have hz8 := Hidd.mk (o0.out.made hn8); clear hn8; obtain ⟨x0, x1, x2, x3, x4, x5, x6, x7, x8, x9, xA⟩ := cells11 hz8.out 1 rfl; have fz0 := hz8.out.frozen 1 rfl 0; have fz1 := hz8.out.frozen 1 rfl 1; have fz2 := hz8.out.frozen 1 rfl 2; have fz3 := hz8.out.frozen 1 rfl 3; have fz4 := hz8.out.frozen 1 rfl 4; have fz5 := hz8.out.frozen 1 rfl 5; have fz6 := hz8.out.frozen 1 rfl 6; have fz7 := hz8.out.frozen 1 rfl 7; have fz8 := hz8.out.frozen 1 rfl 8; have fz9 := hz8.out.frozen 1 rfl 9; have fz10 := hz8.out.frozen 1 rfl 10)
      have hz9 := (((((((((((hz8.out.set 1 rfl 0 (.int .i64 0)).set 1 rfl 1 (.int .i64 0)).set 1 rfl 2 (.int .i64 0)).set 1 rfl 3 (.int .i64 0)).set 1 rfl 4 (.int .i64 0)).set 1 rfl 5 (.int .i64 0)).set 1 rfl 6 (.int .i64 0)).set 1 rfl 7 (.int .i64 0)).set 1 rfl 8 (.slice none 0 0)).set 1 rfl 9 (.slice none 0 0)).set 1 rfl 10 (.slice none 0 0))
      simp only [List.set_cons_zero, List.set_cons_succ, List.setIfInBounds_toArray] at hz9
      clear hz8 o0 x0 x1 x2 x3 x4 x5 x6 x7 x8 x9 xA fz0 fz1 fz2 fz3 fz4 fz5 fz6 fz7 fz8 fz9 fz10
      generalize World.setCell _ _ _ = WZ at hz9 ⊢
      replace hz9 := Hidd.mk hz9
      obtain ⟨x0, x1, x2, x3, x4, x5, x6, x7, x8, x9, xA⟩ := cells11 hz9.out 1 rfl
      refine bodyPost_ret (v := .tuple #[.agg #[.int .i64 0, .int .i64 0, .int .i64 0, .int .i64 0, .int .i64 0, .int .i64 0, .int .i64 0, .int .i64 0, .slice none 0 0, .slice none 0 0, .slice none 0 0], .iface 77 (.pointer (some ⟨bb, 0, none⟩))]) (by simp [results, Try.results71, go_sem, x0, x1, x2, x3, x4, x5, x6, x7, x8, x9, xA]) rfl ?_
      rw [← hreq.out]
      exact ⟨fun q hq => by
        injection hq with hq
        subst hq
        exact ⟨_, _, rfl, ⟨_, rfl⟩, hz9.out.get 0 rfl, hz9.out.reorder (M := [_]) [3] rfl (by decide)⟩, fun h => by cases h⟩
    · have a0 := Hidd.mk (rfl : takes xs n [] S0 = ([], S0))
      have a0p := hpp
      have hng : ¬ (m ≠ 1163084593 ∧ S0.er.isNone = true) := by
        intro h
        simp [h.1, h.2] at hCC
      clear hpp
      go_upto_region 7 with (first
          | (go_at_call 84; have hq := o0.out; clear hq; refine (oneT_any p1 b (o0.out.get 1 rfl) (o0.out.get 2 rfl) a0p.out hn.out hx.out).mono ?_; rintro e w9 ⟨h0, S1, ev, rfl, htk, hn9⟩; have hm := o0.out.call 2 rfl hn9; simp only [List.set_cons_zero, List.set_cons_succ] at hm; have o1 := Hidd.mk hm; have a1p := Hidd.mk (tk_pos htk a0p.out); have a1 := Hidd.mk (takes_snoc a0.out htk); have hvh0 := Hidd.mk (tk_lt hx.out htk); clear hm hn9 htk o0 a0p a0)
          | (go_at_call 84; have hq := o1.out; clear hq; refine (oneT_any p1 b (o1.out.get 1 rfl) (o1.out.get 2 rfl) a1p.out hn.out hx.out).mono ?_; rintro e w9 ⟨h1, S2, ev, rfl, htk, hn9⟩; have hm := o1.out.call 2 rfl hn9; simp only [List.set_cons_zero, List.set_cons_succ] at hm; have o2 := Hidd.mk hm; have a2p := Hidd.mk (tk_pos htk a1p.out); have a2 := Hidd.mk (takes_snoc a1.out htk); have hvh1 := Hidd.mk (tk_lt hx.out htk); clear hm hn9 htk o1 a1p a1)
          | (go_at_call 86; have hq := o2.out; clear hq; refine (fourT_any p1 b (o2.out.get 1 rfl) (o2.out.get 2 rfl) a2p.out hn.out hx.out).mono ?_; rintro e w9 ⟨h2, S3, ev, rfl, htk, hn9⟩; have hm := o2.out.call 2 rfl hn9; simp only [List.set_cons_zero, List.set_cons_succ] at hm; have o3 := Hidd.mk hm; have a3p := Hidd.mk (tk_pos htk a2p.out); have a3 := Hidd.mk (takes_snoc a2.out htk); have hvh2 := Hidd.mk (tk_lt hx.out htk); clear hm hn9 htk o2 a2p a2)
          | (go_at_call 86; have hq := o3.out; clear hq; refine (fourT_any p1 b (o3.out.get 1 rfl) (o3.out.get 2 rfl) a3p.out hn.out hx.out).mono ?_; rintro e w9 ⟨h3, S4, ev, rfl, htk, hn9⟩; have hm := o3.out.call 2 rfl hn9; simp only [List.set_cons_zero, List.set_cons_succ] at hm; have o4 := Hidd.mk hm; have a4p := Hidd.mk (tk_pos htk a3p.out); have a4 := Hidd.mk (takes_snoc a3.out htk); have hvh3 := Hidd.mk (tk_lt hx.out htk); clear hm hn9 htk o3 a3p a3)
          | (go_at_call 86; have hq := o4.out; clear hq; refine (fourT_any p1 b (o4.out.get 1 rfl) (o4.out.get 2 rfl) a4p.out hn.out hx.out).mono ?_; rintro e w9 ⟨h4, S5, ev, rfl, htk, hn9⟩; have hm := o4.out.call 2 rfl hn9; simp only [List.set_cons_zero, List.set_cons_succ] at hm; have o5 := Hidd.mk hm; have a5p := Hidd.mk (tk_pos htk a4p.out); have a5 := Hidd.mk (takes_snoc a4.out htk); have hvh4 := Hidd.mk (tk_lt hx.out htk); clear hm hn9 htk o4 a4p a4)
          | (go_at_call 86; have hq := o5.out; clear hq; refine (fourT_any p1 b (o5.out.get 1 rfl) (o5.out.get 2 rfl) a5p.out hn.out hx.out).mono ?_; rintro e w9 ⟨h5, S6, ev, rfl, htk, hn9⟩; have hm := o5.out.call 2 rfl hn9; simp only [List.set_cons_zero, List.set_cons_succ] at hm; have o6 := Hidd.mk hm; have a6p := Hidd.mk (tk_pos htk a5p.out); have a6 := Hidd.mk (takes_snoc a5.out htk); have hvh5 := Hidd.mk (tk_lt hx.out htk); clear hm hn9 htk o5 a5p a5)
          | (go_at_call 86; have hq := o6.out; clear hq; refine (fourT_any p1 b (o6.out.get 1 rfl) (o6.out.get 2 rfl) a6p.out hn.out hx.out).mono ?_; rintro e w9 ⟨h6, S7, ev, rfl, htk, hn9⟩; have hm := o6.out.call 2 rfl hn9; simp only [List.set_cons_zero, List.set_cons_succ] at hm; have o7 := Hidd.mk hm; have a7p := Hidd.mk (tk_pos htk a6p.out); have a7 := Hidd.mk (takes_snoc a6.out htk); have hvh6 := Hidd.mk (tk_lt hx.out htk); clear hm hn9 htk o6 a6p a6)
          | (go_at_call 86; have hq := o7.out; clear hq; refine (fourT_any p1 b (o7.out.get 1 rfl) (o7.out.get 2 rfl) a7p.out hn.out hx.out).mono ?_; rintro e w9 ⟨h7, S8, ev, rfl, htk, hn9⟩; have hm := o7.out.call 2 rfl hn9; simp only [List.set_cons_zero, List.set_cons_succ] at hm; have o8 := Hidd.mk hm; have a8p := Hidd.mk (tk_pos htk a7p.out); have a8 := Hidd.mk (takes_snoc a7.out htk); have hvh7 := Hidd.mk (tk_lt hx.out htk); clear hm hn9 htk o7 a7p a7; have o8a := Hidd.mk (o8.out.alloc (.cells #[.int .i64 (h0 : Int), .int .i64 (h1 : Int), .int .i64 (h2 : Int), .int .i64 (h3 : Int), .int .i64 (h4 : Int), .int .i64 (h5 : Int), .int .i64 (h6 : Int), .int .i64 (h7 : Int), .slice none 0 0, .slice none 0 0, .slice none 0 0] 26)); clear o8)
          | (go_at_call 84; have hq := o8a.out; clear hq; refine (oneT_any p1 b (o8a.out.get 2 rfl) (o8a.out.get 3 rfl) a8p.out hn.out hx.out).mono ?_; rintro e w9 ⟨h8, S9, ev, rfl, htk, hn9⟩; have hm := o8a.out.call 3 rfl hn9; simp only [List.set_cons_zero, List.set_cons_succ] at hm; have o9 := Hidd.mk hm; have a9p := Hidd.mk (tk_pos htk a8p.out); have a9 := Hidd.mk (takes_snoc a8.out htk); have hvh8 := Hidd.mk (tk_lt hx.out htk); clear hm hn9 htk o8a a8p a8)
          | (go_at_call 84; have hq := o9.out; clear hq; refine (oneT_any p1 b (o9.out.get 2 rfl) (o9.out.get 3 rfl) a9p.out hn.out hx.out).mono ?_; rintro e w9 ⟨h9, S10, ev, rfl, htk, hn9⟩; have hm := o9.out.call 3 rfl hn9; simp only [List.set_cons_zero, List.set_cons_succ] at hm; have o10 := Hidd.mk hm; have a10p := Hidd.mk (tk_pos htk a9p.out); have a10 := Hidd.mk (takes_snoc a9.out htk); have hvh9 := Hidd.mk (tk_lt hx.out htk); clear hm hn9 htk o9 a9p a9)
          | (go_at_call 84; have hq := o10.out; clear hq; refine (oneT_any p1 b (o10.out.get 2 rfl) (o10.out.get 3 rfl) a10p.out hn.out hx.out).mono ?_; rintro e w9 ⟨h10, S11, ev, rfl, htk, hn9⟩; have hm := o10.out.call 3 rfl hn9; simp only [List.set_cons_zero, List.set_cons_succ] at hm; have o11 := Hidd.mk hm; have a11p := Hidd.mk (tk_pos htk a10p.out); have a11 := Hidd.mk (takes_snoc a10.out htk); have hvh10 := Hidd.mk (tk_lt hx.out htk); clear hm hn9 htk o10 a10p a10))
      have hh := a11.out
      simp only [List.nil_append, List.cons_append] at hh
      have hr2 : Hidd ((if (qtsR xs n h9 0 (ptsR xs n h8 S11).2).1.isSome = true then (⟨(qtsR xs n h9 0 (ptsR xs n h8 S11).2).1, [], [], [], [], (qtsR xs n h9 0 (ptsR xs n h8 S11).2).2.2⟩ : Rd) else
          ⟨none, [h0, h1, h2, h3, h4, h5, h6, h7, h8, h9, h10], (ptsR xs n h8 S11).1, (qtsR xs n h9 0 (ptsR xs n h8 S11).2).2.1, (rtsR xs n h10 (qtsR xs n h9 0 (ptsR xs n h8 S11).2).2.2).1, (rtsR xs n h10 (qtsR xs n h9 0 (ptsR xs n h8 S11).2).2.2).2⟩) = r) := ⟨by
        rw [← hr.out]
        unfold rdT
        rw [htk.out, if_neg hng, hh]
        rfl⟩
      have b8 : h8 < 256 := hvh8.out
      have b9 : h9 < 256 := hvh9.out
      have b10 : h10 < 256 := hvh10.out
      clear hh a11 htk hr hng hCC hvh0 hvh1 hvh2 hvh3 hvh4 hvh5 hvh6 hvh7 hvh8 hvh9 hvh10
      have o12 := Hidd.mk (row_nil o11.out 38 9)
      clear o11
      generalize (World.heap _).size = p6 at o12 ⊢
      go_wp2
      go_loopw [10] (fun v10 wr => ∃ (i : Nat) (s : RS) (ev : Value) (B : Option Addr) (c : Nat) (l : List Pt), v10 = .int .i64 i ∧ i ≤ h8 ∧ Hidd (s.p ≤ n) ∧ Hidd (l.length = i) ∧ Hidd (ptsR xs n h8 S11 = (l ++ (ptsR xs n (h8 - i) s).1, (ptsR xs n (h8 - i) s).2)) ∧ Hidd (Own w F wr [row 38 9 (.slice B i c) i (l.flatMap Pt.cells), blk p6 (.cells #[.int .i64 (h0 : Int), .int .i64 (h1 : Int), .int .i64 (h2 : Int), .int .i64 (h3 : Int), .int .i64 (h4 : Int), .int .i64 (h5 : Int), .int .i64 (h6 : Int), .int .i64 (h7 : Int), .slice B i c, .slice none 0 0, .slice none 0 0] 26 (0, 0)), blk p2 (.cells #[.int .i64 0, .int .i64 0, .int .i64 0, .int .i64 0, .int .i64 0, .int .i64 0, .int .i64 0, .int .i64 0, .slice none 0 0, .slice none 0 0, .slice none 0 0] 26 (0, 0)), blk p1 (.cells #[.pointer (some ⟨b, 0, none⟩)] 97 (0, 0)), rdr b A n cap xs s.p s.er ev])) (fun v10 _ => h8 - (intOf v10).toNat)
      case atStart => exact ⟨0, S11, ev, none, 0, [], rfl, Nat.zero_le _, a11p, ⟨rfl⟩, ⟨rfl⟩, o12⟩
      case round =>
        clear o12 a11p
        obtain ⟨i, s, ev, B, c, l, rfl, hil, hpp, hll, hR, ho⟩ := hrel
        obtain ⟨p, er⟩ := s
        have c0 := ho.out.cell 3 rfl 0
        simp at c0
        go_upto_region 8 with fail
        go_cut [59] (fun v59 wx => v59 = .bool (decide (i < h8) && er.isNone) ∧ wx = wr)
        case first =>
          by_cases hlt : i < h8
          · have dl : decide ((i : Int) < (h8 : Int)) = true := decide_eq_true (by omega)
            rcases er with _ | q
            · obtain rfl := ev_none (ho.out.get 4 rfl)
              go_wp2_with (go_at_call 87; refine (errT_any (s := ⟨p, none⟩) b (ho.out.get 4 rfl)).mono ?_; rintro e w' ⟨rfl, rfl⟩)
              go_meet
              case rel => exact ⟨by simp [hlt], rfl⟩
            · obtain ⟨eb, rfl⟩ := ev_some (ho.out.get 4 rfl)
              go_wp2_with (go_at_call 87; refine (errT_any (s := ⟨p, some q⟩) b (ho.out.get 4 rfl)).mono ?_; rintro e w' ⟨rfl, rfl⟩)
              go_meet
              case rel => exact ⟨by simp, rfl⟩
          · have dl : decide ((i : Int) < (h8 : Int)) = false := decide_eq_false (by omega)
            go_wp2_with fail
            go_meet
            case rel => exact ⟨by simp [hlt], rfl⟩
        case rest =>
          obtain ⟨rfl, rfl⟩ := hcut
          obtain ⟨CC, hCC⟩ : ∃ CC, (decide (i < h8) && er.isNone) = CC := ⟨_, rfl⟩
          rw [hCC]
          clear c0
          rcases CC with _ | _
          rotate_left
          · rw [Bool.and_eq_true, decide_eq_true_eq, Option.isNone_iff_eq_none] at hCC
            obtain ⟨hlt, rfl⟩ := hCC
            obtain ⟨d, hd⟩ : ∃ d, h8 - i = d + 1 := ⟨h8 - i - 1, by omega⟩
            have o0 := ho
            have a0 := Hidd.mk (rfl : takes xs n [] ⟨p, none⟩ = ([], ⟨p, none⟩))
            have a0p := hpp
            clear ho hpp
            go_upto_region 11 with (first
                | (go_at_call 84; have hq := o0.out; clear hq; refine (oneT_any p1 b (o0.out.get 3 rfl) (o0.out.get 4 rfl) a0p.out hn.out hx.out).mono ?_; rintro e w9 ⟨q0, T1, ev, rfl, htk, hn9⟩; have hm := o0.out.call 4 rfl hn9; simp only [List.set_cons_zero, List.set_cons_succ] at hm; have o1 := Hidd.mk hm; have a1p := Hidd.mk (tk_pos htk a0p.out); have a1 := Hidd.mk (takes_snoc a0.out htk); have hvq0 := Hidd.mk (tk_lt hx.out htk); clear hm hn9 htk o0 a0p a0)
                | (go_at_call 86; have hq := o1.out; clear hq; refine (fourT_any p1 b (o1.out.get 3 rfl) (o1.out.get 4 rfl) a1p.out hn.out hx.out).mono ?_; rintro e w9 ⟨q1, T2, ev, rfl, htk, hn9⟩; have hm := o1.out.call 4 rfl hn9; simp only [List.set_cons_zero, List.set_cons_succ] at hm; have o2 := Hidd.mk hm; have a2p := Hidd.mk (tk_pos htk a1p.out); have a2 := Hidd.mk (takes_snoc a1.out htk); have hvq1 := Hidd.mk (tk_lt hx.out htk); clear hm hn9 htk o1 a1p a1)
                | (go_at_call 86; have hq := o2.out; clear hq; refine (fourT_any p1 b (o2.out.get 3 rfl) (o2.out.get 4 rfl) a2p.out hn.out hx.out).mono ?_; rintro e w9 ⟨q2, T3, ev, rfl, htk, hn9⟩; have hm := o2.out.call 4 rfl hn9; simp only [List.set_cons_zero, List.set_cons_succ] at hm; have o3 := Hidd.mk hm; have a3p := Hidd.mk (tk_pos htk a2p.out); have a3 := Hidd.mk (takes_snoc a2.out htk); have hvq2 := Hidd.mk (tk_lt hx.out htk); clear hm hn9 htk o2 a2p a2)
                | (go_at_call 84; have hq := o3.out; clear hq; refine (oneT_any p1 b (o3.out.get 3 rfl) (o3.out.get 4 rfl) a3p.out hn.out hx.out).mono ?_; rintro e w9 ⟨q3, T4, ev, rfl, htk, hn9⟩; have hm := o3.out.call 4 rfl hn9; simp only [List.set_cons_zero, List.set_cons_succ] at hm; have o4 := Hidd.mk hm; have a4p := Hidd.mk (tk_pos htk a3p.out); have a4 := Hidd.mk (takes_snoc a3.out htk); have hvq3 := Hidd.mk (tk_lt hx.out htk); clear hm hn9 htk o3 a3p a3)
                | (go_at_call 84; have hq := o4.out; clear hq; refine (oneT_any p1 b (o4.out.get 3 rfl) (o4.out.get 4 rfl) a4p.out hn.out hx.out).mono ?_; rintro e w9 ⟨q4, T5, ev, rfl, htk, hn9⟩; have hm := o4.out.call 4 rfl hn9; simp only [List.set_cons_zero, List.set_cons_succ] at hm; have o5 := Hidd.mk hm; have a5p := Hidd.mk (tk_pos htk a4p.out); have a5 := Hidd.mk (takes_snoc a4.out htk); have hvq4 := Hidd.mk (tk_lt hx.out htk); clear hm hn9 htk o4 a4p a4))
            have aa := a5.out
            simp only [List.nil_append, List.cons_append] at aa
            replace aa := Hidd.mk aa
            have o6 := Hidd.mk (show Own w F _ (blk w9.heap.size (.cells (ptOf [q0, q1, q2, q3, q4]).cells.toArray 38 (0, 0)) :: _) from o5.out.alloc (.cells #[.int .i64 (q0 : Int), .int .i64 (q1 : Int), .int .i64 (q2 : Int), .int .i64 (q3 : Int), .int .i64 (q4 : Int), .int .u8 ((0 : Nat) : Int), .int .u8 ((0 : Nat) : Int), .int .u8 ((0 : Nat) : Int), .int .u8 ((0 : Nat) : Int)] 38))
            clear o5 a5
            generalize World.alloc w9 _ = WA at o6 ⊢
            generalize w9.heap.size = p11 at o6 ⊢
            go_wp2
            go_loopw [73] (fun v73 wz => ∃ (k : Nat) (vs : List Nat) (s' : RS) (ev' : Value), v73 = .int .i64 k ∧ k ≤ 4 ∧ Hidd (s'.p ≤ n) ∧ Hidd (vs.length = 5 + k) ∧ Hidd (takes xs n ([1, 4, 4, 1, 1] ++ List.replicate k 1) ⟨p, none⟩ = (vs, s')) ∧ Hidd (Own w F wz [blk p11 (.cells (ptOf vs).cells.toArray 38 (0, 0)), row 38 9 (.slice B i c) i (l.flatMap Pt.cells), blk p6 (.cells #[.int .i64 (h0 : Int), .int .i64 (h1 : Int), .int .i64 (h2 : Int), .int .i64 (h3 : Int), .int .i64 (h4 : Int), .int .i64 (h5 : Int), .int .i64 (h6 : Int), .int .i64 (h7 : Int), .slice B i c, .slice none 0 0, .slice none 0 0] 26 (0, 0)), blk p2 (.cells #[.int .i64 0, .int .i64 0, .int .i64 0, .int .i64 0, .int .i64 0, .int .i64 0, .int .i64 0, .int .i64 0, .slice none 0 0, .slice none 0 0, .slice none 0 0] 26 (0, 0)), blk p1 (.cells #[.pointer (some ⟨b, 0, none⟩)] 97 (0, 0)), rdr b A n cap xs s'.p s'.er ev'])) (fun v73 _ => 4 - (intOf v73).toNat)
            case atStart => exact ⟨0, [q0, q1, q2, q3, q4], T5, ev, rfl, by omega, a5p, ⟨rfl⟩, aa, o6⟩
            case round =>
              clear o6 aa a5p
              obtain ⟨k, vs, s', ev', rfl, hk4, a0p, hvl, a0, o0⟩ := hrel
              by_cases hk : k < 4
              · have bk0 : (0 : Int) ≤ (k : Int) := by omega
                have bk1 : (k : Int) < 4 := by omega
                go_wp2_with (go_at_call 84; have hq := o0.out; clear hq; refine (oneT_any p1 b (o0.out.get 4 rfl) (o0.out.get 5 rfl) a0p.out hn.out hx.out).mono ?_; rintro e w9 ⟨v, s2, ev, rfl, htk, hn9⟩; have hm := o0.out.call 5 rfl hn9; simp only [List.set_cons_zero, List.set_cons_succ] at hm; have o1 := Hidd.mk hm; have a1p := Hidd.mk (tk_pos htk a0p.out); have a1 := Hidd.mk (takes_snoc a0.out htk); have hvv := Hidd.mk (tk_lt hx.out htk); clear hm hn9 htk o0 a0p a0; have wv := (wrap8 v hvv.out).1; have ef := o1.out.frozen 0 rfl (5 + k); obtain ⟨uu, hu⟩ : ∃ u, w9.cell? ⟨p11, 5 + k, none⟩ = some u := ⟨_, (o1.out.cell 0 rfl (5 + k)).trans (Array.getElem?_eq_getElem (by rw [List.size_toArray, rec_len]; omega))⟩)
                have hs9 := o1.out.set 0 rfl (5 + k) (.int .u8 (v : Int))
                simp only [List.set_cons_zero, List.setIfInBounds_toArray] at hs9
                rw [rec_set vs k v hvl.out hk] at hs9
                have hend := Hidd.mk hs9
                clear hs9 o1 hu ef
                go_roundw
                case rel => exact ⟨k + 1, vs ++ [v], s2, ev, by go_num, by omega, a1p, ⟨by have := hvl.out; rw [List.length_append, List.length_singleton]; omega⟩, ⟨by rw [List.replicate_succ', ← List.append_assoc]; exact a1.out⟩, hend⟩
                case measure => (simp [intOf]; try omega)
              · obtain rfl : k = 4 := by omega
                have hst := ptsR_step (l := l) (R := ptsR xs n h8 S11) rfl (show takes xs n [1, 4, 4, 1, 1, 1, 1, 1, 1] ⟨p, none⟩ = (vs, s') from a0.out) (by rw [← hd]; exact hR.out)
                rw [show d = h8 - (i + 1) by omega] at hst
                replace hst := Hidd.mk hst
                obtain ⟨P, hPP⟩ : ∃ P, ptOf vs = P := ⟨_, rfl⟩
                rw [hPP] at o0 hst
                clear hPP a0 hvl hR
                obtain ⟨g0, g1, g2, g3, g4, g5, g6, g7, g8⟩ := P
                have o1 := Hidd.mk (show Own w F _ (blk p11 (.cells #[.int .i64 g0, .int .i64 g1, .int .i64 g2, .int .i64 g3, .int .i64 g4, .int .u8 (g5 : Int), .int .u8 (g6 : Int), .int .u8 (g7 : Int), .int .u8 (g8 : Int)] 38 (0, 0)) :: _) from o0.out)
                clear o0
                have e0 := o1.out.cell 0 rfl 0
                have e1 := o1.out.cell 0 rfl 1
                have e2 := o1.out.cell 0 rfl 2
                have e3 := o1.out.cell 0 rfl 3
                have e4 := o1.out.cell 0 rfl 4
                have e5 := o1.out.cell 0 rfl 5
                have e6 := o1.out.cell 0 rfl 6
                have e7 := o1.out.cell 0 rfl 7
                have e8 := o1.out.cell 0 rfl 8
                simp at e0 e1 e2 e3 e4 e5 e6 e7 e8
                have y8 := o1.out.cell 2 rfl 8
                simp at y8
                go_wp2_with (at_builtin; refine wpList_row rfl _ _ 22 rfl 38 iP (.agg #[.int .i64 0, .int .i64 0, .int .i64 0, .int .i64 0, .int .i64 0, .int .u8 0, .int .u8 0, .int .u8 0, .int .u8 0]) 9 48 (by rfl) hIP.out.1 hIP.out.2.1 hIP.out.2.2.1 hIP.out.2.2.2 (by rfl) (by decide) (o1.out.alloc _) 2 B i c _ rfl rfl _ 1 1 (Pt.cells ⟨g0, g1, g2, g3, g4, g5, g6, g7, g8⟩) rfl rfl (Cells.new _ _ _ _ rfl) (by intro _ h; cases h) (pt_one _) (by unfold maxLen; omega) (by omega) ?_; intro A6 c6 w6 ho6; simp only [List.set_cons_zero, List.set_cons_succ] at ho6; clear e0 e1 e2 e3 e4 e5 e6 e7 e8 y8; have y8 := ho6.cell 3 rfl 8; have f8 := ho6.frozen 3 rfl 8; simp at y8; replace ho6 := Hidd.mk ho6)
                have hs9 := (ho6.out.set 3 rfl 8 (.slice A6 (i + 1) c6)).tail.tail
                simp only [List.set_cons_zero, List.set_cons_succ, List.setIfInBounds_toArray] at hs9
                rw [show l.flatMap Pt.cells ++ Pt.cells ⟨g0, g1, g2, g3, g4, g5, g6, g7, g8⟩ = (l ++ [(⟨g0, g1, g2, g3, g4, g5, g6, g7, g8⟩ : Pt)]).flatMap Pt.cells by simp [List.flatMap_append]] at hs9
                have hend := Hidd.mk hs9
                clear hs9 ho6 y8 f8 o1
                go_roundw
                case rel => exact ⟨i + 1, s', ev', A6, c6, l ++ [⟨g0, g1, g2, g3, g4, g5, g6, g7, g8⟩], by go_num, by omega, a0p, ⟨by rw [List.length_append, hll.out]; rfl⟩, hst, hend⟩
                case measure => (simp [intOf]; try omega)
          · have hRT : ptsR xs n h8 S11 = (l, ⟨p, er⟩) := by
              rw [hR.out]
              by_cases hlt : i < h8
              · have her : er.isSome = true := by
                  rw [decide_eq_true hlt, Bool.true_and] at hCC
                  cases er
                  · cases hCC
                  · rfl
                rw [ptsR_err _ _ _ ⟨p, er⟩ her]
                simp
              · rw [show h8 - i = 0 by omega, ptsR_zero]
                simp
            rw [hRT] at hr2
            simp only at hr2
            clear hR hRT hCC hil
            obtain ⟨n1, rfl⟩ : ∃ n1, n1 = i := ⟨_, rfl⟩
            obtain ⟨B1, rfl⟩ : ∃ B1, B1 = B := ⟨_, rfl⟩
            obtain ⟨c1, rfl⟩ : ∃ c1, c1 = c := ⟨_, rfl⟩
            obtain ⟨l1, rfl⟩ : ∃ l1, l1 = l := ⟨_, rfl⟩
            have hll1 := hll
            clear hll
            obtain ⟨S2, hS2⟩ : ∃ S2 : RS, S2 = ⟨p, er⟩ := ⟨_, rfl⟩
            rw [← hS2] at hr2
            have o12 := Hidd.mk (row_nil ho.out 44 6)
            replace o12 := Hidd.mk (show Own w F _ (_ :: _ :: _ :: _ :: _ :: rdr b A n cap xs S2.p S2.er ev :: []) by rw [hS2]; exact o12.out)
            replace hpp := Hidd.mk (show S2.p ≤ n by rw [hS2]; exact hpp.out)
            clear ho hS2
            go_wp2
            go_loopw [13] (fun v13 wr => ∃ (j : Nat) (s : RS) (ev : Value) (B2 : Option Addr) (c2 : Nat) (l2 : List Qt), v13 = .int .i64 j ∧ j ≤ h9 ∧ Hidd (s.p ≤ n) ∧ Hidd (l2.length = j) ∧ Hidd (qtsR xs n h9 0 S2 = ((qtsR xs n (h9 - j) j s).1, l2 ++ (qtsR xs n (h9 - j) j s).2.1, (qtsR xs n (h9 - j) j s).2.2)) ∧ Hidd (Own w F wr [row 44 6 (.slice B2 j c2) j (l2.flatMap Qt.cells), row 38 9 (.slice B1 n1 c1) n1 (l1.flatMap Pt.cells), blk p6 (.cells #[.int .i64 (h0 : Int), .int .i64 (h1 : Int), .int .i64 (h2 : Int), .int .i64 (h3 : Int), .int .i64 (h4 : Int), .int .i64 (h5 : Int), .int .i64 (h6 : Int), .int .i64 (h7 : Int), .slice B1 n1 c1, .slice B2 j c2, .slice none 0 0] 26 (0, 0)), blk p2 (.cells #[.int .i64 0, .int .i64 0, .int .i64 0, .int .i64 0, .int .i64 0, .int .i64 0, .int .i64 0, .int .i64 0, .slice none 0 0, .slice none 0 0, .slice none 0 0] 26 (0, 0)), blk p1 (.cells #[.pointer (some ⟨b, 0, none⟩)] 97 (0, 0)), rdr b A n cap xs s.p s.er ev])) (fun v13 _ => h9 - (intOf v13).toNat)
            case atStart => exact ⟨0, S2, ev, none, 0, [], rfl, Nat.zero_le _, hpp, ⟨rfl⟩, ⟨rfl⟩, o12⟩
            case round =>
              clear o12 hpp
              obtain ⟨i, s, ev, B, c, l, rfl, hil, hpp, hll, hR, ho⟩ := hrel
              obtain ⟨p, er⟩ := s
              have c0 := ho.out.cell 4 rfl 0
              simp at c0
              go_upto_region 18 with fail
              go_cut [96] (fun v96 wx => v96 = .bool (decide (i < h9) && er.isNone) ∧ wx = wr)
              case first =>
                by_cases hlt : i < h9
                · have dl : decide ((i : Int) < (h9 : Int)) = true := decide_eq_true (by omega)
                  rcases er with _ | q
                  · obtain rfl := ev_none (ho.out.get 5 rfl)
                    go_wp2_with (go_at_call 87; refine (errT_any (s := ⟨p, none⟩) b (ho.out.get 5 rfl)).mono ?_; rintro e w' ⟨rfl, rfl⟩)
                    go_meet
                    case rel => exact ⟨by simp [hlt], rfl⟩
                  · obtain ⟨eb, rfl⟩ := ev_some (ho.out.get 5 rfl)
                    go_wp2_with (go_at_call 87; refine (errT_any (s := ⟨p, some q⟩) b (ho.out.get 5 rfl)).mono ?_; rintro e w' ⟨rfl, rfl⟩)
                    go_meet
                    case rel => exact ⟨by simp, rfl⟩
                · have dl : decide ((i : Int) < (h9 : Int)) = false := decide_eq_false (by omega)
                  go_wp2_with fail
                  go_meet
                  case rel => exact ⟨by simp [hlt], rfl⟩
              case rest =>
                obtain ⟨rfl, rfl⟩ := hcut
                obtain ⟨CC, hCC⟩ : ∃ CC, (decide (i < h9) && er.isNone) = CC := ⟨_, rfl⟩
                rw [hCC]
                clear c0
                rcases CC with _ | _
                rotate_left
                · rw [Bool.and_eq_true, decide_eq_true_eq, Option.isNone_iff_eq_none] at hCC
                  obtain ⟨hlt, rfl⟩ := hCC
                  obtain ⟨d, hd⟩ : ∃ d, h9 - i = d + 1 := ⟨h9 - i - 1, by omega⟩
                  have o0 := ho
                  have a0 := Hidd.mk (rfl : takes xs n [] ⟨p, none⟩ = ([], ⟨p, none⟩))
                  have a0p := hpp
                  clear ho hpp
                  go_upto_region 22 with (first
                      | (go_at_call 84; have hq := o0.out; clear hq; refine (oneT_any p1 b (o0.out.get 4 rfl) (o0.out.get 5 rfl) a0p.out hn.out hx.out).mono ?_; rintro e w9 ⟨q0, T1, ev, rfl, htk, hn9⟩; have hm := o0.out.call 5 rfl hn9; simp only [List.set_cons_zero, List.set_cons_succ] at hm; have o1 := Hidd.mk hm; have a1p := Hidd.mk (tk_pos htk a0p.out); have a1 := Hidd.mk (takes_snoc a0.out htk); have hvq0 := Hidd.mk (tk_lt hx.out htk); clear hm hn9 htk o0 a0p a0)
                      | (go_at_call 84; have hq := o1.out; clear hq; refine (oneT_any p1 b (o1.out.get 4 rfl) (o1.out.get 5 rfl) a1p.out hn.out hx.out).mono ?_; rintro e w9 ⟨q1, T2, ev, rfl, htk, hn9⟩; have hm := o1.out.call 5 rfl hn9; simp only [List.set_cons_zero, List.set_cons_succ] at hm; have o2 := Hidd.mk hm; have a2p := Hidd.mk (tk_pos htk a1p.out); have a2 := Hidd.mk (takes_snoc a1.out htk); have hvq1 := Hidd.mk (tk_lt hx.out htk); clear hm hn9 htk o1 a1p a1; have wv := (wrap8 q1 hvq1.out).1; have o2a := Hidd.mk (o2.out.alloc (.cells #[.int .i64 (q0 : Int), .int .u8 (q1 : Int), .bool false, .int .i64 0, .int .i64 0, .int .i64 0] 44)); clear o2)
                      | (go_at_call 84; have hq := o2a.out; clear hq; refine (oneT_any p1 b (o2a.out.get 5 rfl) (o2a.out.get 6 rfl) a2p.out hn.out hx.out).mono ?_; rintro e w9 ⟨q2, T3, ev, rfl, htk, hn9⟩; have hm := o2a.out.call 6 rfl hn9; simp only [List.set_cons_zero, List.set_cons_succ] at hm; have o3 := Hidd.mk hm; have a3p := Hidd.mk (tk_pos htk a2p.out); have a3 := Hidd.mk (takes_snoc a2.out htk); have hvq2 := Hidd.mk (tk_lt hx.out htk); clear hm hn9 htk o2a a2p a2))
                  have aa := a3.out
                  simp only [List.nil_append, List.cons_append] at aa
                  replace aa := Hidd.mk aa
                  generalize (World.heap _).size = p14 at o3 ⊢
                  have c0 := o3.out.cell 5 rfl 0
                  simp at c0
                  obtain ⟨W3, hW3⟩ : ∃ W3, W3 = w9 := ⟨_, rfl⟩
                  rw [← hW3] at o3 c0 ⊢
                  clear hW3
                  go_cut [113] (fun v113 wx => v113 = .bool (decide (1 < q2) && T3.er.isNone) ∧ wx = W3)
                  case first =>
                    obtain ⟨tp, te⟩ := T3
                    by_cases hq : 1 < q2
                    · have dq : decide ((1 : Int) < (q2 : Int)) = true := decide_eq_true (by omega)
                      rcases te with _ | q
                      · obtain rfl := ev_none (o3.out.get 6 rfl)
                        go_wp2_with (go_at_call 87; refine (errT_any (s := ⟨tp, none⟩) b (o3.out.get 6 rfl)).mono ?_; rintro e w' ⟨rfl, rfl⟩)
                        go_meet
                        case rel => exact ⟨by simp [hq], rfl⟩
                      · obtain ⟨eb, rfl⟩ := ev_some (o3.out.get 6 rfl)
                        go_wp2_with (go_at_call 87; refine (errT_any (s := ⟨tp, some q⟩) b (o3.out.get 6 rfl)).mono ?_; rintro e w' ⟨rfl, rfl⟩)
                        go_meet
                        case rel => exact ⟨by simp, rfl⟩
                    · have dq : decide ((1 : Int) < (q2 : Int)) = false := decide_eq_false (by omega)
                      go_wp2_with fail
                      go_meet
                      case rel => exact ⟨by simp [hq], rfl⟩
                  case rest =>
                    obtain ⟨rfl, rfl⟩ := hcut
                    obtain ⟨CC, hCC⟩ : ∃ CC, (decide (1 < q2) && T3.er.isNone) = CC := ⟨_, rfl⟩
                    rw [hCC]
                    clear c0
                    rcases CC with _ | _
                    rotate_left
                    · obtain ⟨tp, te⟩ := T3
                      rw [Bool.and_eq_true, decide_eq_true_eq, Option.isNone_iff_eq_none] at hCC
                      obtain ⟨hq, rfl⟩ : 1 < q2 ∧ te = none := hCC
                      replace hCC : 1 < q2 ∧ True := ⟨hq, trivial⟩
                      rw [hd] at hR
                      have hreq : Hidd (⟨some (8, (i : Int)), [], [], [], [], ⟨tp, none⟩⟩ = r) := ⟨by
                        rw [← hr2.out, hR.out, qtsR_bad rfl aa.out (by unfold badOut; simp [hCC.1])]
                        rfl⟩
                      go_wp2_with (go_at_call 52; refine (newFault_any 8 (i : Int) _ (by decide) (by omega)).mono ?_; rintro e w8 ⟨vv, rfl, hn8, bb, rfl⟩; have hz8 := Hidd.mk (o3.out.made hn8); clear hn8; obtain ⟨x0, x1, x2, x3, x4, x5, x6, x7, x8, x9, xA⟩ := cells11 hz8.out 5 rfl; have fz0 := hz8.out.frozen 5 rfl 0; have fz1 := hz8.out.frozen 5 rfl 1; have fz2 := hz8.out.frozen 5 rfl 2; have fz3 := hz8.out.frozen 5 rfl 3; have fz4 := hz8.out.frozen 5 rfl 4; have fz5 := hz8.out.frozen 5 rfl 5; have fz6 := hz8.out.frozen 5 rfl 6; have fz7 := hz8.out.frozen 5 rfl 7; have fz8 := hz8.out.frozen 5 rfl 8; have fz9 := hz8.out.frozen 5 rfl 9; have fz10 := hz8.out.frozen 5 rfl 10)
                      have hz9 := (((((((((((hz8.out.set 5 rfl 0 (.int .i64 0)).set 5 rfl 1 (.int .i64 0)).set 5 rfl 2 (.int .i64 0)).set 5 rfl 3 (.int .i64 0)).set 5 rfl 4 (.int .i64 0)).set 5 rfl 5 (.int .i64 0)).set 5 rfl 6 (.int .i64 0)).set 5 rfl 7 (.int .i64 0)).set 5 rfl 8 (.slice none 0 0)).set 5 rfl 9 (.slice none 0 0)).set 5 rfl 10 (.slice none 0 0))
                      simp only [List.set_cons_zero, List.set_cons_succ, List.setIfInBounds_toArray] at hz9
                      clear hz8 o3 x0 x1 x2 x3 x4 x5 x6 x7 x8 x9 xA fz0 fz1 fz2 fz3 fz4 fz5 fz6 fz7 fz8 fz9 fz10
                      generalize World.setCell _ _ _ = WZ at hz9 ⊢
                      replace hz9 := Hidd.mk hz9
                      obtain ⟨x0, x1, x2, x3, x4, x5, x6, x7, x8, x9, xA⟩ := cells11 hz9.out 5 rfl
                      refine bodyPost_ret (v := .tuple #[.agg #[.int .i64 0, .int .i64 0, .int .i64 0, .int .i64 0, .int .i64 0, .int .i64 0, .int .i64 0, .int .i64 0, .slice none 0 0, .slice none 0 0, .slice none 0 0], .iface 77 (.pointer (some ⟨bb, 0, none⟩))]) (by simp [results, Try.results71, go_sem, x0, x1, x2, x3, x4, x5, x6, x7, x8, x9, xA]) rfl ?_
                      rw [← hreq.out]
                      exact ⟨fun q hq => by
                        injection hq with hq
                        subst hq
                        exact ⟨_, _, rfl, ⟨_, rfl⟩, hz9.out.get 0 rfl, hz9.out.reorder (M := [_]) [7] rfl (by decide)⟩, fun h => by cases h⟩
                    · have d2 : ((q2 : Int) == 1) = decide (q2 = 1) := by
                        rw [Bool.eq_iff_iff, beq_iff_eq, decide_eq_true_eq]
                        omega
                      go_upto_region 25 with (first
                          | (go_at_call 84; have hq := o3.out; clear hq; refine (oneT_any p1 b (o3.out.get 5 rfl) (o3.out.get 6 rfl) a3p.out hn.out hx.out).mono ?_; rintro e w9 ⟨q3, T4, ev, rfl, htk, hn9⟩; have hm := o3.out.call 6 rfl hn9; simp only [List.set_cons_zero, List.set_cons_succ] at hm; have o4 := Hidd.mk hm; have a4p := Hidd.mk (tk_pos htk a3p.out); have a4 := Hidd.mk (takes_snoc a3.out htk); have hvq3 := Hidd.mk (tk_lt hx.out htk); clear hm hn9 htk o3 a3p a3)
                          | (go_at_call 84; have hq := o4.out; clear hq; refine (oneT_any p1 b (o4.out.get 5 rfl) (o4.out.get 6 rfl) a4p.out hn.out hx.out).mono ?_; rintro e w9 ⟨q4, T5, ev, rfl, htk, hn9⟩; have hm := o4.out.call 6 rfl hn9; simp only [List.set_cons_zero, List.set_cons_succ] at hm; have o5 := Hidd.mk hm; have a5p := Hidd.mk (tk_pos htk a4p.out); have a5 := Hidd.mk (takes_snoc a4.out htk); have hvq4 := Hidd.mk (tk_lt hx.out htk); clear hm hn9 htk o4 a4p a4)
                          | (go_at_call 84; have hq := o5.out; clear hq; refine (oneT_any p1 b (o5.out.get 5 rfl) (o5.out.get 6 rfl) a5p.out hn.out hx.out).mono ?_; rintro e w9 ⟨q5, T6, ev, rfl, htk, hn9⟩; have hm := o5.out.call 6 rfl hn9; simp only [List.set_cons_zero, List.set_cons_succ] at hm; have o6 := Hidd.mk hm; have a6p := Hidd.mk (tk_pos htk a5p.out); have a6 := Hidd.mk (takes_snoc a5.out htk); have hvq5 := Hidd.mk (tk_lt hx.out htk); clear hm hn9 htk o5 a5p a5; have z2 := o6.out.cell 0 rfl 2; have z3 := o6.out.cell 0 rfl 3; have z4 := o6.out.cell 0 rfl 4; have z5 := o6.out.cell 0 rfl 5; have g2 := o6.out.frozen 0 rfl 2; have g3 := o6.out.frozen 0 rfl 3; have g4 := o6.out.frozen 0 rfl 4; have g5 := o6.out.frozen 0 rfl 5; simp at z2 z3 z4 z5))
                      have aq := a6.out
                      have hbad : badOut ([q0, q1, q2], T3) = false := by
                        unfold badOut
                        rw [Bool.and_comm]
                        exact hCC
                      simp only [List.nil_append, List.cons_append] at aq
                      have hst := qtsR_step (l := l) (R := qtsR xs n h9 0 S2) rfl aa.out hbad aq (by rw [← hd]; exact hR.out)
                      rw [show d = h9 - (i + 1) by omega] at hst
                      replace hst := Hidd.mk hst
                      have hs6 := (((o6.out.set 0 rfl 2 (.bool (decide (q2 = 1)))).set 0 rfl 3 (.int .i64 (q3 : Int))).set 0 rfl 4 (.int .i64 (q4 : Int))).set 0 rfl 5 (.int .i64 (q5 : Int))
                      simp only [List.set_cons_zero, List.set_cons_succ, List.setIfInBounds_toArray] at hs6
                      clear o6 z2 z3 z4 z5 g2 g3 g4 g5 aq a6 aa hbad hR
                      generalize World.setCell _ _ _ = WB at hs6 ⊢
                      have o7 := Hidd.mk hs6
                      clear hs6 d2
                      have hqo : qtOf [q0, q1, q2, q3, q4, q5] = ⟨(q0 : Int), q1, decide (q2 = 1), (q3 : Int), (q4 : Int), (q5 : Int)⟩ := rfl
                      rw [hqo] at hst
                      clear hqo
                      generalize decide (q2 = 1) = qb at o7 hst ⊢
                      have e0 := o7.out.cell 0 rfl 0
                      have e1 := o7.out.cell 0 rfl 1
                      have e2 := o7.out.cell 0 rfl 2
                      have e3 := o7.out.cell 0 rfl 3
                      have e4 := o7.out.cell 0 rfl 4
                      have e5 := o7.out.cell 0 rfl 5
                      simp at e0 e1 e2 e3 e4 e5
                      have y8 := o7.out.cell 3 rfl 9
                      simp at y8
                      go_wp2_with (at_builtin; refine wpList_row rfl _ _ 23 rfl 44 iQ (.agg #[.int .i64 0, .int .u8 0, .bool false, .int .i64 0, .int .i64 0, .int .i64 0]) 6 40 (by rfl) hIQ.out.1 hIQ.out.2.1 hIQ.out.2.2.1 hIQ.out.2.2.2 (by rfl) (by decide) (o7.out.alloc _) 2 B i c _ rfl rfl _ 1 1 (Qt.cells ⟨(q0 : Int), q1, qb, (q3 : Int), (q4 : Int), (q5 : Int)⟩) rfl rfl (Cells.new _ _ _ _ rfl) (by intro _ h; cases h) (qt_one _) (by unfold maxLen; omega) (by omega) ?_; intro A6 c6 w6 ho6; simp only [List.set_cons_zero, List.set_cons_succ] at ho6; clear e0 e1 e2 e3 e4 e5 y8; have y8 := ho6.cell 4 rfl 9; have f8 := ho6.frozen 4 rfl 9; simp at y8; replace ho6 := Hidd.mk ho6)
                      have hs9 := (ho6.out.set 4 rfl 9 (.slice A6 (i + 1) c6)).tail.tail
                      simp only [List.set_cons_zero, List.set_cons_succ, List.setIfInBounds_toArray] at hs9
                      rw [show l.flatMap Qt.cells ++ Qt.cells ⟨(q0 : Int), q1, qb, (q3 : Int), (q4 : Int), (q5 : Int)⟩ = (l ++ [(⟨(q0 : Int), q1, qb, (q3 : Int), (q4 : Int), (q5 : Int)⟩ : Qt)]).flatMap Qt.cells by simp [List.flatMap_append]] at hs9
                      have hend := Hidd.mk hs9
                      clear hs9 ho6 y8 f8 o7
                      go_roundw
                      case rel => exact ⟨i + 1, T6, ev, A6, c6, l ++ [⟨(q0 : Int), q1, qb, (q3 : Int), (q4 : Int), (q5 : Int)⟩], by go_num, by omega, a6p, ⟨by rw [List.length_append, hll.out]; rfl⟩, hst, hend⟩
                      case measure => (simp [intOf]; try omega)
                · have hRT : qtsR xs n h9 0 S2 = (none, l, ⟨p, er⟩) := by
                    rw [hR.out]
                    by_cases hlt : i < h9
                    · have her : er.isSome = true := by
                        rw [decide_eq_true hlt, Bool.true_and] at hCC
                        cases er
                        · cases hCC
                        · rfl
                      rw [qtsR_err _ _ _ _ ⟨p, er⟩ her]
                      simp
                    · rw [show h9 - i = 0 by omega, show qtsR xs n 0 i ⟨p, er⟩ = (none, [], ⟨p, er⟩) from rfl]
                      simp
                  rw [hRT] at hr2
                  replace hr2 := Hidd.mk (show (⟨none, [h0, h1, h2, h3, h4, h5, h6, h7, h8, h9, h10], l1, l, (rtsR xs n h10 ⟨p, er⟩).1, (rtsR xs n h10 ⟨p, er⟩).2⟩ : Rd) = r from hr2.out)
                  clear hR hRT hCC hil
                  obtain ⟨S3, hS3⟩ : ∃ S3 : RS, S3 = ⟨p, er⟩ := ⟨_, rfl⟩
                  rw [← hS3] at hr2
                  have o12 := Hidd.mk (row_nil ho.out 41 2)
                  replace o12 := Hidd.mk (show Own w F _ (_ :: _ :: _ :: _ :: _ :: _ :: rdr b A n cap xs S3.p S3.er ev :: []) by rw [hS3]; exact o12.out)
                  replace hpp := Hidd.mk (show S3.p ≤ n by rw [hS3]; exact hpp.out)
                  clear ho hS3
                  go_wp2
                  obtain ⟨n2, rfl⟩ : ∃ n2, n2 = i := ⟨_, rfl⟩
                  obtain ⟨B2, rfl⟩ : ∃ B2, B2 = B := ⟨_, rfl⟩
                  obtain ⟨c2, rfl⟩ : ∃ c2, c2 = c := ⟨_, rfl⟩
                  obtain ⟨l2, rfl⟩ : ∃ l2, l2 = l := ⟨_, rfl⟩
                  have hll2 := hll
                  clear hll
                  go_loopw [16] (fun v16 wr => ∃ (k : Nat) (s : RS) (ev : Value) (B3 : Option Addr) (c3 : Nat) (l3 : List Rt), v16 = .int .i64 k ∧ k ≤ h10 ∧ Hidd (s.p ≤ n) ∧ Hidd (l3.length = k) ∧ Hidd (rtsR xs n h10 S3 = (l3 ++ (rtsR xs n (h10 - k) s).1, (rtsR xs n (h10 - k) s).2)) ∧ Hidd (Own w F wr [row 41 2 (.slice B3 k c3) k (l3.flatMap Rt.cells), row 44 6 (.slice B2 n2 c2) n2 (l2.flatMap Qt.cells), row 38 9 (.slice B1 n1 c1) n1 (l1.flatMap Pt.cells), blk p6 (.cells #[.int .i64 (h0 : Int), .int .i64 (h1 : Int), .int .i64 (h2 : Int), .int .i64 (h3 : Int), .int .i64 (h4 : Int), .int .i64 (h5 : Int), .int .i64 (h6 : Int), .int .i64 (h7 : Int), .slice B1 n1 c1, .slice B2 n2 c2, .slice B3 k c3] 26 (0, 0)), blk p2 (.cells #[.int .i64 0, .int .i64 0, .int .i64 0, .int .i64 0, .int .i64 0, .int .i64 0, .int .i64 0, .int .i64 0, .slice none 0 0, .slice none 0 0, .slice none 0 0] 26 (0, 0)), blk p1 (.cells #[.pointer (some ⟨b, 0, none⟩)] 97 (0, 0)), rdr b A n cap xs s.p s.er ev])) (fun v16 _ => h10 - (intOf v16).toNat)
                  case atStart => exact ⟨0, S3, ev, none, 0, [], rfl, Nat.zero_le _, hpp, ⟨rfl⟩, ⟨rfl⟩, o12⟩
                  case round =>
                    clear o12 hpp
                    obtain ⟨i, s, ev, B, c, l, rfl, hil, hpp, hll, hR, ho⟩ := hrel
                    obtain ⟨p, er⟩ := s
                    have c0 := ho.out.cell 5 rfl 0
                    simp at c0
                    go_upto_region 27 with fail
                    go_cut [142] (fun v142 wx => v142 = .bool (decide (i < h10) && er.isNone) ∧ wx = wr)
                    case first =>
                      by_cases hlt : i < h10
                      · have dl : decide ((i : Int) < (h10 : Int)) = true := decide_eq_true (by omega)
                        rcases er with _ | q
                        · obtain rfl := ev_none (ho.out.get 6 rfl)
                          go_wp2_with (go_at_call 87; refine (errT_any (s := ⟨p, none⟩) b (ho.out.get 6 rfl)).mono ?_; rintro e w' ⟨rfl, rfl⟩)
                          go_meet
                          case rel => exact ⟨by simp [hlt], rfl⟩
                        · obtain ⟨eb, rfl⟩ := ev_some (ho.out.get 6 rfl)
                          go_wp2_with (go_at_call 87; refine (errT_any (s := ⟨p, some q⟩) b (ho.out.get 6 rfl)).mono ?_; rintro e w' ⟨rfl, rfl⟩)
                          go_meet
                          case rel => exact ⟨by simp, rfl⟩
                      · have dl : decide ((i : Int) < (h10 : Int)) = false := decide_eq_false (by omega)
                        go_wp2_with fail
                        go_meet
                        case rel => exact ⟨by simp [hlt], rfl⟩
                    case rest =>
                      obtain ⟨rfl, hw0⟩ := hcut
                      obtain rfl : wr = _ := hw0.symm
                      obtain ⟨CC, hCC⟩ : ∃ CC, (decide (i < h10) && er.isNone) = CC := ⟨_, rfl⟩
                      rw [hCC]
                      clear c0
                      rcases CC with _ | _
                      rotate_left
                      · rw [Bool.and_eq_true, decide_eq_true_eq, Option.isNone_iff_eq_none] at hCC
                        obtain ⟨hlt, rfl⟩ := hCC
                        obtain ⟨d, hd⟩ : ∃ d, h10 - i = d + 1 := ⟨h10 - i - 1, by omega⟩
                        have a0 := Hidd.mk (rfl : takes xs n [] ⟨p, none⟩ = ([], ⟨p, none⟩))
                        have a0p := hpp
                        clear hpp
                        go_upto_region 29 with fail
                        obtain ⟨W3, hW3⟩ : ∃ W3, W3 = wr := ⟨_, rfl⟩
                        rw [← hW3] at ho ⊢
                        clear hW3
                        obtain ⟨W0, hW0⟩ : ∃ zz, zz = World.drew W3 := ⟨_, rfl⟩
                        refine wp_region_flow [([0, 2, 4, 1], some (3, [true])), ([], some (5, [false, true])), ([6], some (7, [false, false, true])), ([], some (8, [false, false, false, false])), ([9], some (10, [false, false, false, false, false]))] (by kernel_rfl) (by kernel_rfl) ?_
                        rw [show ({ W3 with drawn := W3.drawn + 1 } : World) = W0 from hW0.symm]
                        replace hW0 := Hidd.mk hW0
                        simp only [opsF, List.map_cons, List.map_nil, List.getD_cons_succ, List.getD_cons_zero, Option.map]
                        have o1 := Hidd.mk (show Own w F W0 [row 41 2 (.slice B i c) i (l.flatMap Rt.cells), row 44 6 (.slice B2 n2 c2) n2 (l2.flatMap Qt.cells), row 38 9 (.slice B1 n1 c1) n1 (l1.flatMap Pt.cells), blk p6 (.cells #[.int .i64 (h0 : Int), .int .i64 (h1 : Int), .int .i64 (h2 : Int), .int .i64 (h3 : Int), .int .i64 (h4 : Int), .int .i64 (h5 : Int), .int .i64 (h6 : Int), .int .i64 (h7 : Int), .slice B1 n1 c1, .slice B2 n2 c2, .slice B i c] 26 (0, 0)), blk p2 (.cells #[.int .i64 0, .int .i64 0, .int .i64 0, .int .i64 0, .int .i64 0, .int .i64 0, .int .i64 0, .int .i64 0, .slice none 0 0, .slice none 0 0, .slice none 0 0] 26 (0, 0)), blk p1 (.cells #[.pointer (some ⟨b, 0, none⟩)] 97 (0, 0)), rdr b A n cap xs p none ev] by rw [hW0.out]; exact ho.out.drew)
                        clear hW0 ho
                        have y10 := o1.out.cell 3 rfl 10
                        simp at y10
                        have h6l := o1.out.lt 3 rfl
                        obtain ⟨T, hT⟩ : ∃ T : Nat → Prop, T = (rdr b A n cap xs p none ev).foot := ⟨_, rfl⟩
                        have hTp : ¬ T p6 := by rw [hT]; exact fun e => o1.out.apart 3 6 rfl rfl (by omega) p6 rfl e
                        replace hT := Hidd.mk hT
                        refine FlW.stage (fun zz => Kept T W0 zz) (Kept.refl _ _) ?_
                        repeat (first | (refine StQ.skip (by rfl) ?_; simp only [Act.put, List.setIfInBounds_toArray, List.set_cons_zero, List.set_cons_succ]) | (refine StQ.go' (by rfl) (Exists.intro ?_ (And.intro (fun w' hS => ?_) ?_)); rotate_left; (focus (have hc := Kept.cellAt hS; go_simp; try with_reducible rfl)); simp only [Act.put, List.setIfInBounds_toArray, List.set_cons_zero, List.set_cons_succ]))
                        refine StQ.nil ?_
                        refine FlO.go (by rfl) (fun K hK => ?_)
                        go_simp
                        (refine (oneT_any (s := ⟨p, none⟩) p1 b (o1.out.get 5 rfl) (o1.out.get 6 rfl) a0p.out hn.out hx.out).mono ?_; rintro e w5 ⟨r0, U1, ev1, rfl, htk, hn5⟩; have hm := o1.out.call 6 rfl hn5; simp only [List.set_cons_zero, List.set_cons_succ] at hm; have o2 := Hidd.mk hm; clear hm)
                        refine hK.out _ _ (.inr ⟨by rw [hT.out]; exact hn5.kept, trivial⟩) ?_
                        clear hK K
                        have a1p := Hidd.mk (tk_pos htk a0p.out)
                        have a1 := Hidd.mk (takes_snoc a0.out htk)
                        clear htk a0
                        refine FlW.stage (fun _ => True) trivial (StQ.nil ?_)
                        refine FlO.go (by rfl) (fun K hK => ?_)
                        go_simp
                        (refine (oneT_any (s := U1) p1 b (o2.out.get 5 rfl) (o2.out.get 6 rfl) a1p.out hn.out hx.out).mono ?_; rintro e w6 ⟨r1, U2, ev2, rfl, htk, hn6⟩; have hm := o2.out.call 6 rfl hn6; simp only [List.set_cons_zero, List.set_cons_succ] at hm; have o3 := Hidd.mk hm; clear hm; have hK6 := hn5.kept.trans' hn6.kept (fun i hi h => (hn5.own _ (List.mem_singleton.2 rfl) i h).resolve_right (by omega)))
                        refine hK.out _ _ (.inr ⟨by rw [hT.out]; exact hK6, trivial⟩) ?_
                        clear hK K
                        have a2p := Hidd.mk (tk_pos htk a1p.out)
                        have a2 := Hidd.mk (takes_snoc a1.out htk)
                        replace hK6 := Hidd.mk hK6
                        clear htk a1 hn5 hn6 o1 o2 y10
                        have y10 := o3.out.cell 3 rfl 10
                        simp at y10
                        refine FlW.stage (fun zz => zz = _) rfl ?_
                        repeat (first | (refine StQ.skip (by rfl) ?_; simp only [Act.put, List.setIfInBounds_toArray, List.set_cons_zero, List.set_cons_succ]) | (refine StQ.go' (by rfl) (Exists.intro ?_ (And.intro (fun w' hS => ?_) ?_)); rotate_left; (focus (rw [hS]; go_simp; try with_reducible rfl)); simp only [Act.put, List.setIfInBounds_toArray, List.set_cons_zero, List.set_cons_succ]))
                        refine StQ.nil ?_
                        refine FlO.go (by rfl) (fun K hK => ?_); go_simp; refine hK.out _ _ (.inr ⟨by rw [hT.out]; exact hK6.out.trans (Kept.alloc _ _ _), trivial⟩) ?_; clear hK K
                        refine FlW.stage (fun _ => True) trivial (StQ.nil ?_)
                        refine FlO.go (by rfl) (fun K hK => ?_)
                        (refine wp_row _ _ 24 rfl 41 iT (.agg #[.int .i64 0, .int .i64 0]) 2 16 (by rfl) hIT.out.1 hIT.out.2.1 hIT.out.2.2.1 hIT.out.2.2.2 (by rfl) (by decide) (o3.out.alloc (.cells #[.int .i64 (r0 : Int), .int .i64 (r1 : Int)] 41)) 1 B i c (l.flatMap Rt.cells) rfl rfl _ 1 1 (Rt.cells ⟨(r0 : Int), (r1 : Int)⟩) rfl rfl (Cells.new _ _ _ _ rfl) (by intro _ h; cases h) (rt_one _) (by unfold maxLen; omega) (by omega) ?_; intro A6 c6 w7 ho6 hk6)
                        refine hK.out _ _ (.inr trivial) ?_
                        clear hK K
                        simp only [List.set_cons_zero, List.set_cons_succ] at ho6
                        clear y10
                        have y8 := ho6.cell 4 rfl 10
                        have f8 := ho6.frozen 4 rfl 10
                        simp at y8
                        have hst := rtsR_step (l := l) (R := rtsR xs n h10 S3) rfl (show takes xs n [1, 1] ⟨p, none⟩ = ([r0, r1], U2) from a2.out) (by rw [← hd]; exact hR.out)
                        rw [show d = h10 - (i + 1) by omega, show rtOf [r0, r1] = ⟨(r0 : Int), (r1 : Int)⟩ from rfl] at hst
                        replace hst := Hidd.mk hst
                        have hs9 := (ho6.set 4 rfl 10 (.slice A6 (i + 1) c6)).tail
                        simp only [List.set_cons_zero, List.set_cons_succ, List.setIfInBounds_toArray] at hs9
                        rw [show l.flatMap Rt.cells ++ Rt.cells ⟨(r0 : Int), (r1 : Int)⟩ = (l ++ [(⟨(r0 : Int), (r1 : Int)⟩ : Rt)]).flatMap Rt.cells by simp [List.flatMap_append]] at hs9
                        have hend := Hidd.mk hs9
                        clear hs9 ho6 o3 hk6 hR a2 a0p a1p hK6 hTp hT
                        refine FlW.stage (fun zz => zz = _) rfl ?_
                        repeat (first | (refine StQ.skip (by rfl) ?_; simp only [Act.put, List.setIfInBounds_toArray, List.set_cons_zero, List.set_cons_succ]) | (refine StQ.go' (by rfl) (Exists.intro ?_ (And.intro (fun w' hS => ?_) ?_)); rotate_left; (focus (rw [hS]; go_simp; try with_reducible rfl)); simp only [Act.put, List.setIfInBounds_toArray, List.set_cons_zero, List.set_cons_succ]))
                        refine StQ.nil ?_
                        refine FlO.go (by rfl) (fun K hK => ?_); go_simp; refine hK.out _ _ (.inr trivial) ?_; clear hK K
                        refine FlW.nil (Calm.normal ?_)
                        go_wp2
                        go_roundw
                        case rel => exact ⟨i + 1, U2, ev2, A6, c6, l ++ [⟨(r0 : Int), (r1 : Int)⟩], by go_num, by omega, a2p, ⟨by rw [List.length_append, hll.out]; rfl⟩, hst, hend⟩
                        case measure => (simp [intOf]; try omega)
                      · have hRT : rtsR xs n h10 S3 = (l, ⟨p, er⟩) := by
                          rw [hR.out]
                          by_cases hlt : i < h10
                          · have her : er.isSome = true := by
                              rw [decide_eq_true hlt, Bool.true_and] at hCC
                              cases er
                              · cases hCC
                              · rfl
                            rw [rtsR_err _ _ _ ⟨p, er⟩ her]
                            simp
                          · rw [show h10 - i = 0 by omega, show rtsR xs n 0 ⟨p, er⟩ = ([], ⟨p, er⟩) from rfl]
                            simp
                        rw [hRT] at hr2
                        replace hr2 := Hidd.mk (show (⟨none, [h0, h1, h2, h3, h4, h5, h6, h7, h8, h9, h10], l1, l2, l, ⟨p, er⟩⟩ : Rd) = r from hr2.out)
                        clear hR hRT hCC hil hpp
                        replace ho := Hidd.mk (show Own w F _ [row 41 2 (.slice B i c) i (l.flatMap Rt.cells), row 44 6 (.slice B2 n2 c2) n2 (l2.flatMap Qt.cells), row 38 9 (.slice B1 n1 c1) n1 (l1.flatMap Pt.cells), blk p6 (.cells #[.int .i64 (h0 : Int), .int .i64 (h1 : Int), .int .i64 (h2 : Int), .int .i64 (h3 : Int), .int .i64 (h4 : Int), .int .i64 (h5 : Int), .int .i64 (h6 : Int), .int .i64 (h7 : Int), .slice B1 n1 c1, .slice B2 n2 c2, .slice B i c] 26 (0, 0)), blk p2 (.cells #[.int .i64 0, .int .i64 0, .int .i64 0, .int .i64 0, .int .i64 0, .int .i64 0, .int .i64 0, .int .i64 0, .slice none 0 0, .slice none 0 0, .slice none 0 0] 26 (0, 0)), blk p1 (.cells #[.pointer (some ⟨b, 0, none⟩)] 97 (0, 0)), rdr b A n cap xs p er ev] from ho.out)
                        obtain ⟨y0, y1, y2, y3, y4, y5, y6, y7, y8, y9, y10⟩ := cells11 ho.out 3 rfl
                        obtain ⟨x0, x1, x2, x3, x4, x5, x6, x7, x8, x9, xA⟩ := cells11 ho.out 4 rfl
                        have fz0 := ho.out.frozen 4 rfl 0; have fz1 := ho.out.frozen 4 rfl 1; have fz2 := ho.out.frozen 4 rfl 2; have fz3 := ho.out.frozen 4 rfl 3; have fz4 := ho.out.frozen 4 rfl 4; have fz5 := ho.out.frozen 4 rfl 5; have fz6 := ho.out.frozen 4 rfl 6; have fz7 := ho.out.frozen 4 rfl 7; have fz8 := ho.out.frozen 4 rfl 8; have fz9 := ho.out.frozen 4 rfl 9; have fz10 := ho.out.frozen 4 rfl 10
                        have hz9 := (((((((((((ho.out.set 4 rfl 0 (.int .i64 (h0 : Int))).set 4 rfl 1 (.int .i64 (h1 : Int))).set 4 rfl 2 (.int .i64 (h2 : Int))).set 4 rfl 3 (.int .i64 (h3 : Int))).set 4 rfl 4 (.int .i64 (h4 : Int))).set 4 rfl 5 (.int .i64 (h5 : Int))).set 4 rfl 6 (.int .i64 (h6 : Int))).set 4 rfl 7 (.int .i64 (h7 : Int))).set 4 rfl 8 (.slice B1 n1 c1)).set 4 rfl 9 (.slice B2 n2 c2)).set 4 rfl 10 (.slice B i c))
                        simp only [List.set_cons_zero, List.set_cons_succ, List.setIfInBounds_toArray] at hz9
                        replace hz9 := Hidd.mk hz9
                        go_wp2
                        clear x0 x1 x2 x3 x4 x5 x6 x7 x8 x9 xA fz0 fz1 fz2 fz3 fz4 fz5 fz6 fz7 fz8 fz9 fz10 ho
                        generalize World.setCell _ _ _ = WZ at hz9 ⊢
                        obtain ⟨x0, x1, x2, x3, x4, x5, x6, x7, x8, x9, xA⟩ := cells11 hz9.out 4 rfl
                        refine bodyPost_ret (v := .tuple #[.agg #[.int .i64 (h0 : Int), .int .i64 (h1 : Int), .int .i64 (h2 : Int), .int .i64 (h3 : Int), .int .i64 (h4 : Int), .int .i64 (h5 : Int), .int .i64 (h6 : Int), .int .i64 (h7 : Int), .slice B1 n1 c1, .slice B2 n2 c2, .slice B i c], .nilIface]) (by simp [results, Try.results71, go_sem, x0, x1, x2, x3, x4, x5, x6, x7, x8, x9, xA]) rfl ?_
                        rw [← hr2.out]
                        refine ⟨fun q hq => (by cases hq), fun _ => ?_⟩
                        obtain rfl := hll1.out
                        obtain rfl := hll2.out
                        obtain rfl := hll.out
                        exact ⟨B1, c1, B2, c2, B, c, ev, rfl, hz9.out.reorder (M := [_, _, _, _]) [0, 1, 2, 6] rfl (by decide)⟩
end Go.Proofs.Ytcamoldjljfbeaa
