/- WireBack walked. -/
import Derived.Test.YtmbbfcpoiecfhaaWirK
namespace Go.Proofs.Ytmbbfcpoiecfhaa
open Go.RowKit

theorem Own.turn {w0 w : World} {S : Nat → Prop} {L : List Res} (h : Own w0 S w L) : Own w (fun i => w0.heap.size ≤ i ∨ S i) w L :=
  ⟨Kept.refl _ _, h.has, h.sep, fun r hr i hi => .inl (h.own r hr i hi).symm⟩
theorem Own.back {w0 w w1 : World} {S : Nat → Prop} {L M : List Res} (h : Own w0 S w L) (k : Own w (fun i => w0.heap.size ≤ i ∨ S i) w1 M) : Own w0 S w1 M :=
  ⟨⟨k.kept.os.trans h.kept.os, k.kept.tape.trans h.kept.tape, k.kept.output.trans h.kept.output, Nat.le_trans h.kept.size k.kept.size, fun i hi hs => (k.kept.block i (Nat.lt_of_lt_of_le hi h.kept.size) (fun h => h.elim (fun h => absurd hi (Nat.not_lt.2 h)) hs)).trans (h.kept.block i hi hs)⟩,
   k.has, k.sep, fun r hr i hi => by
    rcases k.own r hr i hi with (h1 | h1) | h1
    · exact .inr h1
    · exact .inl h1
    · exact .inr (Nat.le_trans h.kept.size h1)⟩
theorem kept_below {w W0 W : World} (h0 : Below w.heap.size w W0) (h : Kept (fun i => w.heap.size ≤ i ∨ False) W0 W) : Below w.heap.size w W := by
  have h1 : Kept (fun _ => False) w W0 := Kept.below h0
  have h2 : Kept (fun _ => False) w W := ⟨h.os.trans h1.os, h.tape.trans h1.tape, h.output.trans h1.output, Nat.le_trans h1.size h.size, fun i hi _ => (h.block i (Nat.lt_of_lt_of_le hi h1.size) (fun h => h.elim (fun h => absurd hi (Nat.not_lt.2 h)) id)).trans (h1.block i hi id)⟩
  exact h2.none fun _ => id

theorem cells_lt {w : World} {a : Addr} {k : IntKind} {xs : List Int} (h : Cells w (some a) (nums k xs)) (hl : 0 < xs.length) : a.block < w.heap.size := by
  rcases xs with _ | ⟨x, xs⟩
  · simp at hl
  · obtain ⟨a', ea, hc⟩ := h 0 _ rfl
    injection ea with ea
    subst ea
    exact World.block_lt_of_cell? w (a.add 0) hc
theorem u64_4 (z : Int) : (IntKind.u64.wrap z).tmod 4 = ((szB z - 1 : Nat) : Int) ∧ IntKind.u64.wrap z % 4 = ((szB z - 1 : Nat) : Int) := by
  have h0 : 0 ≤ IntKind.u64.wrap z := by rw [IntKind.wrap]; simp only [IntKind.signed, IntKind.bits]; exact Int.emod_nonneg _ (by decide)
  rw [Int.tmod_eq_emod_of_nonneg h0]
  unfold szB
  generalize IntKind.u64.wrap z = x at h0 ⊢
  omega
theorem sz_plain (z : Int) : ∃ f : Nat, f ≤ 3 ∧ szB z = f + 1 ∧ (IntKind.u64.wrap z).tmod 4 = (f : Int) ∧ IntKind.u64.wrap z % 4 = (f : Int) ∧ wrap64 (f : Int) = f ∧ IntKind.i64.wrap (f : Int) = f ∧ wsz (1 + (f : Int)) = f + 1 ∧ IntKind.i64.wrap (1 + (f : Int)) = 1 + (f : Int) ∧ wrap64 (1 + (f : Int)) = 1 + (f : Int) := by
  obtain ⟨h1, h2⟩ := szB_le z
  obtain ⟨h3, h4⟩ := u64_4 z
  obtain ⟨f, hf⟩ : ∃ f, szB z - 1 = f := ⟨_, rfl⟩
  rw [hf] at h3 h4
  refine ⟨f, by omega, by omega, h3, h4, IntWalk.wrap64_in _ (by omega), IntWalk.i64_in _ (by omega), ?_, IntWalk.i64_in _ (by omega), IntWalk.wrap64_in _ (by omega)⟩
  have := wsz_at (s := f + 1) (by omega) (by omega)
  rwa [Int.natCast_add, Int.add_comm] at this
theorem and_1 (n : Nat) (h : n < 4294967296) : bits .and .u32 (n : Int) 255 = ((n % 256 ^ 1 : Nat) : Int) := by
  rw [show (255 : Int) = ((255 : Nat) : Int) from rfl, u32_and_nat n 255 h (by omega), show 255 = 2 ^ 8 - 1 from rfl, Nat.and_two_pow_sub_one_eq_mod]
theorem and_2 (n : Nat) (h : n < 4294967296) : bits .and .u32 (n : Int) 65535 = ((n % 256 ^ 2 : Nat) : Int) := by
  rw [show (65535 : Int) = ((65535 : Nat) : Int) from rfl, u32_and_nat n 65535 h (by omega), show 65535 = 2 ^ 16 - 1 from rfl, Nat.and_two_pow_sub_one_eq_mod]
theorem and_3 (n : Nat) (h : n < 4294967296) : bits .and .u32 (n : Int) 16777215 = ((n % 256 ^ 3 : Nat) : Int) := by
  rw [show (16777215 : Int) = ((16777215 : Nat) : Int) from rfl, u32_and_nat n 16777215 h (by omega), show 16777215 = 2 ^ 24 - 1 from rfl, Nat.and_two_pow_sub_one_eq_mod]
theorem and_4 (n : Nat) (h : n < 4294967296) : bits .and .u32 (n : Int) 4294967295 = ((n % 256 ^ 4 : Nat) : Int) := by
  rw [show (4294967295 : Int) = ((4294967295 : Nat) : Int) from rfl, u32_and_nat n 4294967295 h (by omega), show 4294967295 = 2 ^ 32 - 1 from rfl, Nat.and_two_pow_sub_one_eq_mod]

theorem read_four {xs r : List Int} {n p v : Nat} {sz : Int} (h : xs.drop p = wputN v (szB sz) ++ r) (hn : xs.length = n) (hv : v < 4294967296) :
    ∃ (q : Nat) (s : Nat), szB sz = s ∧ (((IntKind.u64.wrap sz).tmod 4 = 0 ∧ IntKind.u64.wrap sz % 4 = 0 ∧ takeR xs n p none 1 = (q, p + s, none) ∧ bits .and .u32 (v : Int) 255 = q) ∨
      ((IntKind.u64.wrap sz).tmod 4 = 1 ∧ IntKind.u64.wrap sz % 4 = 1 ∧ takeR xs n p none 2 = (q, p + s, none) ∧ bits .and .u32 (v : Int) 65535 = q) ∨
      ((IntKind.u64.wrap sz).tmod 4 = 2 ∧ IntKind.u64.wrap sz % 4 = 2 ∧ takeR xs n p none 3 = (q, p + s, none) ∧ bits .and .u32 (v : Int) 16777215 = q) ∨
      ((IntKind.u64.wrap sz).tmod 4 = 3 ∧ IntKind.u64.wrap sz % 4 = 3 ∧ takeR xs n p none 4 = (q, p + s, none) ∧ bits .and .u32 (v : Int) 4294967295 = q)) := by
  obtain ⟨f, hf3, hs, hf1, hf2, _⟩ := sz_plain sz
  subst hn
  have ht := take_at h (wputN_length _ _) (szB_le sz).1 (szB_le sz).2
  rw [valN_wput] at ht
  refine ⟨v % 256 ^ (szB sz), szB sz, rfl, ?_⟩
  rw [hf1, hf2]
  rw [hs] at ht ⊢
  clear hf1 hf2 h
  obtain rfl | rfl | rfl | rfl : f = 0 ∨ f = 1 ∨ f = 2 ∨ f = 3 := by omega
  · exact .inl ⟨rfl, rfl, ht, and_1 v hv⟩
  · exact .inr (.inl ⟨rfl, rfl, ht, and_2 v hv⟩)
  · exact .inr (.inr (.inl ⟨rfl, rfl, ht, and_3 v hv⟩))
  · exact .inr (.inr (.inr ⟨rfl, rfl, ht, and_4 v hv⟩))
set_option maxRecDepth 100000 in
set_option maxHeartbeats 4000000 in
theorem wireBack_walk (a0 : Option Addr) (len0 cap0 : Nat) (z0 : List (List Value)) (w : World) (h0 : Rows' w 48 [.int .i64, .int .i64, .int .u32, .sl 1 [.int .u8]] a0 len0 cap0 z0) :
    Calls Try.prog 4 #[.slice a0 len0 cap0] w fun e w' => e = .returned (.bool true) ∧ Below w.heap.size w w' := by
  obtain ⟨es, hel, hes⟩ := wacts_of h0
  have hlen0 : len0 ≤ 1000000000000000000 := by have := h0.wt; unfold reachBytes at this; omega
  have hdl : ∀ e ∈ es, e.data.length = e.len := fun e he => by
    obtain ⟨i, hi⟩ := List.getElem?_of_mem he
    exact (hes i e hi).2.2.2.2.1
  have hdr : ∀ e ∈ es, ∀ x ∈ e.data, 0 ≤ x ∧ x < 256 := fun e he => by
    obtain ⟨i, hi⟩ := List.getElem?_of_mem he
    exact (hes i e hi).2.2.2.2.2.1
  have hLl := Hidd.mk (encL_len es hdl)
  have hLr := Hidd.mk (encL_range es hdr)
  clear hdl hdr h0
  replace hes := Hidd.mk hes
  replace hel := Hidd.mk hel
  obtain ⟨m, hm⟩ : ∃ m, min len0 100 = m := ⟨_, rfl⟩
  have hm1 : m ≤ len0 := by omega
  have hm2 : m ≤ 100 := by omega
  have hm3 : m = len0 ∨ m = 100 := by omega
  clear hm
  go_enter Try.func4, Try.ntmps4
  go_wp2_with (first
    | (go_at_call 14; refine (awake_any _).mono ?_; rintro e w1 ⟨rfl, hb1⟩; have ho1 := Hidd.mk (wtr_new ((Own.nil w (fun _ => False)).ext hb1)); clear hb1))
  go_loopw [4] (fun v4 wr => ∃ (i : Nat) (A : Option Addr) (cap : Nat), v4 = .int .i64 i ∧ i ≤ m ∧ Hidd (Own w (fun _ => False) wr [wtr w1.heap.size A (encL es i).length cap (encL es i)])) (fun v4 _ => m - (intOf v4).toNat)
  case atStart => exact ⟨0, none, 0, rfl, Nat.zero_le _, ho1⟩
  case round =>
    clear ho1
    obtain ⟨i, A, cap, rfl, hi, ho⟩ := hrel
    by_cases hlt : i < m
    · obtain ⟨e, he⟩ : ∃ e, es[i]? = some e := ⟨_, List.getElem?_eq_getElem (by rw [hel.out]; omega)⟩
      have hsc := Hidd.mk (encL_succ he)
      have hbd := hLl.out i
      have hbe : (encL es i).length ≤ 1000000 := by omega
      have h1 : i < len0 := by omega
      have h2 : i < 100 := by omega
      obtain ⟨⟨ad, rfl, x0, x1, x2, x3⟩, p1, p2, p3, p4, p5, p6, p7⟩ := hes.out i e he
      obtain ⟨kd, sz, v, D, dl, dc, data⟩ := e
      simp only at x0 x1 x2 x3 p1 p2 p3 p4 p5 p6 p7
      have hwr := ho.out.below (fun _ => id)
      have hsep : Hidd (∀ a, D = some a → 0 < dl → ¬ (wtr w1.heap.size A (encL es i).length cap (encL es i)).foot a.block) := ⟨fun a ha hl hf => by
        subst ha
        have hl2 := cells_lt p3 (by omega)
        rcases ho.out.own _ List.mem_cons_self _ hf with h | h
        · exact h
        · omega⟩
      have hD := Hidd.mk (p3.below hwr)
      replace x0 := wkeep hwr x0
      replace x1 := wkeep hwr x1
      replace x2 := wkeep hwr x2
      replace x3 := wkeep hwr x3
      replace p4 := Hidd.mk p4
      clear hwr he p3 p5
      have bi0 : (0 : Int) ≤ (i : Int) := by omega
      have bi1 : (i : Int) < (len0 : Int) := by omega
      by_cases hk : kd = 1
      · subst hk
        obtain ⟨t, ht⟩ : ∃ t, min dl 255 = t := ⟨_, rfl⟩
        have hen : encL es (i + 1) = encL es i ++ [(t : Int)] ++ data.take t := by
          rw [hsc.out, List.append_assoc]
          unfold encA
          rw [if_pos rfl]
          show _ ++ ((min dl 255 : Nat) : Int) :: data.take (min dl 255) = _
          rw [ht]
          rfl
        have hen2 : (encL es (i + 1)).length = (encL es i).length + 1 + t := by
          rw [hen, List.length_append, List.length_append, List.length_cons, List.length_nil, List.length_take, p4.out]
          omega
        replace hen := Hidd.mk hen
        replace hen2 := Hidd.mk hen2
        replace ht := Hidd.mk ht
        go_wp2_with (first
          | (go_at_call 15; refine (text_own 0 ho.out rfl (by omega) D dl dc data hD.out p4.out p7 hsep.out t ht.out).mono ?_; rintro e w2 ⟨rfl, A2, c2, ho2⟩; replace ho2 := Hidd.mk ho2; clear ho))
        go_roundw
        case rel => exact ⟨i + 1, A2, c2, by go_num, by omega, ⟨by rw [hen2.out, hen.out]; exact ho2.out⟩⟩
        case measure => simp [intOf]; omega
      · have hk1 : (kd == 1) = false := by rw [beq_eq_false_iff_ne]; exact hk
        have hen : encL es (i + 1) = encL es i ++ wputN v (szB sz) := by
          rw [hsc.out]
          unfold encA
          rw [if_neg hk]
        have hen2 : (encL es (i + 1)).length = (encL es i).length + szB sz := by
          rw [hen, List.length_append, wputN_length]
        obtain ⟨f, hf3, hs, hf1, hf2, hf4, hf5, hws, hf6, hf7⟩ := sz_plain sz
        rw [hs] at hen hen2
        replace hws := Hidd.mk hws
        replace hen := Hidd.mk hen
        replace hen2 := Hidd.mk hen2
        replace hs := Hidd.mk hs
        clear hk hsep
        go_wp2
        obtain ⟨W0, hW0⟩ : ∃ zz, zz = World.drew wr := ⟨_, rfl⟩
        refine wp_region_stages [([0, 1, 2, 3, 4, 5, 6, 7, 8, 9, 10, 11, 12, 13], some 14)] (by kernel_rfl) (by kernel_rfl) ?_
        rw [show ({ wr with drawn := wr.drawn + 1 } : World) = W0 from hW0.symm]
        replace hW0 := Hidd.mk hW0
        simp only [opsOf, List.map_cons, List.map_nil, List.getD_cons_succ, List.getD_cons_zero, Option.map_some, Option.map_none]
        have ho2 := Hidd.mk (show Own w (fun _ => False) W0 [wtr w1.heap.size A (encL es i).length cap (encL es i)] by rw [hW0.out]; exact ho.out.drew)
        replace x1 : W0.cell? ⟨(ad.add (i * 4)).block, (ad.add (i * 4)).off + 1, none⟩ = some (.int .i64 sz) := by rw [hW0.out]; exact x1
        replace x2 : W0.cell? ⟨(ad.add (i * 4)).block, (ad.add (i * 4)).off + 2, none⟩ = some (.int .u32 v) := by rw [hW0.out]; exact x2
        clear hW0 ho x0 x3
        refine SgW.one ?_
        repeat (first | (refine StW.skip (by rfl) ?_; simp only [Act.put, List.setIfInBounds_toArray, List.set_cons_zero, List.set_cons_succ]) | (refine StW.go (by rfl) (fun K hK => ?_); go_simp; refine hK.out _ ?_; clear hK K))
        refine StW.nil ?_
        refine OneW.go (by rfl) (fun K hK => ?_)
        go_simp
        refine (put_own 0 ho2.out rfl v _ hbe p2 _ hws.out).mono ?_
        rintro e w3 ⟨rfl, A2, c2, ho3⟩
        refine hK.out _ _ ?_
        clear hK K
        refine SgW.nil (Calm.normal ?_)
        replace ho3 := Hidd.mk ho3
        clear hf1 hf2 hf4 hf5 hf6 hf7
        go_wp2
        go_roundw
        case rel => exact ⟨i + 1, A2, c2, by go_num, by omega, ⟨by rw [hen2.out, hen.out]; exact ho3.out⟩⟩
        case measure => simp [intOf]; omega
    · obtain rfl : i = m := by omega
      have hx := Hidd.mk (hLr.out i)
      have hbd := hLl.out i
      obtain ⟨n, hn⟩ : ∃ n, (encL es i).length = n := ⟨_, rfl⟩
      rw [hn] at hbd ho
      have hn2 : n ≤ 1000000 := by omega
      replace hn := Hidd.mk hn
      have hm4 : (¬ i < len0) ∨ (i < len0 ∧ decide ((i : Int) < 100) = false) := by
        by_cases h2 : i < len0
        · exact .inr ⟨h2, by rw [decide_eq_false_iff_not]; omega⟩
        · exact .inl h2
      clear hm3 hlt hbd
      rcases hm4 with hd1 | ⟨hd1, hd2⟩
      all_goals go_wp2_with (first
        | (go_at_call 19; refine (bytes_own 0 ho.out rfl hn2).mono ?_; rintro e w3 ⟨A3, c3, rfl, ho3⟩; have hc3 := Hidd.mk (show WIn w3 5 1 A3 _ c3 (nums .u8 (encL es i)) from ho3.get 0 rfl).cells; replace ho3 := Hidd.mk ho3; clear ho)
        | (go_at_call 20; refine (read_own A3 _ c3 (encL es i) _ hc3.out hn.out (by omega)).mono ?_; rintro e w4 ⟨br, A4, c4, rfl, hn4⟩; have ho4 := Hidd.mk ((ho3.out.made hn4).sub ((List.nil_sublist _).cons_cons _)); clear ho3 hn4 hc3))
      all_goals go_loopw [6] (fun v6 wr => ∃ (j : Nat) (ev : Value), v6 = .int .i64 j ∧ j ≤ i ∧ Hidd (Own w (fun _ => False) wr [rdr br A4 n c4 (encL es i) (encL es j).length none ev])) (fun v6 _ => i - (intOf v6).toNat)
      all_goals first
        | (case atStart => exact ⟨0, _, rfl, Nat.zero_le _, ho4⟩)
        | skip
      all_goals skip
      all_goals (case round =>
        clear ho4
        obtain ⟨j, ev, rfl, hj, ho⟩ := hrel
        obtain rfl : ev = .nilIface := (show RdIn _ br A4 n c4 (encL es i) (encL es j).length none ev from ho.out.get 0 rfl).he
        by_cases hjt : j < i
        · obtain ⟨e, he⟩ : ∃ e, es[j]? = some e := ⟨_, List.getElem?_eq_getElem (by rw [hel.out]; omega)⟩
          obtain ⟨r, hdp⟩ := encL_drop he hjt
          have hsc := Hidd.mk (encL_succ he)
          have h1 : j < len0 := by omega
          have h2 : j < 100 := by omega
          obtain ⟨⟨ad, rfl, x0, x1, x2, x3⟩, p1, p2, p3, p4, p5, p6, p7⟩ := hes.out j e he
          obtain ⟨kd, sz, v, D, dl, dc, data⟩ := e
          simp only at x0 x1 x2 x3 p1 p2 p3 p4 p5 p6 p7
          have hwr := ho.out.below (fun _ => id)
          have bi0 : (0 : Int) ≤ (j : Int) := by omega
          have bi1 : (j : Int) < (len0 : Int) := by omega
          obtain ⟨p, hp⟩ : ∃ p, (encL es j).length = p := ⟨_, rfl⟩
          rw [hp] at hdp ho
          obtain ⟨T, hT⟩ : ∃ T : Nat → Prop, T = fun i => w.heap.size ≤ i ∨ False := ⟨_, rfl⟩
          clear he
          have hsz0 := szB_le sz
          have hpn : p ≤ n := by
            have h0 := congrArg List.length hdp
            rw [List.length_drop, List.length_append, hn.out] at h0
            by_cases hq : p ≤ n
            · exact hq
            · exfalso
              have h3 : (encA ⟨kd, sz, v, D, dl, dc, data⟩).length = 0 := by omega
              unfold encA at h3
              split at h3
              · cases h3
              · rw [wputN_length] at h3
                have h4 : szB sz = 0 := h3
                omega
          by_cases hk : kd = 1
          · subst hk
            obtain ⟨t, ht⟩ : ∃ t, min dl 255 = t := ⟨_, rfl⟩
            obtain ⟨ys, hys⟩ : ∃ ys, data.take t = ys := ⟨_, rfl⟩
            have hyl : ys.length = t := by rw [← hys, List.length_take, p4]; omega
            have hen : encA ⟨1, sz, v, D, dl, dc, data⟩ = (t : Int) :: ys := by
              unfold encA
              rw [if_pos rfl]
              show ((min dl 255 : Nat) : Int) :: data.take (min dl 255) = _
              rw [ht, hys]
            have hrt : textR (encL es i) n p none = (ys, p + 1 + t, none) := by
              rw [← hn.out]
              exact text_at (by rw [hdp, hen]) hyl
            have hen2 : (encL es (j + 1)).length = p + 1 + t := by
              rw [hsc.out, List.length_append, hp, hen, List.length_cons, hyl]
              omega
            have hmin : (if (255 : Int) < (dl : Int) then (255 : Int) else (dl : Int)) = t := by
              rcases Nat.lt_or_ge 255 dl with h | h
              · rw [if_pos (by omega)]; omega
              · rw [if_neg (by omega)]; omega
            have htc : t ≤ dc := by omega
            have hz : Hidd (∀ W', Kept T wr W' → W'.cell? ⟨(ad.add (j * 4)).block, (ad.add (j * 4)).off + 3, none⟩ = some (.slice D dl dc) ∧ (convert 24 9 (.slice D t dc)).run Try.prog W' = .ok (.string (strOfNums ys)) W') := ⟨fun W' hS => by
              rw [hT] at hS
              have hb := kept_below hwr hS
              exact ⟨wkeep hb x3, conv_at (by rw [← hys, nums_take]; exact (p3.below hb).take t) hyl⟩⟩
            replace x0 := wkeep hwr x0
            replace hT := Hidd.mk hT
            replace hrt := Hidd.mk hrt
            replace hen2 := Hidd.mk hen2
            replace hyl := Hidd.mk hyl
            clear hwr p1 p2 p3 p4 p5 p6 p7 x1 x2 x3 hdp hsc hp ht hys hen hsz0
            go_wp2
            obtain ⟨W0, hW0⟩ : ∃ zz, zz = World.drew wr := ⟨_, rfl⟩
            refine wp_region_mix (fun zz => Kept T wr zz) [0, 3, 4, 5, 6, 7, 8, 9, 10, 11, 12, 13, 14, 15, 16] [(1, true), (2, true), (17, false)] (by kernel_rfl) (by kernel_rfl) (Kept.drew _ _) ?_
            rw [show ({ wr with drawn := wr.drawn + 1 } : World) = W0 from hW0.symm]
            replace hW0 := Hidd.mk hW0
            simp only [List.map_cons, List.map_nil, List.getD_cons_succ, List.getD_cons_zero]
            have ho2 := Hidd.mk (show Own w (fun _ => False) W0 [rdr br A4 n c4 (encL es i) p none .nilIface] by rw [hW0.out]; exact ho.out.drew)
            have hkW0 : Hidd (Kept T wr W0) := ⟨by rw [hW0.out]; exact Kept.drew _ _⟩
            repeat (first | (refine StQ.skip (by rfl) ?_; simp only [Act.put, List.setIfInBounds_toArray, List.set_cons_zero, List.set_cons_succ]) | (refine StQ.go' (by rfl) (Exists.intro ?_ (And.intro (fun w' hS => ?_) ?_)); rotate_left; (focus (obtain ⟨z3, zc⟩ := hz.out _ hS; go_simp; try with_reducible rfl)); simp only [Act.put, List.setIfInBounds_toArray, List.set_cons_zero, List.set_cons_succ]))
            refine StQ.nil ?_
            refine TlF.go (by rfl) (fun K hK => ?_)
            go_simp
            refine (rtext_own 0 ho2.out.turn rfl hpn (by omega) hx.out _ _ _ hrt.out).mono ?_
            rintro e w5 ⟨A6, c6, rfl, ev5, ho6⟩
            have hk6 : Kept T wr w5 := hkW0.out.trans (by rw [hT.out]; exact ho6.kept)
            refine hK.out _ _ (fun _ => hk6) ?_
            clear hK K
            have ho7 := ho2.out.back ho6
            have hcv := conv_at (n := ys.length) (c := c6) (show WIn w5 5 1 A6 _ c6 (nums .u8 ys) from ho7.get 0 rfl).cells rfl
            replace ho7 := Hidd.mk ho7
            replace hk6 := Hidd.mk hk6
            clear ho6 ho2 hkW0 hW0 ho
            refine TlF.go (by rfl) (fun K hK => ?_); go_simp; refine hK.out _ _ (fun _ => hk6.out) ?_; clear hK K
            refine TlF.go (by rfl) (fun K hK => ?_); go_simp; refine hK.out _ _ (by intro h; cases h) ?_; clear hK K
            refine TlF.nil (Calm.normal ?_)
            go_wp2
            go_roundw
            case rel => exact ⟨j + 1, ev5, by go_num, by omega, ⟨by rw [hen2.out]; exact ho7.out.tail⟩⟩
            case measure => simp [intOf]; omega
          · have hk1 : (kd == 1) = false := by rw [beq_eq_false_iff_ne]; exact hk
            have hen : encA ⟨kd, sz, v, D, dl, dc, data⟩ = wputN v (szB sz) := by
              unfold encA
              rw [if_neg hk]
            rw [hen] at hdp
            obtain ⟨q, s, hs, hcase⟩ := read_four hdp hn.out p2
            have hen2 : (encL es (j + 1)).length = p + s := by
              rw [hsc.out, List.length_append, hp, hen, wputN_length, hs]
            have hz : Hidd (∀ W', Kept T wr W' → W'.cell? ⟨(ad.add (j * 4)).block, (ad.add (j * 4)).off + 2, none⟩ = some (.int .u32 v)) := ⟨fun W' hS => by
              rw [hT] at hS
              exact wkeep (kept_below hwr hS) x2⟩
            replace x0 := wkeep hwr x0
            replace x1 := wkeep hwr x1
            replace hT := Hidd.mk hT
            replace hen2 := Hidd.mk hen2
            have hn3 : n ≤ 1000000000 := by omega
            clear hwr p1 p2 p3 p4 p5 p6 p7 x2 x3 hdp hsc hp hs hen hsz0 hk
            have g8 : IntKind.i64.wrap 8 = 8 := by decide
            have g16 : IntKind.i64.wrap 16 = 16 := by decide
            have g24 : IntKind.i64.wrap 24 = 24 := by decide
            have g32 : IntKind.i64.wrap 32 = 32 := by decide
            have g0 : IntKind.i64.wrap 0 = 0 := by decide
            rcases hcase with hcase | hcase | hcase | hcase
            all_goals
              obtain ⟨hf1, hf2, htk, hand⟩ := hcase
              replace htk := Hidd.mk htk
              go_wp2
              clear hf1 hf2
              obtain ⟨W0, hW0⟩ : ∃ zz, zz = World.drew wr := ⟨_, rfl⟩
              refine wp_region_mix (fun zz => Kept T wr zz) [0, 1, 3, 4, 5, 6, 7, 8, 9, 10, 11, 12] [(2, true), (13, false)] (by kernel_rfl) (by kernel_rfl) (Kept.drew _ _) ?_
              rw [show ({ wr with drawn := wr.drawn + 1 } : World) = W0 from hW0.symm]
              replace hW0 := Hidd.mk hW0
              simp only [List.map_cons, List.map_nil, List.getD_cons_succ, List.getD_cons_zero]
              have ho2 := Hidd.mk (show Own w (fun _ => False) W0 [rdr br A4 n c4 (encL es i) p none .nilIface] by rw [hW0.out]; exact ho.out.drew)
              have hkW0 : Hidd (Kept T wr W0) := ⟨by rw [hW0.out]; exact Kept.drew _ _⟩
              repeat (first | (refine StQ.skip (by rfl) ?_; simp only [Act.put, List.setIfInBounds_toArray, List.set_cons_zero, List.set_cons_succ]) | (refine StQ.go' (by rfl) (Exists.intro ?_ (And.intro (fun w' hS => ?_) ?_)); rotate_left; (focus (have z3 := hz.out _ hS; go_simp; try with_reducible rfl)); simp only [Act.put, List.setIfInBounds_toArray, List.set_cons_zero, List.set_cons_succ]))
              refine StQ.nil ?_
              refine TlF.go (by rfl) (fun K hK => ?_)
              go_simp
              refine (take_own 0 ho2.out.turn rfl hpn hn3 hx.out _ _ _ _ htk.out).mono ?_
              rintro e w5 ⟨rfl, ev5, ho6⟩
              have hk6 : Kept T wr w5 := hkW0.out.trans (by rw [hT.out]; exact ho6.kept)
              refine hK.out _ _ (fun _ => hk6) ?_
              clear hK K
              have ho7 := Hidd.mk (ho2.out.back ho6)
              clear ho6 ho2 hkW0 hW0 ho
              refine TlF.go (by rfl) (fun K hK => ?_); go_simp; refine hK.out _ _ (by intro h; cases h) ?_; clear hK K
              refine TlF.nil (Calm.normal ?_)
              go_wp2
              go_roundw
              case rel => exact ⟨j + 1, ev5, by go_num, by omega, ⟨by rw [hen2.out]; exact ho7.out⟩⟩
              case measure => simp [intOf]; omega
        · obtain rfl : j = i := by omega
          rw [hn.out] at ho
          have hee := Hidd.mk (end_at n)
          go_wp2_with (go_at_call 23; refine (end_own 0 ho.out rfl _ hee.out).mono ?_; rintro e w8 ⟨v8, rfl, he8, ho8⟩; (obtain rfl : v8 = .nilIface := he8); replace ho8 := Hidd.mk ho8; clear ho)
          go_ret
          exact ⟨rfl, ho8.out.below fun _ => id⟩)
end Go.Proofs.Ytmbbfcpoiecfhaa
