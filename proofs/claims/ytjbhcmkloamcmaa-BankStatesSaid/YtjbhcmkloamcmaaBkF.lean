/- Chunk of a store. -/
import Derived.Test.YtjbhcmkloamcmaaBkC
namespace Go.Proofs.Ytjbhcmkloamcmaa
open Go.RowKit

theorem info_bsF : (Try.prog.info? 22).map (fun i => (i.zero, i.size, i.bytes)) = some (some (.slice none 0 0), 1, 24) := info_bs
theorem pgF_one (A : Option Addr) (n c : Nat) : ∀ u ∈ [Value.slice A n c], u.oneCell' = true := by intro u hu; simp at hu; subst hu; rfl
theorem pack_foot_1 (f : Nat) (M : FA) (s : Fs) (i : Nat) : ((Value.slice M.A0 M.n0 M.c0).ownBlock = some i) → (Res.pack (flashL f M s)).foot i := fun h => .inr (.inl h)
theorem pack_foot_2 (f : Nat) (M : FA) (s : Fs) (i : Nat) : ((Value.slice M.A1 M.n1 M.c1).ownBlock = some i) → (Res.pack (flashL f M s)).foot i := fun h => .inr (.inr (.inl h))
theorem pack_foot_3 (f : Nat) (M : FA) (s : Fs) (i : Nat) : ((Value.slice M.AM M.nm M.cm).ownBlock = some i) → (Res.pack (flashL f M s)).foot i := fun h => .inr (.inr (.inr (.inl h)))
theorem wrap64_small (x : Int) (h0 : -1000000 ≤ x) (h1 : x ≤ 1000000) : wrap64 x = x := by unfold wrap64; omega
theorem wrap_small (x : Int) (h0 : -1000000 ≤ x) (h1 : x ≤ 1000000) : IntKind.i64.wrap x = x := IntWalk.i64_in x (by omega)
theorem half_facts (m h : Nat) (hm : m ≤ 36) (hh : h = m / 2) : (h ≤ m ∧ m ≤ 36) ∧ (m : Int).tdiv 2 = (h : Int) ∧ (m : Int) / 2 = (h : Int) ∧ (0 : Int) ≤ (h : Int) ∧ wrap64 (h : Int) = (h : Int) ∧ (h : Int) ≤ 36 :=
  ⟨by omega, by rw [Int.tdiv_eq_ediv_of_nonneg (by omega)]; omega, by omega, by omega, wrap64_small _ (by omega) (by omega), by omega⟩
theorem own_newrow {w0 w w' : World} {S : Nat → Prop} {L : List Res} {e : TypeId} {size n : Nat} {v : Value} {xs : List Value} (h : Own w0 S w L) (hB : Below w.heap.size w w') (hr : w'.ownsRow w.heap.size e size v n xs) : Own w0 S w' (row e size v n xs :: L) := by
  refine h.new _ hB ⟨hr.1, ?_⟩ fun i hi => (hr.lt i hi).1
  rcases hr.2 with h2 | ⟨g, cap, cur, e1, _, h3⟩
  · exact .inl h2
  · exact .inr ⟨g, cap, cur, e1, Nat.zero_le _, h3⟩

set_option maxRecDepth 100000
set_option maxHeartbeats 16000000
theorem chunk_nil (A : Option Addr) (n c : Nat) (w : World) : Calls Try.prog 14 #[.pointer none, .slice A n c] w fun e w' => e = .returned (.iface 66 (.int .i64 1)) ∧ w = w' := by
  go_enter Try.func14, Try.ntmps14
  go_wp2
  go_ret
  exact ⟨rfl, rfl⟩
theorem chunk_own {w w0 : World} {S : Nat → Prop} {L : List Res} {p f : Nat} {M : FA} {t : St} {s : Fs} (k : Nat) (hO : Own w0 S w L) (hk : L[k]? = some (bankR p f M t s)) (ht : StOk t) (hs : FsOk s) (A : Option Addr) (n c : Nat) (bs : List Int)
    (hA : Cells w A (nums .u8 bs)) (hb : Bytes bs) (hn : bs.length = n) (hn2 : n ≤ 100000) (er : Option (Int × Int)) (t' : St) (s' : Fs) (hx : chunkX bs t s = (er, t', s')) (h9 : s.b0.length ≤ 9999 ∧ s.b1.length ≤ 9999) :
    Calls Try.prog 14 #[.pointer (some ⟨p, 0, none⟩), .slice A n c] w fun e w' => ∃ v, e = .returned v ∧ ∃ M', Own w0 S w' (eres er v :: L.set k (bankR p f M' t' s')) := by
  obtain ⟨G, hG⟩ : ∃ G, G = (bankR p f M t s).foot := ⟨_, rfl⟩
  have ho : Hidd (Own w G w [storeR p f t, Res.pack (flashL f M s)]) := ⟨by rw [hG]; exact (Own.one (hO.get k hk)).with_out⟩
  have hend : Hidd (∀ w' v er M' t' s', Own w G w' [storeR p f t', Res.pack (flashL f M' s'), eres er v] → Own w0 S w' (eres er v :: L.set k (bankR p f M' t' s'))) := ⟨fun w' v er M' t' s' h => by
    rw [hG] at h
    exact hO.call2 k hk h.with_in⟩
  obtain ⟨x0, x1, x2, x3, x4, x5⟩ := storeR_cells ho.out 0 rfl ht.sum
  clear hG hO hk
  unfold chunkX at hx
  by_cases hop : t.opn = false
  · rw [if_pos hop] at hx
    injection hx with e1 e2
    injection e2 with e2 e3
    subst e1 e2 e3
    rw [hop] at x3
    clear hop hA hb ht hs
    go_enter Try.func14, Try.ntmps14
    go_wp2_with (go_at_call 32; refine (fault_any 15 (-1) _ (by decide)).mono ?_; rintro e w1 ⟨v, rfl, hv⟩; have ho1 := Hidd.mk (ho.out.made hv); clear hv ho)
    go_ret
    exact ⟨v, rfl, M, hend.out _ _ _ _ _ _ (ho1.out.reorder [1, 2, 0] rfl (by decide))⟩
  · rw [if_neg hop] at hx
    have hop2 : t.opn = true := by simpa using hop
    rw [hop2] at x3
    rw [hn] at hx
    clear hop
    by_cases hsz : n < 1 ∨ 32 < n
    · rw [if_pos hsz] at hx
      injection hx with e1 e2
      injection e2 with e2 e3
      subst e1 e2 e3
      have hway : decide (n < 1) = true ∧ decide ((n : Int) < 1) = true ∨ decide (n < 1) = false ∧ decide ((n : Int) < 1) = false ∧ decide (32 < n) = true ∧ decide ((32 : Int) < (n : Int)) = true := by
        by_cases h : n < 1
        · exact .inl ⟨decide_eq_true h, decide_eq_true (by omega)⟩
        · exact .inr ⟨decide_eq_false h, decide_eq_false (by omega), decide_eq_true (by omega), decide_eq_true (by omega)⟩
      have hft : Hidd (∀ W : World, Calls Try.prog 32 #[.int .i64 12, .int .i64 (n : Int)] W fun e w' => ∃ v, e = .returned v ∧ Own W (fun _ => False) w' [eres (some (12, (n : Int))) v]) := ⟨fun W => by
        have := fault_any 12 (n : Int) W (by decide)
        rw [if_neg (by omega)] at this
        exact this⟩
      clear hsz hA hb ht hs hop2
      rcases hway with ⟨d0, d1⟩ | ⟨d0, d1, d2, d3⟩
      all_goals go_enter Try.func14, Try.ntmps14
      all_goals go_wp2_with (go_at_call 32; refine (hft.out _).mono ?_; rintro e w1 ⟨v, rfl, hv⟩; have ho1 := Hidd.mk (ho.out.made hv); clear hv ho)
      all_goals go_ret
      all_goals exact ⟨v, rfl, M, hend.out _ _ _ _ _ _ (ho1.out.reorder [1, 2, 0] rfl (by decide))⟩
    · rw [if_neg hsz] at hx
      have d0 : decide (n < 1) = false := decide_eq_false (by omega)
      have d1 : decide ((n : Int) < 1) = false := decide_eq_false (by omega)
      have d2 : decide (32 < n) = false := decide_eq_false (by omega)
      have d3 : decide ((32 : Int) < (n : Int)) = false := decide_eq_false (by omega)
      by_cases hlf : t.left < (n : Int)
      · rw [if_pos hlf] at hx
        injection hx with e1 e2
        injection e2 with e2 e3
        subst e1 e2 e3
        have d4 : decide (t.left < (n : Int)) = true := decide_eq_true hlf
        clear hsz hA hb ht hs hop2 hlf
        go_enter Try.func14, Try.ntmps14
        go_wp2_with (go_at_call 32; refine (fault_any 5 (-1) _ (by decide)).mono ?_; rintro e w1 ⟨v, rfl, hv⟩; have ho1 := Hidd.mk (ho.out.made hv); clear hv ho)
        go_ret
        exact ⟨v, rfl, M, hend.out _ _ _ _ _ _ (ho1.out.reorder [1, 2, 0] rfl (by decide))⟩
      · rw [if_neg hlf] at hx
        have d4 : decide (t.left < (n : Int)) = false := decide_eq_false hlf
        have hbs : Hidd (n ≤ 32) := ⟨by omega⟩
        obtain ⟨m, hm⟩ : ∃ m, m = n + 4 := ⟨_, rfl⟩
        have hsl : Hidd ((crcSeal bs).length = m) := ⟨by rw [crcSeal_length, hn, hm]⟩
        have hsc : Hidd (∀ W : World, Below w.heap.size w W → Calls Try.prog 35 #[.slice A n c] W fun e w' => ∃ A5 c5, e = .returned (.slice A5 m c5) ∧ m ≤ c5 ∧ w'.ownsRow W.heap.size 5 1 (.slice A5 m c5) m (nums .u8 (crcSeal bs)) ∧ Below W.heap.size W w') := ⟨fun W hW => by
          rw [hm]
          exact (seal_at A n c bs W (hA.below hW) hb (by omega) hn).mono fun e w' ⟨A5, c5, h1, h2, h3, _, h5⟩ => ⟨A5, c5, h1, h2, h3, h5⟩⟩
        have hllo : 0 ≤ t.left := ht.left.1
        have hlhi : t.left ≤ 512 := ht.left.2
        have hlf2 : (n : Int) ≤ t.left := by omega
        have hsl2 := hs.left
        obtain ⟨h, hh⟩ : ∃ h, h = m / 2 := ⟨_, rfl⟩
        obtain ⟨hm36', hq1, hq2, hq3, hq4, hq5⟩ := half_facts m h (by rw [hm]; exact Nat.add_le_add_right hbs.out 4) hh
        have hm36 := Hidd.mk hm36'
        clear hm36'
        have hhp : Hidd (halfP true (crcSeal bs) = (crcSeal bs).take h) := ⟨by unfold halfP; rw [if_pos rfl, hsl.out, hh]⟩
        have hful : Hidd ((crcSeal bs).take m = crcSeal bs) := ⟨List.take_of_length_le (by rw [hsl.out]; exact Nat.le_refl _)⟩
        have hwl : IntKind.i64.wrap (t.left - (n : Int)) = t.left - (n : Int) := wrap_small _ (by omega) (by omega)
        have hwl2 : wrap64 (t.left - (n : Int)) = t.left - (n : Int) := wrap64_small _ (by omega) (by omega)
        obtain ⟨iB, hIB⟩ := info_parts info_bs
        replace hIB := Hidd.mk hIB
        replace ht := Hidd.mk ht
        replace hs := Hidd.mk hs
        replace hop2 := Hidd.mk hop2
        clear hsz hA hb hn hm hh hlf
        by_cases h0 : s.left = 0
        · rw [if_pos h0] at hx
          injection hx with e1 e2
          injection e2 with e2 e3
          subst e1 e2 e3
          have hsE : Hidd (stepE s = some (16, -1)) := ⟨by unfold stepE; rw [if_pos h0]⟩
          have hsS : Hidd (stepS s = s) := ⟨by unfold stepS; rw [if_pos (by omega)]⟩
          have hbt : Hidd ((s.left == 0) = true) := ⟨by rw [beq_iff_eq]; exact h0⟩
          have hlen : Hidd (s.b0.length ≤ 9999 ∧ s.b1.length ≤ 9999) := ⟨h9⟩
          clear h0
          rw [hhp.out]
          by_cases ha : t.active = 0
          · have ho1e : oth t = 1 := by unfold oth; rw [if_pos ha]
            have hae : (if t.active = 0 then 1 else 0) = 1 := by rw [if_pos ha]
            rw [ho1e]
            replace hae := Hidd.mk hae
            clear ho1e ha
            obtain ⟨s1, hs1⟩ : ∃ s1, s1 = s := ⟨_, rfl⟩
            rw [← hs1] at hlen ⊢
            replace hs1 := Hidd.mk hs1
            go_enter Try.func14, Try.ntmps14
            go_upto_region 14 with (first
              | (go_at_call 35; refine (hsc.out _ (Below.refl _ _)).mono ?_; rintro e w1 ⟨A5, c5, rfl, hc5, hr5, hb5⟩; have ho0 := Hidd.mk (own_newrow ho.out hb5 hr5); replace hc5 : (h : Int) ≤ (c5 : Int) := (by have := hm36.out; omega); clear ho hr5 hb5 x0 x1 x2 x3 x4 x5; obtain ⟨x0, x1, x2, x3, x4, x5⟩ := storeR_cells ho0.out 1 rfl ht.out.sum)
              | (go_at_call 33; have hq := ho0.out; clear hq; refine (step_own 2 ho0.out rfl hsl2).mono ?_; rintro e w2 ⟨v1, rfl, ho1⟩; rw [hsE.out, hsS.out, ← hs1.out] at ho1; rw [hbt.out]; obtain ⟨b9, rfl, _⟩ := (show IsE w2 (some (16, -1)) v1 from ho1.get 0 rfl); replace ho1 := Hidd.mk ho1; clear ho0 x0 x1 x2 x3 x4 x5; obtain ⟨x0, x1, x2, x3, x4, x5⟩ := storeR_cells ho1.out 2 rfl ht.out.sum)
              | (go_at_call 34; have hq := ho1.out; clear hq; refine (other_raw p t.active _ 1 x1 hae.out).mono ?_; rintro e w3 ⟨rfl, rfl⟩))
            clear x0 x1 x2 x3 x4 x5
            obtain ⟨W0, hW0⟩ : ∃ zz, zz = World.drew w2 := ⟨_, rfl⟩
            refine wp_region_flow [([0, 4, 5, 9, 14, 1, 6, 2, 7, 3, 8, 10, 17, 11, 18, 12, 13], some (15, [true])), ([], some (16, [false, true])), ([19], some (20, [false, false, false]))] (by kernel_rfl) (by kernel_rfl) ?_
            rw [show ({ w2 with drawn := w2.drawn + 1 } : World) = W0 from hW0.symm]
            replace hW0 := Hidd.mk hW0
            simp only [opsF, List.map_cons, List.map_nil, List.getD_cons_succ, List.getD_cons_zero, Option.map]
            have hX := Hidd.mk (show Own w G W0 [(row 5 1 (.slice A5 m c5) m (nums .u8 (crcSeal bs))).with (Res.pack (flashL f M s1)), eres (some (16, -1)) (.iface 86 (.pointer (some ⟨b9, 0, none⟩))), storeR p f t] by rw [hW0.out]; exact (ho1.out.drew.reorder (M := [row 5 1 (.slice A5 m c5) m (nums .u8 (crcSeal bs)), Res.pack (flashL f M s1), eres (some (16, -1)) (.iface 86 (.pointer (some ⟨b9, 0, none⟩))), storeR p f t]) [1, 3, 0, 2] rfl (by decide)).with_in)
            clear hW0 ho1
            obtain ⟨GX, hGX⟩ : ∃ GX, GX = ((row 5 1 (.slice A5 m c5) m (nums .u8 (crcSeal bs))).with (Res.pack (flashL f M s1))).foot := ⟨_, rfl⟩
            have hL0 : Hidd (Own W0 GX W0 (flashL f M s1 ++ [row 5 1 (.slice A5 m c5) m (nums .u8 (crcSeal bs))])) := ⟨by rw [hGX]; exact ((Own.one (hX.out.get 0 rfl)).with_out.perm (List.Perm.swap ..)).pack_out⟩
            obtain ⟨x0, x1, x2, x3, x4, x5⟩ := storeR_cells hX.out 2 rfl ht.out.sum
            obtain ⟨y0, y1, y2, y3⟩ := flash_cells hL0.out 0 rfl
            have hfl := hL0.out.lt 0 rfl
            have hpl := hX.out.lt 2 rfl
            have hrow := (show W0.ownsRow 0 22 1 (.slice M.A1 M.n1 M.c1) M.n1 M.v1 from hL0.out.get 2 rfl).1
            have hpgl := (show (pgs M.v1 s1.b1).holds W0 from hL0.out.get 5 rfl).1
            have hn2 : Hidd (M.n1 ≤ 10000) := ⟨by have h1 := hlen.out; rw [Nat.mul_one] at hrow; omega⟩
            have hTb : ¬ (Value.slice M.A1 M.n1 M.c1).ownBlock = some f := fun e => hL0.out.apart 0 2 rfl rfl (by decide) f rfl e
            have hTp : ¬ (Value.slice M.A1 M.n1 M.c1).ownBlock = some p := fun e => hX.out.apart 0 2 rfl rfl (by decide) p (.inr (pack_foot_2 f M s1 p e)) rfl
            obtain ⟨T, hT⟩ : ∃ T : Nat → Prop, T = (row 22 1 (.slice M.A1 M.n1 M.c1) M.n1 M.v1).foot := ⟨_, rfl⟩
            replace hTb : ¬ T f := by rw [hT]; exact hTb
            replace hTp : ¬ T p := by rw [hT]; exact hTp
            have hloc : Hidd (Own W0 T W0 [row 22 1 (.slice M.A1 M.n1 M.c1) M.n1 M.v1]) := ⟨by rw [hT]; exact Own.one (hL0.out.get 2 rfl)⟩
            replace hT := Hidd.mk hT
            clear hrow hpgl
            refine FlW.stage (fun zz => Kept T W0 zz) (Kept.refl _ _) ?_
            repeat (first | (refine StQ.skip (by rfl) ?_; simp only [Act.put, List.setIfInBounds_toArray, List.set_cons_zero, List.set_cons_succ]) | (refine StQ.go' (by rfl) (Exists.intro ?_ (And.intro (fun w' hS => ?_) ?_)); rotate_left; (focus (have hc := Kept.cellAt hS; go_simp; try with_reducible rfl)); simp only [Act.put, List.setIfInBounds_toArray, List.set_cons_zero, List.set_cons_succ]))
            refine StQ.nil ?_
            refine FlO.go (by rfl) (fun K hK => ?_); go_simp; refine hK.out _ _ (.inr ⟨Kept.alloc _ _ _, trivial⟩) ?_; clear hK K
            have hl5 := row_lit hloc.out 22 1 1 #[.slice A5 h c5] [.slice A5 h c5] rfl rfl (by decide)
            refine FlW.stage (fun _ => True) trivial (StQ.nil ?_)
            refine FlO.go (by rfl) (fun K hK => ?_)
            (refine wp_row _ _ 49 rfl 22 iB (.slice none 0 0) 1 24 Try.underlying49 hIB.out.1 hIB.out.2.1 hIB.out.2.2.1 hIB.out.2.2.2 (by rfl) (by decide) hl5 1 M.A1 M.n1 M.c1 M.v1 rfl rfl (some ⟨W0.heap.size, 0, none⟩) 1 1 [.slice A5 h c5] rfl rfl (row_cells hl5 0 rfl) (by intro _ h; cases h) (pgF_one _ _ _) (by have := hn2.out; unfold maxLen; omega) (by have := hn2.out; omega) ?_; intro A6 c6 w6 hl6 _)
            refine hK.out _ _ (.inr ⟨hl6.kept, trivial⟩) ?_
            clear hK K
            clear hl5 hloc
            rw [hT.out] at hl6
            obtain ⟨⟨g0, g1⟩, hfin⟩ := flash_fin1 (M := M) (s := s1) ((hL0.out.frame 2 rfl hl6).reorder [2, 3, 1, 4, 5, 6, 7, 8] rfl (by decide)) hm36.out.1
            rw [hGX] at hfin
            have ho7 := Hidd.mk (hX.out.call 0 rfl (Own.pack_in (by rw [List.append_nil]; exact hfin)))
            clear hl6 hL0 hGX hfin hX x0 x1 x2 x3 x4 x5 y0 y1 y2 y3
            refine FlW.stage (fun zz => zz = _) rfl ?_
            repeat (first | (refine StQ.skip (by rfl) ?_; simp only [Act.put, List.setIfInBounds_toArray, List.set_cons_zero, List.set_cons_succ]) | (refine StQ.go' (by rfl) (Exists.intro ?_ (And.intro (fun w' hS => ?_) ?_)); rotate_left; (focus (rw [hS]; go_simp; try with_reducible rfl)); simp only [Act.put, List.setIfInBounds_toArray, List.set_cons_zero, List.set_cons_succ]))
            refine StQ.nil ?_
            refine FlO.go (by rfl) (fun K hK => ?_); go_simp; refine hK.out _ _ (.inr trivial) ?_; clear hK K
            refine FlW.nil (Calm.normal ?_)
            clear g0 g1 hfl hpl hTb hTp hT
            generalize World.setCell w6 _ _ = W7 at ho7 ⊢
            obtain ⟨x0, x1, x2, x3, x4, x5⟩ := storeR_cells ho7.out 2 rfl ht.out.sum
            have g3 := ho7.out.frozen 2 rfl 35
            have ho8 := ho7.out.set 2 rfl 35 (.bool false)
            rw [stV_opn f t false ht.out.sum] at ho8
            replace ho8 := Hidd.mk ho8
            clear ho7
            go_wp2
            go_ret
            exact ⟨_, rfl, _, hend.out _ _ _ _ _ _ (ho8.out.reorder [2, 0, 1] rfl (by decide))⟩
          · have ho1e : oth t = 0 := by unfold oth; rw [if_neg ha]
            have hae : (if t.active = 0 then 1 else 0) = 0 := by rw [if_neg ha]
            rw [ho1e]
            replace hae := Hidd.mk hae
            clear ho1e ha
            obtain ⟨s1, hs1⟩ : ∃ s1, s1 = s := ⟨_, rfl⟩
            rw [← hs1] at hlen ⊢
            replace hs1 := Hidd.mk hs1
            go_enter Try.func14, Try.ntmps14
            go_upto_region 14 with (first
              | (go_at_call 35; refine (hsc.out _ (Below.refl _ _)).mono ?_; rintro e w1 ⟨A5, c5, rfl, hc5, hr5, hb5⟩; have ho0 := Hidd.mk (own_newrow ho.out hb5 hr5); replace hc5 : (h : Int) ≤ (c5 : Int) := (by have := hm36.out; omega); clear ho hr5 hb5 x0 x1 x2 x3 x4 x5; obtain ⟨x0, x1, x2, x3, x4, x5⟩ := storeR_cells ho0.out 1 rfl ht.out.sum)
              | (go_at_call 33; have hq := ho0.out; clear hq; refine (step_own 2 ho0.out rfl hsl2).mono ?_; rintro e w2 ⟨v1, rfl, ho1⟩; rw [hsE.out, hsS.out, ← hs1.out] at ho1; rw [hbt.out]; obtain ⟨b9, rfl, _⟩ := (show IsE w2 (some (16, -1)) v1 from ho1.get 0 rfl); replace ho1 := Hidd.mk ho1; clear ho0 x0 x1 x2 x3 x4 x5; obtain ⟨x0, x1, x2, x3, x4, x5⟩ := storeR_cells ho1.out 2 rfl ht.out.sum)
              | (go_at_call 34; have hq := ho1.out; clear hq; refine (other_raw p t.active _ 0 x1 hae.out).mono ?_; rintro e w3 ⟨rfl, rfl⟩))
            clear x0 x1 x2 x3 x4 x5
            obtain ⟨W0, hW0⟩ : ∃ zz, zz = World.drew w2 := ⟨_, rfl⟩
            refine wp_region_flow [([0, 4, 5, 9, 14, 1, 6, 2, 7, 3, 8, 10, 17, 11, 18, 12, 13], some (15, [true])), ([], some (16, [false, true])), ([19], some (20, [false, false, false]))] (by kernel_rfl) (by kernel_rfl) ?_
            rw [show ({ w2 with drawn := w2.drawn + 1 } : World) = W0 from hW0.symm]
            replace hW0 := Hidd.mk hW0
            simp only [opsF, List.map_cons, List.map_nil, List.getD_cons_succ, List.getD_cons_zero, Option.map]
            have hX := Hidd.mk (show Own w G W0 [(row 5 1 (.slice A5 m c5) m (nums .u8 (crcSeal bs))).with (Res.pack (flashL f M s1)), eres (some (16, -1)) (.iface 86 (.pointer (some ⟨b9, 0, none⟩))), storeR p f t] by rw [hW0.out]; exact (ho1.out.drew.reorder (M := [row 5 1 (.slice A5 m c5) m (nums .u8 (crcSeal bs)), Res.pack (flashL f M s1), eres (some (16, -1)) (.iface 86 (.pointer (some ⟨b9, 0, none⟩))), storeR p f t]) [1, 3, 0, 2] rfl (by decide)).with_in)
            clear hW0 ho1
            obtain ⟨GX, hGX⟩ : ∃ GX, GX = ((row 5 1 (.slice A5 m c5) m (nums .u8 (crcSeal bs))).with (Res.pack (flashL f M s1))).foot := ⟨_, rfl⟩
            have hL0 : Hidd (Own W0 GX W0 (flashL f M s1 ++ [row 5 1 (.slice A5 m c5) m (nums .u8 (crcSeal bs))])) := ⟨by rw [hGX]; exact ((Own.one (hX.out.get 0 rfl)).with_out.perm (List.Perm.swap ..)).pack_out⟩
            obtain ⟨x0, x1, x2, x3, x4, x5⟩ := storeR_cells hX.out 2 rfl ht.out.sum
            obtain ⟨y0, y1, y2, y3⟩ := flash_cells hL0.out 0 rfl
            have hfl := hL0.out.lt 0 rfl
            have hpl := hX.out.lt 2 rfl
            have hrow := (show W0.ownsRow 0 22 1 (.slice M.A0 M.n0 M.c0) M.n0 M.v0 from hL0.out.get 1 rfl).1
            have hpgl := (show (pgs M.v0 s1.b0).holds W0 from hL0.out.get 4 rfl).1
            have hn2 : Hidd (M.n0 ≤ 10000) := ⟨by have h1 := hlen.out; rw [Nat.mul_one] at hrow; omega⟩
            have hTb : ¬ (Value.slice M.A0 M.n0 M.c0).ownBlock = some f := fun e => hL0.out.apart 0 1 rfl rfl (by decide) f rfl e
            have hTp : ¬ (Value.slice M.A0 M.n0 M.c0).ownBlock = some p := fun e => hX.out.apart 0 2 rfl rfl (by decide) p (.inr (pack_foot_1 f M s1 p e)) rfl
            obtain ⟨T, hT⟩ : ∃ T : Nat → Prop, T = (row 22 1 (.slice M.A0 M.n0 M.c0) M.n0 M.v0).foot := ⟨_, rfl⟩
            replace hTb : ¬ T f := by rw [hT]; exact hTb
            replace hTp : ¬ T p := by rw [hT]; exact hTp
            have hloc : Hidd (Own W0 T W0 [row 22 1 (.slice M.A0 M.n0 M.c0) M.n0 M.v0]) := ⟨by rw [hT]; exact Own.one (hL0.out.get 1 rfl)⟩
            replace hT := Hidd.mk hT
            clear hrow hpgl
            refine FlW.stage (fun zz => Kept T W0 zz) (Kept.refl _ _) ?_
            repeat (first | (refine StQ.skip (by rfl) ?_; simp only [Act.put, List.setIfInBounds_toArray, List.set_cons_zero, List.set_cons_succ]) | (refine StQ.go' (by rfl) (Exists.intro ?_ (And.intro (fun w' hS => ?_) ?_)); rotate_left; (focus (have hc := Kept.cellAt hS; go_simp; try with_reducible rfl)); simp only [Act.put, List.setIfInBounds_toArray, List.set_cons_zero, List.set_cons_succ]))
            refine StQ.nil ?_
            refine FlO.go (by rfl) (fun K hK => ?_); go_simp; refine hK.out _ _ (.inr ⟨Kept.alloc _ _ _, trivial⟩) ?_; clear hK K
            have hl5 := row_lit hloc.out 22 1 1 #[.slice A5 h c5] [.slice A5 h c5] rfl rfl (by decide)
            refine FlW.stage (fun _ => True) trivial (StQ.nil ?_)
            refine FlO.go (by rfl) (fun K hK => ?_)
            (refine wp_row _ _ 49 rfl 22 iB (.slice none 0 0) 1 24 Try.underlying49 hIB.out.1 hIB.out.2.1 hIB.out.2.2.1 hIB.out.2.2.2 (by rfl) (by decide) hl5 1 M.A0 M.n0 M.c0 M.v0 rfl rfl (some ⟨W0.heap.size, 0, none⟩) 1 1 [.slice A5 h c5] rfl rfl (row_cells hl5 0 rfl) (by intro _ h; cases h) (pgF_one _ _ _) (by have := hn2.out; unfold maxLen; omega) (by have := hn2.out; omega) ?_; intro A6 c6 w6 hl6 _)
            refine hK.out _ _ (.inr ⟨hl6.kept, trivial⟩) ?_
            clear hK K
            clear hl5 hloc
            rw [hT.out] at hl6
            obtain ⟨⟨g0, g1⟩, hfin⟩ := flash_fin0 (M := M) (s := s1) ((hL0.out.frame 1 rfl hl6).reorder [2, 1, 3, 4, 5, 6, 7, 8] rfl (by decide)) hm36.out.1
            rw [hGX] at hfin
            have ho7 := Hidd.mk (hX.out.call 0 rfl (Own.pack_in (by rw [List.append_nil]; exact hfin)))
            clear hl6 hL0 hGX hfin hX x0 x1 x2 x3 x4 x5 y0 y1 y2 y3
            refine FlW.stage (fun zz => zz = _) rfl ?_
            repeat (first | (refine StQ.skip (by rfl) ?_; simp only [Act.put, List.setIfInBounds_toArray, List.set_cons_zero, List.set_cons_succ]) | (refine StQ.go' (by rfl) (Exists.intro ?_ (And.intro (fun w' hS => ?_) ?_)); rotate_left; (focus (rw [hS]; go_simp; try with_reducible rfl)); simp only [Act.put, List.setIfInBounds_toArray, List.set_cons_zero, List.set_cons_succ]))
            refine StQ.nil ?_
            refine FlO.go (by rfl) (fun K hK => ?_); go_simp; refine hK.out _ _ (.inr trivial) ?_; clear hK K
            refine FlW.nil (Calm.normal ?_)
            clear g0 g1 hfl hpl hTb hTp hT
            generalize World.setCell w6 _ _ = W7 at ho7 ⊢
            obtain ⟨x0, x1, x2, x3, x4, x5⟩ := storeR_cells ho7.out 2 rfl ht.out.sum
            have g3 := ho7.out.frozen 2 rfl 35
            have ho8 := ho7.out.set 2 rfl 35 (.bool false)
            rw [stV_opn f t false ht.out.sum] at ho8
            replace ho8 := Hidd.mk ho8
            clear ho7
            go_wp2
            go_ret
            exact ⟨_, rfl, _, hend.out _ _ _ _ _ _ (ho8.out.reorder [2, 0, 1] rfl (by decide))⟩
        · rw [if_neg h0] at hx
          injection hx with e1 e2
          injection e2 with e2 e3
          subst e1 e2 e3
          have hsE : Hidd (stepE s = none) := ⟨by unfold stepE; rw [if_neg h0]⟩
          have hbt : Hidd ((s.left == 0) = false) := ⟨by rw [beq_eq_false_iff_ne]; exact h0⟩
          obtain ⟨s1, hs1⟩ : ∃ s1, s1 = stepS s := ⟨_, rfl⟩
          have hlen : Hidd (s1.b0.length ≤ 9999 ∧ s1.b1.length ≤ 9999) := ⟨by rw [hs1]; exact h9⟩
          have hbk : ∀ o, s.bank o = s1.bank o := fun o => by rw [hs1]; rfl
          rw [hbk, ← hs1]
          clear h0 hbk
          by_cases ha : t.active = 0
          · have ho1e : oth t = 1 := by unfold oth; rw [if_pos ha]
            have hae : (if t.active = 0 then 1 else 0) = 1 := by rw [if_pos ha]
            rw [ho1e]
            replace hae := Hidd.mk hae
            clear ho1e ha
            replace hs1 := Hidd.mk hs1
            go_enter Try.func14, Try.ntmps14
            go_upto_region 14 with (first
              | (go_at_call 35; refine (hsc.out _ (Below.refl _ _)).mono ?_; rintro e w1 ⟨A5, c5, rfl, hc5, hr5, hb5⟩; have ho0 := Hidd.mk (own_newrow ho.out hb5 hr5); replace hc5 : (h : Int) ≤ (c5 : Int) := (by have := hm36.out; omega); clear ho hr5 hb5 x0 x1 x2 x3 x4 x5; obtain ⟨x0, x1, x2, x3, x4, x5⟩ := storeR_cells ho0.out 1 rfl ht.out.sum)
              | (go_at_call 33; have hq := ho0.out; clear hq; refine (step_own 2 ho0.out rfl hsl2).mono ?_; rintro e w2 ⟨v1, rfl, ho1⟩; rw [hsE.out, ← hs1.out] at ho1; rw [hbt.out]; obtain rfl : v1 = .nilIface := (show IsE w2 none v1 from ho1.get 0 rfl); replace ho1 := Hidd.mk ho1; clear ho0 x0 x1 x2 x3 x4 x5; obtain ⟨x0, x1, x2, x3, x4, x5⟩ := storeR_cells ho1.out 2 rfl ht.out.sum)
              | (go_at_call 34; have hq := ho1.out; clear hq; refine (other_raw p t.active _ 1 x1 hae.out).mono ?_; rintro e w3 ⟨rfl, rfl⟩))
            clear x0 x1 x2 x3 x4 x5
            obtain ⟨W0, hW0⟩ : ∃ zz, zz = World.drew w2 := ⟨_, rfl⟩
            refine wp_region_flow [([0, 4, 5, 9, 14, 1, 6, 2, 7, 3, 8, 10, 17, 11, 18, 12, 13], some (15, [true])), ([], some (16, [false, true])), ([19], some (20, [false, false, false]))] (by kernel_rfl) (by kernel_rfl) ?_
            rw [show ({ w2 with drawn := w2.drawn + 1 } : World) = W0 from hW0.symm]
            replace hW0 := Hidd.mk hW0
            simp only [opsF, List.map_cons, List.map_nil, List.getD_cons_succ, List.getD_cons_zero, Option.map]
            have hX := Hidd.mk (show Own w G W0 [(row 5 1 (.slice A5 m c5) m (nums .u8 (crcSeal bs))).with (Res.pack (flashL f M s1)), eres none .nilIface, storeR p f t] by rw [hW0.out]; exact (ho1.out.drew.reorder (M := [row 5 1 (.slice A5 m c5) m (nums .u8 (crcSeal bs)), Res.pack (flashL f M s1), eres none .nilIface, storeR p f t]) [1, 3, 0, 2] rfl (by decide)).with_in)
            clear hW0 ho1
            obtain ⟨GX, hGX⟩ : ∃ GX, GX = ((row 5 1 (.slice A5 m c5) m (nums .u8 (crcSeal bs))).with (Res.pack (flashL f M s1))).foot := ⟨_, rfl⟩
            have hL0 : Hidd (Own W0 GX W0 (flashL f M s1 ++ [row 5 1 (.slice A5 m c5) m (nums .u8 (crcSeal bs))])) := ⟨by rw [hGX]; exact ((Own.one (hX.out.get 0 rfl)).with_out.perm (List.Perm.swap ..)).pack_out⟩
            obtain ⟨x0, x1, x2, x3, x4, x5⟩ := storeR_cells hX.out 2 rfl ht.out.sum
            obtain ⟨y0, y1, y2, y3⟩ := flash_cells hL0.out 0 rfl
            have hfl := hL0.out.lt 0 rfl
            have hpl := hX.out.lt 2 rfl
            have hrow := (show W0.ownsRow 0 22 1 (.slice M.A1 M.n1 M.c1) M.n1 M.v1 from hL0.out.get 2 rfl).1
            have hpgl := (show (pgs M.v1 s1.b1).holds W0 from hL0.out.get 5 rfl).1
            have hn2 : Hidd (M.n1 ≤ 10000) := ⟨by have h1 := hlen.out; rw [Nat.mul_one] at hrow; omega⟩
            have hTb : ¬ (Value.slice M.A1 M.n1 M.c1).ownBlock = some f := fun e => hL0.out.apart 0 2 rfl rfl (by decide) f rfl e
            have hTp : ¬ (Value.slice M.A1 M.n1 M.c1).ownBlock = some p := fun e => hX.out.apart 0 2 rfl rfl (by decide) p (.inr (pack_foot_2 f M s1 p e)) rfl
            obtain ⟨T, hT⟩ : ∃ T : Nat → Prop, T = (row 22 1 (.slice M.A1 M.n1 M.c1) M.n1 M.v1).foot := ⟨_, rfl⟩
            replace hTb : ¬ T f := by rw [hT]; exact hTb
            replace hTp : ¬ T p := by rw [hT]; exact hTp
            have hloc : Hidd (Own W0 T W0 [row 22 1 (.slice M.A1 M.n1 M.c1) M.n1 M.v1]) := ⟨by rw [hT]; exact Own.one (hL0.out.get 2 rfl)⟩
            replace hT := Hidd.mk hT
            clear hrow hpgl
            refine FlW.stage (fun zz => Kept T W0 zz) (Kept.refl _ _) ?_
            repeat (first | (refine StQ.skip (by rfl) ?_; simp only [Act.put, List.setIfInBounds_toArray, List.set_cons_zero, List.set_cons_succ]) | (refine StQ.go' (by rfl) (Exists.intro ?_ (And.intro (fun w' hS => ?_) ?_)); rotate_left; (focus (have hc := Kept.cellAt hS; go_simp; try with_reducible rfl)); simp only [Act.put, List.setIfInBounds_toArray, List.set_cons_zero, List.set_cons_succ]))
            refine StQ.nil ?_
            refine FlO.go (by rfl) (fun K hK => ?_); go_simp; refine hK.out _ _ (.inr ⟨Kept.alloc _ _ _, trivial⟩) ?_; clear hK K
            have hl5 := row_lit hloc.out 22 1 1 #[.slice A5 m c5] [.slice A5 m c5] rfl rfl (by decide)
            refine FlW.stage (fun _ => True) trivial (StQ.nil ?_)
            refine FlO.go (by rfl) (fun K hK => ?_)
            (refine wp_row _ _ 49 rfl 22 iB (.slice none 0 0) 1 24 Try.underlying49 hIB.out.1 hIB.out.2.1 hIB.out.2.2.1 hIB.out.2.2.2 (by rfl) (by decide) hl5 1 M.A1 M.n1 M.c1 M.v1 rfl rfl (some ⟨W0.heap.size, 0, none⟩) 1 1 [.slice A5 m c5] rfl rfl (row_cells hl5 0 rfl) (by intro _ h; cases h) (pgF_one _ _ _) (by have := hn2.out; unfold maxLen; omega) (by have := hn2.out; omega) ?_; intro A6 c6 w6 hl6 _)
            refine hK.out _ _ (.inr ⟨hl6.kept, trivial⟩) ?_
            clear hK K
            clear hl5 hloc
            rw [hT.out] at hl6
            obtain ⟨⟨g0, g1⟩, hfin⟩ := flash_fin1 (M := M) (s := s1) ((hL0.out.frame 2 rfl hl6).reorder [2, 3, 1, 4, 5, 6, 7, 8] rfl (by decide)) (Nat.le_refl m)
            rw [hGX] at hfin
            have ho7 := Hidd.mk (hX.out.call 0 rfl (Own.pack_in (by rw [List.append_nil]; exact hfin)))
            clear hl6 hL0 hGX hfin hX x0 x1 x2 x3 x4 x5 y0 y1 y2 y3
            refine FlW.stage (fun zz => zz = _) rfl ?_
            repeat (first | (refine StQ.skip (by rfl) ?_; simp only [Act.put, List.setIfInBounds_toArray, List.set_cons_zero, List.set_cons_succ]) | (refine StQ.go' (by rfl) (Exists.intro ?_ (And.intro (fun w' hS => ?_) ?_)); rotate_left; (focus (rw [hS]; go_simp; try with_reducible rfl)); simp only [Act.put, List.setIfInBounds_toArray, List.set_cons_zero, List.set_cons_succ]))
            refine StQ.nil ?_
            refine FlO.go (by rfl) (fun K hK => ?_); go_simp; refine hK.out _ _ (.inr trivial) ?_; clear hK K
            refine FlW.nil (Calm.normal ?_)
            clear g0 g1 hfl hpl hTb hTp hT
            generalize World.setCell w6 _ _ = W7 at ho7 ⊢
            rw [hful.out] at ho7
            obtain ⟨x0, x1, x2, x3, x4, x5⟩ := storeR_cells ho7.out 2 rfl ht.out.sum
            have g3 := ho7.out.frozen 2 rfl 37
            have ho8 := ho7.out.set 2 rfl 37 (.int .i64 (t.left - (n : Int)))
            rw [stV_left f t _ ht.out.sum] at ho8
            replace ho8 := Hidd.mk ho8
            clear ho7
            go_wp2
            go_ret
            exact ⟨_, rfl, _, hend.out _ _ _ _ _ _ (ho8.out.reorder [2, 0, 1] rfl (by decide))⟩
          · have ho1e : oth t = 0 := by unfold oth; rw [if_neg ha]
            have hae : (if t.active = 0 then 1 else 0) = 0 := by rw [if_neg ha]
            rw [ho1e]
            replace hae := Hidd.mk hae
            clear ho1e ha
            replace hs1 := Hidd.mk hs1
            go_enter Try.func14, Try.ntmps14
            go_upto_region 14 with (first
              | (go_at_call 35; refine (hsc.out _ (Below.refl _ _)).mono ?_; rintro e w1 ⟨A5, c5, rfl, hc5, hr5, hb5⟩; have ho0 := Hidd.mk (own_newrow ho.out hb5 hr5); replace hc5 : (h : Int) ≤ (c5 : Int) := (by have := hm36.out; omega); clear ho hr5 hb5 x0 x1 x2 x3 x4 x5; obtain ⟨x0, x1, x2, x3, x4, x5⟩ := storeR_cells ho0.out 1 rfl ht.out.sum)
              | (go_at_call 33; have hq := ho0.out; clear hq; refine (step_own 2 ho0.out rfl hsl2).mono ?_; rintro e w2 ⟨v1, rfl, ho1⟩; rw [hsE.out, ← hs1.out] at ho1; rw [hbt.out]; obtain rfl : v1 = .nilIface := (show IsE w2 none v1 from ho1.get 0 rfl); replace ho1 := Hidd.mk ho1; clear ho0 x0 x1 x2 x3 x4 x5; obtain ⟨x0, x1, x2, x3, x4, x5⟩ := storeR_cells ho1.out 2 rfl ht.out.sum)
              | (go_at_call 34; have hq := ho1.out; clear hq; refine (other_raw p t.active _ 0 x1 hae.out).mono ?_; rintro e w3 ⟨rfl, rfl⟩))
            clear x0 x1 x2 x3 x4 x5
            obtain ⟨W0, hW0⟩ : ∃ zz, zz = World.drew w2 := ⟨_, rfl⟩
            refine wp_region_flow [([0, 4, 5, 9, 14, 1, 6, 2, 7, 3, 8, 10, 17, 11, 18, 12, 13], some (15, [true])), ([], some (16, [false, true])), ([19], some (20, [false, false, false]))] (by kernel_rfl) (by kernel_rfl) ?_
            rw [show ({ w2 with drawn := w2.drawn + 1 } : World) = W0 from hW0.symm]
            replace hW0 := Hidd.mk hW0
            simp only [opsF, List.map_cons, List.map_nil, List.getD_cons_succ, List.getD_cons_zero, Option.map]
            have hX := Hidd.mk (show Own w G W0 [(row 5 1 (.slice A5 m c5) m (nums .u8 (crcSeal bs))).with (Res.pack (flashL f M s1)), eres none .nilIface, storeR p f t] by rw [hW0.out]; exact (ho1.out.drew.reorder (M := [row 5 1 (.slice A5 m c5) m (nums .u8 (crcSeal bs)), Res.pack (flashL f M s1), eres none .nilIface, storeR p f t]) [1, 3, 0, 2] rfl (by decide)).with_in)
            clear hW0 ho1
            obtain ⟨GX, hGX⟩ : ∃ GX, GX = ((row 5 1 (.slice A5 m c5) m (nums .u8 (crcSeal bs))).with (Res.pack (flashL f M s1))).foot := ⟨_, rfl⟩
            have hL0 : Hidd (Own W0 GX W0 (flashL f M s1 ++ [row 5 1 (.slice A5 m c5) m (nums .u8 (crcSeal bs))])) := ⟨by rw [hGX]; exact ((Own.one (hX.out.get 0 rfl)).with_out.perm (List.Perm.swap ..)).pack_out⟩
            obtain ⟨x0, x1, x2, x3, x4, x5⟩ := storeR_cells hX.out 2 rfl ht.out.sum
            obtain ⟨y0, y1, y2, y3⟩ := flash_cells hL0.out 0 rfl
            have hfl := hL0.out.lt 0 rfl
            have hpl := hX.out.lt 2 rfl
            have hrow := (show W0.ownsRow 0 22 1 (.slice M.A0 M.n0 M.c0) M.n0 M.v0 from hL0.out.get 1 rfl).1
            have hpgl := (show (pgs M.v0 s1.b0).holds W0 from hL0.out.get 4 rfl).1
            have hn2 : Hidd (M.n0 ≤ 10000) := ⟨by have h1 := hlen.out; rw [Nat.mul_one] at hrow; omega⟩
            have hTb : ¬ (Value.slice M.A0 M.n0 M.c0).ownBlock = some f := fun e => hL0.out.apart 0 1 rfl rfl (by decide) f rfl e
            have hTp : ¬ (Value.slice M.A0 M.n0 M.c0).ownBlock = some p := fun e => hX.out.apart 0 2 rfl rfl (by decide) p (.inr (pack_foot_1 f M s1 p e)) rfl
            obtain ⟨T, hT⟩ : ∃ T : Nat → Prop, T = (row 22 1 (.slice M.A0 M.n0 M.c0) M.n0 M.v0).foot := ⟨_, rfl⟩
            replace hTb : ¬ T f := by rw [hT]; exact hTb
            replace hTp : ¬ T p := by rw [hT]; exact hTp
            have hloc : Hidd (Own W0 T W0 [row 22 1 (.slice M.A0 M.n0 M.c0) M.n0 M.v0]) := ⟨by rw [hT]; exact Own.one (hL0.out.get 1 rfl)⟩
            replace hT := Hidd.mk hT
            clear hrow hpgl
            refine FlW.stage (fun zz => Kept T W0 zz) (Kept.refl _ _) ?_
            repeat (first | (refine StQ.skip (by rfl) ?_; simp only [Act.put, List.setIfInBounds_toArray, List.set_cons_zero, List.set_cons_succ]) | (refine StQ.go' (by rfl) (Exists.intro ?_ (And.intro (fun w' hS => ?_) ?_)); rotate_left; (focus (have hc := Kept.cellAt hS; go_simp; try with_reducible rfl)); simp only [Act.put, List.setIfInBounds_toArray, List.set_cons_zero, List.set_cons_succ]))
            refine StQ.nil ?_
            refine FlO.go (by rfl) (fun K hK => ?_); go_simp; refine hK.out _ _ (.inr ⟨Kept.alloc _ _ _, trivial⟩) ?_; clear hK K
            have hl5 := row_lit hloc.out 22 1 1 #[.slice A5 m c5] [.slice A5 m c5] rfl rfl (by decide)
            refine FlW.stage (fun _ => True) trivial (StQ.nil ?_)
            refine FlO.go (by rfl) (fun K hK => ?_)
            (refine wp_row _ _ 49 rfl 22 iB (.slice none 0 0) 1 24 Try.underlying49 hIB.out.1 hIB.out.2.1 hIB.out.2.2.1 hIB.out.2.2.2 (by rfl) (by decide) hl5 1 M.A0 M.n0 M.c0 M.v0 rfl rfl (some ⟨W0.heap.size, 0, none⟩) 1 1 [.slice A5 m c5] rfl rfl (row_cells hl5 0 rfl) (by intro _ h; cases h) (pgF_one _ _ _) (by have := hn2.out; unfold maxLen; omega) (by have := hn2.out; omega) ?_; intro A6 c6 w6 hl6 _)
            refine hK.out _ _ (.inr ⟨hl6.kept, trivial⟩) ?_
            clear hK K
            clear hl5 hloc
            rw [hT.out] at hl6
            obtain ⟨⟨g0, g1⟩, hfin⟩ := flash_fin0 (M := M) (s := s1) ((hL0.out.frame 1 rfl hl6).reorder [2, 1, 3, 4, 5, 6, 7, 8] rfl (by decide)) (Nat.le_refl m)
            rw [hGX] at hfin
            have ho7 := Hidd.mk (hX.out.call 0 rfl (Own.pack_in (by rw [List.append_nil]; exact hfin)))
            clear hl6 hL0 hGX hfin hX x0 x1 x2 x3 x4 x5 y0 y1 y2 y3
            refine FlW.stage (fun zz => zz = _) rfl ?_
            repeat (first | (refine StQ.skip (by rfl) ?_; simp only [Act.put, List.setIfInBounds_toArray, List.set_cons_zero, List.set_cons_succ]) | (refine StQ.go' (by rfl) (Exists.intro ?_ (And.intro (fun w' hS => ?_) ?_)); rotate_left; (focus (rw [hS]; go_simp; try with_reducible rfl)); simp only [Act.put, List.setIfInBounds_toArray, List.set_cons_zero, List.set_cons_succ]))
            refine StQ.nil ?_
            refine FlO.go (by rfl) (fun K hK => ?_); go_simp; refine hK.out _ _ (.inr trivial) ?_; clear hK K
            refine FlW.nil (Calm.normal ?_)
            clear g0 g1 hfl hpl hTb hTp hT
            generalize World.setCell w6 _ _ = W7 at ho7 ⊢
            rw [hful.out] at ho7
            obtain ⟨x0, x1, x2, x3, x4, x5⟩ := storeR_cells ho7.out 2 rfl ht.out.sum
            have g3 := ho7.out.frozen 2 rfl 37
            have ho8 := ho7.out.set 2 rfl 37 (.int .i64 (t.left - (n : Int)))
            rw [stV_left f t _ ht.out.sum] at ho8
            replace ho8 := Hidd.mk ho8
            clear ho7
            go_wp2
            go_ret
            exact ⟨_, rfl, _, hend.out _ _ _ _ _ _ (ho8.out.reorder [2, 0, 1] rfl (by decide))⟩
end Go.Proofs.Ytjbhcmkloamcmaa
