/- Begin of a store. -/
import Derived.Test.YtjbhcmkloamcmaaBkC
namespace Go.Proofs.Ytjbhcmkloamcmaa
open Go.RowKit

theorem StQ.loadB {ops : Array Oper} {S : World → Prop} {Lq : Act → Prop} {a : Act} {o : Oper} {rest : List Oper} {cs : Array Value} {ty : TypeId} (x : Operand) (ho : o.op = .load ty x) {ad : Addr} (hx : a.eval x = .pointer (some ad)) (hw : Region.wanted o (yielded ops a.tmps) = true)
    (hl : ∀ w', S w' → (Instr.loadAt ty (.pointer (some ad))).run Try.prog w' = .ok (.agg cs) w') (h : StQ Try.prog ops S Lq rest (a.put o.dst (.agg cs))) : StQ Try.prog ops S Lq (o :: rest) a := by
  refine .go _ hw (fun w hS => ?_) h
  unfold execOp
  simp only [ho, hx, Sem.run_bind, hl w hS, Result.andThen_ok]
  rfl
theorem kset (w : World) (p i : Nat) (v : Value) : Kept (fun i => i = p) w (w.setCell ⟨p, i, none⟩ v) := Kept.setCell (S := fun i => i = p) w ⟨p, i, none⟩ v rfl
theorem info_sum : (Try.prog.info? 34).map (·.size) = some 32 := by kernel_rfl
theorem under_sum : ∃ d, Try.prog.underlying 34 = some d ∧ d.isRow = true := ⟨_, Try.underlying34, rfl⟩
theorem sum_load {w : World} {b o : Nat} {d : List Int} (h : w.rangeAt b o (nums .u8 d)) (hd : d.length = 32) : (Instr.loadAt 34 (.pointer (some ⟨b, o, none⟩))).run Try.prog w = .ok (.agg (nums .u8 d).toArray) w := by
  obtain ⟨t, h1, h2⟩ := under_sum
  exact run_loadAt_mid w b o 34 (nums .u8 d) t h h1 h2 (by rw [nums_length, hd]; exact info_sum)
theorem range_of_blk {w w' : World} {b : Nat} {d : List Int} {T : Nat → Prop} {ty : TypeId} {fr : Nat × Nat} (h : w.heap[b]? = some (.cells (nums .u8 d).toArray ty fr)) (hk : Kept T w w') (hT : ¬ T b) : w'.rangeAt b 0 (nums .u8 d) := fun j v hj => by
  rw [cell_of_row w' b (0 + j) _ ty fr (hk.row hT h)]
  simpa using hj
theorem range_kept {w w' : World} {b o : Nat} {vs : List Value} {T : Nat → Prop} (h : w.rangeAt b o vs) (hk : Kept T w w') (hT : ¬ T b) : w'.rangeAt b o vs := fun j v hj => hk.cells hT (h j v hj)
theorem nums_all (d : List Int) : (nums .u8 d).toArray.all (·.oneCell') = true := by rw [Array.all_eq_true_iff_forall_mem]; intro v hv; exact nums_one _ _ v (by simpa using hv)
theorem store_there {w0 w : World} {S : Nat → Prop} {L : List Res} {p f : Nat} {s : St} (h : Own w0 S w L) (k : Nat) (hk : L[k]? = some (storeR p f s)) (hs : s.sum.length = 32) (n : Nat) (hn : n = 32) : w.there p 3 n := fun j hj => by
  refine ⟨(storeR_range h k hk).isSome j (by rw [nums_length, hs]; omega), ?_⟩
  exact frozen_of_row w p (3 + j) _ _ (h.get k hk)
set_option maxRecDepth 100000
set_option maxHeartbeats 16000000
theorem begin_nil (n : Int) (sum : List Int) (w : World) : Calls Try.prog 13 #[.pointer none, .int .i64 n, .agg (nums .u8 sum).toArray] w fun e w' => e = .returned (.iface 66 (.int .i64 1)) ∧ Below w.heap.size w w' := by
  have hb := Hidd.mk (below_alloc (Below.refl w.heap.size w) (.cells (nums .u8 sum).toArray 34 (0, 0)))
  go_enter Try.func13, Try.ntmps13
  go_wp2
  go_ret
  exact ⟨rfl, hb.out⟩
theorem begin_own {w w0 : World} {S : Nat → Prop} {L : List Res} {p f : Nat} {M : FA} {t : St} {s : Fs} (k : Nat) (hO : Own w0 S w L) (hk : L[k]? = some (bankR p f M t s)) (ht : t.sum.length = 32) (hl : -1 ≤ s.left ∧ s.left ≤ 1000000) (n : Int) (sum : List Int) (hsum : sum.length = 32)
    (er : Option (Int × Int)) (t' : St) (s' : Fs) (hx : beginX n sum t s = (er, t', s')) :
    Calls Try.prog 13 #[.pointer (some ⟨p, 0, none⟩), .int .i64 n, .agg (nums .u8 sum).toArray] w fun e w' => ∃ v, e = .returned v ∧ ∃ M', Own w0 S w' (eres er v :: L.set k (bankR p f M' t' s')) := by
  obtain ⟨G, hG⟩ : ∃ G, G = (bankR p f M t s).foot := ⟨_, rfl⟩
  have ho : Hidd (Own w G w [storeR p f t, Res.pack (flashL f M s)]) := ⟨by rw [hG]; exact (Own.one (hO.get k hk)).with_out⟩
  have hend : Hidd (∀ w' v er M' t' s', Own w G w' [storeR p f t', Res.pack (flashL f M' s'), eres er v] → Own w0 S w' (eres er v :: L.set k (bankR p f M' t' s'))) := ⟨fun w' v er M' t' s' h => by
    rw [hG] at h
    exact hO.call2 k hk h.with_in⟩
  obtain ⟨x0, x1, x2, x3, x4, x5⟩ := storeR_cells ho.out 0 rfl ht
  have hpl := ho.out.lt 0 rfl
  clear hG hO hk
  have hoA := Hidd.mk (ho.out.alloc (.cells (nums .u8 sum).toArray 34 (0, 0)))
  unfold beginX at hx
  by_cases hbad : n < 0 ∨ 512 < n
  · rw [if_pos hbad] at hx
    injection hx with e1 e2
    injection e2 with e2 e3
    subst e1 e2 e3
    have hway : decide (n < 0) = true ∨ (decide (n < 0) = false ∧ decide (512 < n) = true) := by
      by_cases h : n < 0
      · exact .inl (decide_eq_true h)
      · exact .inr ⟨decide_eq_false h, decide_eq_true (by omega)⟩
    obtain ⟨q, hq⟩ : ∃ q, q = (if n < 0 then -1 else n) := ⟨_, rfl⟩
    rw [← hq]
    have hft : Hidd (∀ W : World, Calls Try.prog 32 #[.int .i64 2, .int .i64 n] W fun e w' => ∃ v, e = .returned v ∧ Own W (fun _ => False) w' [eres (some (2, q)) v]) := ⟨fun W => by rw [hq]; exact fault_any 2 n W (by decide)⟩
    clear hbad ho hq
    rcases hway with d1 | ⟨d1, d2⟩
    all_goals go_enter Try.func13, Try.ntmps13
    all_goals go_wp2_with (go_at_call 32; refine (hft.out _).mono ?_; rintro e w1 ⟨v, rfl, hv⟩; have ho1 := Hidd.mk (hoA.out.made hv); clear hv hoA)
    all_goals go_ret
    all_goals exact ⟨v, rfl, M, hend.out _ _ _ _ _ _ (ho1.out.reorder [2, 3, 0] rfl (by decide))⟩
  · rw [if_neg hbad] at hx
    have d1 : decide (n < 0) = false := decide_eq_false (by omega)
    have d2 : decide (512 < n) = false := decide_eq_false (by omega)
    have f3 := ho.out.frozen 0 rfl 35
    have hz : (w.setCell ⟨p, 35, none⟩ (.bool false)).heap.size = w.heap.size := by simp [World.setCell]
    have hoB := (ho.out.set 0 rfl 35 (.bool false)).alloc (.cells (nums .u8 sum).toArray 34 (0, 0))
    rw [hz] at hoB
    rw [stV_opn f t false ht] at hoB
    replace hoB : Hidd (Own w G _ [blk w.heap.size (.cells (nums .u8 sum).toArray 34 (0, 0)), storeR p f { t with opn := false }, Res.pack (flashL f M s)]) := ⟨hoB⟩
    clear hz
    clear hbad ho hoA
    by_cases h0 : s.left = 0
    · rw [if_pos h0] at hx
      injection hx with e1 e2
      injection e2 with e2 e3
      subst e1 e2 e3
      have hsE : stepE s = some (16, -1) := by unfold stepE; rw [if_pos h0]
      have hsS : stepS s = s := by unfold stepS; rw [if_pos (by omega)]
      have hbt : (s.left == 0) = true := by rw [beq_iff_eq]; exact h0
      replace hsE := Hidd.mk hsE
      replace hsS := Hidd.mk hsS
      replace hbt := Hidd.mk hbt
      clear h0
      go_enter Try.func13, Try.ntmps13
      go_wp2_with (go_at_call 33; refine (step_own 2 hoB.out rfl hl).mono ?_; rintro e w1 ⟨v, rfl, ho1⟩; rw [hsE.out, hsS.out] at ho1; rw [hbt.out]; obtain ⟨b9, rfl, _⟩ := (show IsE w1 (some (16, -1)) v from ho1.get 0 rfl); replace ho1 := Hidd.mk ho1; clear hoB)
      go_ret
      exact ⟨_, rfl, M, hend.out _ _ _ _ _ _ (ho1.out.reorder [2, 3, 0] rfl (by decide))⟩
    · rw [if_neg h0] at hx
      injection hx with e1 e2
      injection e2 with e2 e3
      subst e1 e2 e3
      have hsE : stepE s = none := by unfold stepE; rw [if_neg h0]
      have hbt : (s.left == 0) = false := by rw [beq_eq_false_iff_ne]; exact h0
      replace hsE := Hidd.mk hsE
      replace hbt := Hidd.mk hbt
      clear h0
      obtain ⟨s1, hs1⟩ : ∃ s1, s1 = stepS s := ⟨_, rfl⟩
      rw [← hs1]
      by_cases ha : t.active = 0
      · have ho1e : oth t = 1 := by unfold oth; rw [if_pos ha]
        rw [ho1e]
        have hae : (if t.active = 0 then 1 else 0) = 1 := by rw [if_pos ha]
        replace hae := Hidd.mk hae
        clear ho1e ha
        go_enter Try.func13, Try.ntmps13
        go_upto_region 9 with (go_at_call 33; refine (step_own 2 hoB.out rfl hl).mono ?_; rintro e w1 ⟨v, rfl, ho1⟩; rw [hsE.out, ← hs1] at ho1; rw [hbt.out]; obtain rfl : v = .nilIface := (show IsE w1 none v from ho1.get 0 rfl); replace ho1 := Hidd.mk ho1; clear hoB)
        clear x0 x1 x2 x3 x4 x5 f3 hpl
        replace hs1 := Hidd.mk hs1
        generalize w.heap.size = b5 at ho1 ⊢
        obtain ⟨W0, hW0⟩ : ∃ zz, zz = World.drew w1 := ⟨_, rfl⟩
        refine wp_region_flow [([0, 4, 1, 2, 3, 6, 7], some (5, [true])), ([8], some (9, [false, false]))] (by kernel_rfl) (by kernel_rfl) ?_
        rw [show ({ w1 with drawn := w1.drawn + 1 } : World) = W0 from hW0.symm]
        replace hW0 := Hidd.mk hW0
        simp only [opsF, List.map_cons, List.map_nil, List.getD_cons_succ, List.getD_cons_zero, Option.map]
        have ho2 := Hidd.mk (show Own w G W0 _ by rw [hW0.out]; exact ho1.out.drew)
        clear hW0 ho1
        obtain ⟨x0, x1, x2, x3, x4, x5⟩ := storeR_cells ho2.out 2 rfl ht
        have hf := ho2.out.open_ 3 rfl
        obtain ⟨y0, y1, y2, y3⟩ := flash_cells hf 0 rfl
        have g0 := hf.frozen 0 rfl 0
        have g1 := hf.frozen 0 rfl 1
        have hset := hf.set 0 rfl 1 (.slice none 0 0)
        have hset2 : Own W0 (Res.pack (flashL f M s1)).foot (W0.setCell ⟨f, 1, none⟩ (.slice none 0 0)) (flashL f { M with A1 := none, n1 := 0, c1 := 0, v1 := [] } (s1.put 1 [])) := (row_nil (pgs_nil hset) 22 1).reorder [2, 3, 0, 5, 6, 1, 8] rfl (by decide)
        have ho3 := Hidd.mk (ho2.out.shut 3 rfl hset2)
        have hfl := hf.lt 0 rfl
        clear hf hset hset2
        refine FlW.stage (fun zz => zz = _) rfl ?_
        repeat (first | (refine StQ.skip (by rfl) ?_; simp only [Act.put, List.setIfInBounds_toArray, List.set_cons_zero, List.set_cons_succ]) | (refine StQ.go' (by rfl) (Exists.intro ?_ (And.intro (fun w' hS => ?_) ?_)); rotate_left; (focus (rw [hS]; go_simp; try with_reducible rfl)); simp only [Act.put, List.setIfInBounds_toArray, List.set_cons_zero, List.set_cons_succ]))
        refine StQ.nil ?_
        refine FlO.go (by rfl) (fun K hK => ?_)
        go_simp
        (refine (other_raw p t.active W0 1 x1 hae.out).mono ?_; rintro e wz ⟨rfl, rfl⟩)
        refine hK.out _ _ (.inl rfl) ?_
        clear hK K
        refine FlW.stage (fun zz => zz = _) rfl ?_
        repeat (first | (refine StQ.skip (by rfl) ?_; simp only [Act.put, List.setIfInBounds_toArray, List.set_cons_zero, List.set_cons_succ]) | (refine StQ.go' (by rfl) (Exists.intro ?_ (And.intro (fun w' hS => ?_) ?_)); rotate_left; (focus (rw [hS]; go_simp; try with_reducible rfl)); simp only [Act.put, List.setIfInBounds_toArray, List.set_cons_zero, List.set_cons_succ]))
        refine StQ.nil ?_
        refine FlO.go (by rfl) (fun K hK => ?_); go_simp; refine hK.out _ _ (.inr trivial) ?_; clear hK K
        refine FlW.nil (Calm.normal ?_)
        go_wp2
        clear x0 x1 x2 x3 x4 x5 y0 y1 y2 y3 g0 g1 ho2 hfl
        replace ho3 : Hidd (Own w G _ [eres none .nilIface, blk b5 (.cells (nums .u8 sum).toArray 34 (0, 0)), storeR p f { t with opn := false }, Res.pack (flashL f { M with A1 := none, n1 := 0, c1 := 0, v1 := [] } (s1.put 1 []))]) := ⟨ho3.out⟩
        generalize World.setCell W0 _ _ = W1 at ho3 ⊢
        obtain ⟨W2, hW2⟩ : ∃ zz, zz = World.drew W1 := ⟨_, rfl⟩
        refine wp_region_flow [([0, 1, 2, 3, 4, 5, 6, 7, 8], some (9, [true])), ([10, 11], some (12, [false, true])), ([13, 14], some (15, [false, false, true])), ([16, 17], some (18, [false, false, false, false]))] (by kernel_rfl) (by kernel_rfl) ?_
        rw [show ({ W1 with drawn := W1.drawn + 1 } : World) = W2 from hW2.symm]
        replace hW2 := Hidd.mk hW2
        simp only [opsF, List.map_cons, List.map_nil, List.getD_cons_succ, List.getD_cons_zero, Option.map]
        have ho4 := Hidd.mk (show Own w G W2 _ by rw [hW2.out]; exact ho3.out.drew)
        clear hW2 ho3
        obtain ⟨x0, x1, x2, x3, x4, x5⟩ := storeR_cells ho4.out 2 rfl ht
        have g3 := ho4.out.frozen 2 rfl 35
        have g4 := ho4.out.frozen 2 rfl 36
        have g5 := ho4.out.frozen 2 rfl 37
        have nb : ¬ b5 = p := fun e => ho4.out.apart 1 2 rfl rfl (by decide) b5 rfl e
        have hst1 := ho4.out.set 2 rfl 35 (.bool true)
        rw [stV_opn f { t with opn := false } true ht] at hst1
        replace hst1 : Own w G _ [eres none .nilIface, blk b5 (.cells (nums .u8 sum).toArray 34 (0, 0)), storeR p f { t with opn := true }, Res.pack (flashL f { M with A1 := none, n1 := 0, c1 := 0, v1 := [] } (s1.put 1 []))] := hst1
        have hst2 := hst1.set 2 rfl 36 (.int .i64 n)
        rw [stV_total f { t with opn := true } n ht] at hst2
        replace hst2 : Own w G _ [eres none .nilIface, blk b5 (.cells (nums .u8 sum).toArray 34 (0, 0)), storeR p f { t with opn := true, total := n }, Res.pack (flashL f { M with A1 := none, n1 := 0, c1 := 0, v1 := [] } (s1.put 1 []))] := hst2
        have hst3 := hst2.set 2 rfl 37 (.int .i64 n)
        rw [stV_left f { t with opn := true, total := n } n ht] at hst3
        replace hst3 : Hidd (Own w G _ [eres none .nilIface, blk b5 (.cells (nums .u8 sum).toArray 34 (0, 0)), storeR p f { t with opn := true, total := n, left := n }, Res.pack (flashL f { M with A1 := none, n1 := 0, c1 := 0, v1 := [] } (s1.put 1 []))]) := ⟨hst3⟩
        have hb5 := Hidd.mk (show W2.heap[b5]? = some (.cells (nums .u8 sum).toArray 34 (0, 0)) from ho4.out.get 1 rfl)
        clear hst1 hst2 ho4
        refine FlW.stage (fun zz => Kept (fun i => i = p) W2 zz) (Kept.refl _ _) ?_
        repeat (first | (refine StQ.loadB _ rfl rfl (by rfl) (fun w' hS => sum_load (range_of_blk hb5.out hS nb) hsum) ?_; simp only [Act.put, List.setIfInBounds_toArray, List.set_cons_zero, List.set_cons_succ]) | (refine StQ.skip (by rfl) ?_; simp only [Act.put, List.setIfInBounds_toArray, List.set_cons_zero, List.set_cons_succ]) | (refine StQ.go' (by rfl) (Exists.intro ?_ (And.intro (fun w' hS => ?_) ?_)); rotate_left; (focus (skip; go_simp; try with_reducible rfl)); simp only [Act.put, List.setIfInBounds_toArray, List.set_cons_zero, List.set_cons_succ]))
        refine StQ.nil ?_
        refine FlO.go (by rfl) (fun K hK => ?_); go_simp; refine hK.out _ _ (.inr ⟨kset _ p _ _, trivial⟩) ?_; clear hK K
        refine FlW.stage (fun zz => zz = _) rfl ?_
        repeat (first | (refine StQ.skip (by rfl) ?_; simp only [Act.put, List.setIfInBounds_toArray, List.set_cons_zero, List.set_cons_succ]) | (refine StQ.go' (by rfl) (Exists.intro ?_ (And.intro (fun w' hS => ?_) ?_)); rotate_left; (focus (rw [hS]; go_simp; try with_reducible rfl)); simp only [Act.put, List.setIfInBounds_toArray, List.set_cons_zero, List.set_cons_succ]))
        refine StQ.nil ?_
        refine FlO.go (by rfl) (fun K hK => ?_); go_simp; refine hK.out _ _ (.inr ⟨(kset _ p _ _).trans (kset _ p _ _), trivial⟩) ?_; clear hK K
        refine FlW.stage (fun zz => zz = _) rfl ?_
        repeat (first | (refine StQ.skip (by rfl) ?_; simp only [Act.put, List.setIfInBounds_toArray, List.set_cons_zero, List.set_cons_succ]) | (refine StQ.go' (by rfl) (Exists.intro ?_ (And.intro (fun w' hS => ?_) ?_)); rotate_left; (focus (rw [hS]; go_simp; try with_reducible rfl)); simp only [Act.put, List.setIfInBounds_toArray, List.set_cons_zero, List.set_cons_succ]))
        refine StQ.nil ?_
        refine FlO.go (by rfl) (fun K hK => ?_); go_simp; refine hK.out _ _ (.inr ⟨((kset _ p _ _).trans (kset _ p _ _)).trans (kset _ p _ _), trivial⟩) ?_; clear hK K
        clear x0 x1 x2 x3 x4 x5 g3 g4 g5 hb5 nb
        generalize World.setCell (World.setCell (World.setCell W2 _ _) _ _) _ _ = W3 at hst3 ⊢
        refine FlW.stage (fun zz => zz = _) rfl ?_
        repeat (first | (refine StQ.skip (by rfl) ?_; simp only [Act.put, List.setIfInBounds_toArray, List.set_cons_zero, List.set_cons_succ]) | (refine StQ.go' (by rfl) (Exists.intro ?_ (And.intro (fun w' hS => ?_) ?_)); rotate_left; (focus (rw [hS]; go_simp; try with_reducible rfl)); simp only [Act.put, List.setIfInBounds_toArray, List.set_cons_zero, List.set_cons_succ]))
        refine StQ.nil ?_
        refine FlO.go (by rfl) (fun K hK => ?_)
        (refine wp_store_mid 34 _ _ rfl p 3 (nums .u8 sum).toArray rfl rfl (store_there hst3.out 2 rfl ht _ (by simp [nums_length, hsum])) (by rw [show (nums .u8 sum).toArray.size = 32 by simp [nums_length, hsum]]; exact info_sum) (nums_all sum) ?_)
        refine hK.out _ _ (.inr trivial) ?_
        clear hK K
        have hst4 := Hidd.mk (storeR_sum hst3.out 2 rfl ht sum hsum)
        clear hst3
        refine FlW.nil (Calm.normal ?_)
        go_wp2
        go_ret
        exact ⟨_, rfl, { M with A1 := none, n1 := 0, c1 := 0, v1 := [] }, hend.out _ _ _ _ _ _ (hst4.out.reorder [2, 3, 0] rfl (by decide))⟩
      · have ho1e : oth t = 0 := by unfold oth; rw [if_neg ha]
        rw [ho1e]
        have hae : (if t.active = 0 then 1 else 0) = 0 := by rw [if_neg ha]
        replace hae := Hidd.mk hae
        clear ho1e ha
        go_enter Try.func13, Try.ntmps13
        go_upto_region 9 with (go_at_call 33; refine (step_own 2 hoB.out rfl hl).mono ?_; rintro e w1 ⟨v, rfl, ho1⟩; rw [hsE.out, ← hs1] at ho1; rw [hbt.out]; obtain rfl : v = .nilIface := (show IsE w1 none v from ho1.get 0 rfl); replace ho1 := Hidd.mk ho1; clear hoB)
        clear x0 x1 x2 x3 x4 x5 f3 hpl
        replace hs1 := Hidd.mk hs1
        generalize w.heap.size = b5 at ho1 ⊢
        obtain ⟨W0, hW0⟩ : ∃ zz, zz = World.drew w1 := ⟨_, rfl⟩
        refine wp_region_flow [([0, 4, 1, 2, 3, 6, 7], some (5, [true])), ([8], some (9, [false, false]))] (by kernel_rfl) (by kernel_rfl) ?_
        rw [show ({ w1 with drawn := w1.drawn + 1 } : World) = W0 from hW0.symm]
        replace hW0 := Hidd.mk hW0
        simp only [opsF, List.map_cons, List.map_nil, List.getD_cons_succ, List.getD_cons_zero, Option.map]
        have ho2 := Hidd.mk (show Own w G W0 _ by rw [hW0.out]; exact ho1.out.drew)
        clear hW0 ho1
        obtain ⟨x0, x1, x2, x3, x4, x5⟩ := storeR_cells ho2.out 2 rfl ht
        have hf := ho2.out.open_ 3 rfl
        obtain ⟨y0, y1, y2, y3⟩ := flash_cells hf 0 rfl
        have g0 := hf.frozen 0 rfl 0
        have g1 := hf.frozen 0 rfl 1
        have hset := hf.set 0 rfl 0 (.slice none 0 0)
        have hset2 : Own W0 (Res.pack (flashL f M s1)).foot (W0.setCell ⟨f, 0, none⟩ (.slice none 0 0)) (flashL f { M with A0 := none, n0 := 0, c0 := 0, v0 := [] } (s1.put 0 [])) := (row_nil (pgs_nil hset) 22 1).reorder [2, 0, 4, 5, 1, 7, 8] rfl (by decide)
        have ho3 := Hidd.mk (ho2.out.shut 3 rfl hset2)
        have hfl := hf.lt 0 rfl
        clear hf hset hset2
        refine FlW.stage (fun zz => zz = _) rfl ?_
        repeat (first | (refine StQ.skip (by rfl) ?_; simp only [Act.put, List.setIfInBounds_toArray, List.set_cons_zero, List.set_cons_succ]) | (refine StQ.go' (by rfl) (Exists.intro ?_ (And.intro (fun w' hS => ?_) ?_)); rotate_left; (focus (rw [hS]; go_simp; try with_reducible rfl)); simp only [Act.put, List.setIfInBounds_toArray, List.set_cons_zero, List.set_cons_succ]))
        refine StQ.nil ?_
        refine FlO.go (by rfl) (fun K hK => ?_)
        go_simp
        (refine (other_raw p t.active W0 0 x1 hae.out).mono ?_; rintro e wz ⟨rfl, rfl⟩)
        refine hK.out _ _ (.inl rfl) ?_
        clear hK K
        refine FlW.stage (fun zz => zz = _) rfl ?_
        repeat (first | (refine StQ.skip (by rfl) ?_; simp only [Act.put, List.setIfInBounds_toArray, List.set_cons_zero, List.set_cons_succ]) | (refine StQ.go' (by rfl) (Exists.intro ?_ (And.intro (fun w' hS => ?_) ?_)); rotate_left; (focus (rw [hS]; go_simp; try with_reducible rfl)); simp only [Act.put, List.setIfInBounds_toArray, List.set_cons_zero, List.set_cons_succ]))
        refine StQ.nil ?_
        refine FlO.go (by rfl) (fun K hK => ?_); go_simp; refine hK.out _ _ (.inr trivial) ?_; clear hK K
        refine FlW.nil (Calm.normal ?_)
        go_wp2
        clear x0 x1 x2 x3 x4 x5 y0 y1 y2 y3 g0 g1 ho2 hfl
        replace ho3 : Hidd (Own w G _ [eres none .nilIface, blk b5 (.cells (nums .u8 sum).toArray 34 (0, 0)), storeR p f { t with opn := false }, Res.pack (flashL f { M with A0 := none, n0 := 0, c0 := 0, v0 := [] } (s1.put 0 []))]) := ⟨ho3.out⟩
        generalize World.setCell W0 _ _ = W1 at ho3 ⊢
        obtain ⟨W2, hW2⟩ : ∃ zz, zz = World.drew W1 := ⟨_, rfl⟩
        refine wp_region_flow [([0, 1, 2, 3, 4, 5, 6, 7, 8], some (9, [true])), ([10, 11], some (12, [false, true])), ([13, 14], some (15, [false, false, true])), ([16, 17], some (18, [false, false, false, false]))] (by kernel_rfl) (by kernel_rfl) ?_
        rw [show ({ W1 with drawn := W1.drawn + 1 } : World) = W2 from hW2.symm]
        replace hW2 := Hidd.mk hW2
        simp only [opsF, List.map_cons, List.map_nil, List.getD_cons_succ, List.getD_cons_zero, Option.map]
        have ho4 := Hidd.mk (show Own w G W2 _ by rw [hW2.out]; exact ho3.out.drew)
        clear hW2 ho3
        obtain ⟨x0, x1, x2, x3, x4, x5⟩ := storeR_cells ho4.out 2 rfl ht
        have g3 := ho4.out.frozen 2 rfl 35
        have g4 := ho4.out.frozen 2 rfl 36
        have g5 := ho4.out.frozen 2 rfl 37
        have nb : ¬ b5 = p := fun e => ho4.out.apart 1 2 rfl rfl (by decide) b5 rfl e
        have hst1 := ho4.out.set 2 rfl 35 (.bool true)
        rw [stV_opn f { t with opn := false } true ht] at hst1
        replace hst1 : Own w G _ [eres none .nilIface, blk b5 (.cells (nums .u8 sum).toArray 34 (0, 0)), storeR p f { t with opn := true }, Res.pack (flashL f { M with A0 := none, n0 := 0, c0 := 0, v0 := [] } (s1.put 0 []))] := hst1
        have hst2 := hst1.set 2 rfl 36 (.int .i64 n)
        rw [stV_total f { t with opn := true } n ht] at hst2
        replace hst2 : Own w G _ [eres none .nilIface, blk b5 (.cells (nums .u8 sum).toArray 34 (0, 0)), storeR p f { t with opn := true, total := n }, Res.pack (flashL f { M with A0 := none, n0 := 0, c0 := 0, v0 := [] } (s1.put 0 []))] := hst2
        have hst3 := hst2.set 2 rfl 37 (.int .i64 n)
        rw [stV_left f { t with opn := true, total := n } n ht] at hst3
        replace hst3 : Hidd (Own w G _ [eres none .nilIface, blk b5 (.cells (nums .u8 sum).toArray 34 (0, 0)), storeR p f { t with opn := true, total := n, left := n }, Res.pack (flashL f { M with A0 := none, n0 := 0, c0 := 0, v0 := [] } (s1.put 0 []))]) := ⟨hst3⟩
        have hb5 := Hidd.mk (show W2.heap[b5]? = some (.cells (nums .u8 sum).toArray 34 (0, 0)) from ho4.out.get 1 rfl)
        clear hst1 hst2 ho4
        refine FlW.stage (fun zz => Kept (fun i => i = p) W2 zz) (Kept.refl _ _) ?_
        repeat (first | (refine StQ.loadB _ rfl rfl (by rfl) (fun w' hS => sum_load (range_of_blk hb5.out hS nb) hsum) ?_; simp only [Act.put, List.setIfInBounds_toArray, List.set_cons_zero, List.set_cons_succ]) | (refine StQ.skip (by rfl) ?_; simp only [Act.put, List.setIfInBounds_toArray, List.set_cons_zero, List.set_cons_succ]) | (refine StQ.go' (by rfl) (Exists.intro ?_ (And.intro (fun w' hS => ?_) ?_)); rotate_left; (focus (skip; go_simp; try with_reducible rfl)); simp only [Act.put, List.setIfInBounds_toArray, List.set_cons_zero, List.set_cons_succ]))
        refine StQ.nil ?_
        refine FlO.go (by rfl) (fun K hK => ?_); go_simp; refine hK.out _ _ (.inr ⟨kset _ p _ _, trivial⟩) ?_; clear hK K
        refine FlW.stage (fun zz => zz = _) rfl ?_
        repeat (first | (refine StQ.skip (by rfl) ?_; simp only [Act.put, List.setIfInBounds_toArray, List.set_cons_zero, List.set_cons_succ]) | (refine StQ.go' (by rfl) (Exists.intro ?_ (And.intro (fun w' hS => ?_) ?_)); rotate_left; (focus (rw [hS]; go_simp; try with_reducible rfl)); simp only [Act.put, List.setIfInBounds_toArray, List.set_cons_zero, List.set_cons_succ]))
        refine StQ.nil ?_
        refine FlO.go (by rfl) (fun K hK => ?_); go_simp; refine hK.out _ _ (.inr ⟨(kset _ p _ _).trans (kset _ p _ _), trivial⟩) ?_; clear hK K
        refine FlW.stage (fun zz => zz = _) rfl ?_
        repeat (first | (refine StQ.skip (by rfl) ?_; simp only [Act.put, List.setIfInBounds_toArray, List.set_cons_zero, List.set_cons_succ]) | (refine StQ.go' (by rfl) (Exists.intro ?_ (And.intro (fun w' hS => ?_) ?_)); rotate_left; (focus (rw [hS]; go_simp; try with_reducible rfl)); simp only [Act.put, List.setIfInBounds_toArray, List.set_cons_zero, List.set_cons_succ]))
        refine StQ.nil ?_
        refine FlO.go (by rfl) (fun K hK => ?_); go_simp; refine hK.out _ _ (.inr ⟨((kset _ p _ _).trans (kset _ p _ _)).trans (kset _ p _ _), trivial⟩) ?_; clear hK K
        clear x0 x1 x2 x3 x4 x5 g3 g4 g5 hb5 nb
        generalize World.setCell (World.setCell (World.setCell W2 _ _) _ _) _ _ = W3 at hst3 ⊢
        refine FlW.stage (fun zz => zz = _) rfl ?_
        repeat (first | (refine StQ.skip (by rfl) ?_; simp only [Act.put, List.setIfInBounds_toArray, List.set_cons_zero, List.set_cons_succ]) | (refine StQ.go' (by rfl) (Exists.intro ?_ (And.intro (fun w' hS => ?_) ?_)); rotate_left; (focus (rw [hS]; go_simp; try with_reducible rfl)); simp only [Act.put, List.setIfInBounds_toArray, List.set_cons_zero, List.set_cons_succ]))
        refine StQ.nil ?_
        refine FlO.go (by rfl) (fun K hK => ?_)
        (refine wp_store_mid 34 _ _ rfl p 3 (nums .u8 sum).toArray rfl rfl (store_there hst3.out 2 rfl ht _ (by simp [nums_length, hsum])) (by rw [show (nums .u8 sum).toArray.size = 32 by simp [nums_length, hsum]]; exact info_sum) (nums_all sum) ?_)
        refine hK.out _ _ (.inr trivial) ?_
        clear hK K
        have hst4 := Hidd.mk (storeR_sum hst3.out 2 rfl ht sum hsum)
        clear hst3
        refine FlW.nil (Calm.normal ?_)
        go_wp2
        go_ret
        exact ⟨_, rfl, { M with A0 := none, n0 := 0, c0 := 0, v0 := [] }, hend.out _ _ _ _ _ _ (hst4.out.reorder [2, 3, 0] rfl (by decide))⟩
end Go.Proofs.Ytjbhcmkloamcmaa
