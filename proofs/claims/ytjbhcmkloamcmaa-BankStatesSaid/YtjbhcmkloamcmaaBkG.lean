/- Commit of a store. -/
import Derived.Test.YtjbhcmkloamcmaaBkF
import Derived.Test.YtjbhcmkloamcmaaBkE
import Derived.Test.YtjbhcmkloamcmaaBkH
import Derived.Test.YtjbhcmkloamcmaaDgE
namespace Go.Proofs.Ytjbhcmkloamcmaa
open Go.RowKit

theorem wres_nilK (w : World) (e : TypeId) (size : Nat) : (wres e size none 0 0 []).holds w := ⟨by simp, ⟨Nat.le_refl _, by decide⟩, Cells.nil _ _, fun k h => by (cases h), .inl ⟨by simp, .inl ⟨rfl, rfl⟩⟩⟩
theorem wtrK_new {w w0 : World} {S : Nat → Prop} {L : List Res} (h : Own w0 S w L) : Own w0 S (w.alloc (.cells #[.slice none 0 0] 91)) (wtr w.heap.size none 0 0 [] :: L) := by
  have h1 := h.alloc (.cells #[.slice none 0 0] 91)
  have h2 := h1.new (wres 5 1 none 0 0 []) (Below.refl _ _) (wres_nilK _ _ _) (fun i hi => by cases hi)
  exact (h2.perm (List.Perm.swap ..)).join (wtr w.heap.size none 0 0 []) (fun a b c => ⟨a, b, fun k hk e => c k e hk⟩) (fun i hi => hi)
theorem mark_num (o n : Nat) : ([] ++ wputN o 1) ++ wputN n 2 = [((o % 256 : Nat) : Int), ((n / 256 % 256 : Nat) : Int), ((n % 256 : Nat) : Int)] := by simp [wputN]
theorem mark_num2 (o n : Nat) (ho : o < 2) (hn : n ≤ 512) : ([] ++ wputN o 1) ++ wputN n 2 = [(o : Int), (n : Int) / 256, (n : Int) % 256] := by
  rw [mark_num]
  congr 1
  · omega
  · congr 1
    · omega
set_option maxRecDepth 100000
set_option maxHeartbeats 16000000
theorem commit_nil (w : World) : Calls Try.prog 20 #[.pointer none] w fun e w' => e = .returned (.iface 66 (.int .i64 1)) ∧ w = w' := by
  go_enter Try.func20, Try.ntmps20
  go_wp2
  go_ret
  exact ⟨rfl, rfl⟩
theorem commit_own {w w0 : World} {S : Nat → Prop} {L : List Res} {p f : Nat} {M : FA} {t : St} {s : Fs} (k : Nat) (hO : Own w0 S w L) (hk : L[k]? = some (bankR p f M t s)) (ht : StOk t) (hs : FsOk s)
    (er : Option (Int × Int)) (t' : St) (s' : Fs) (hx : commitX t s = (er, t', s')) (h9 : s.mrk.length ≤ 9999) :
    Calls Try.prog 20 #[.pointer (some ⟨p, 0, none⟩)] w fun e w' => ∃ v, e = .returned v ∧ ∃ M', Own w0 S w' (eres er v :: L.set k (bankR p f M' t' s')) := by
  obtain ⟨G, hG⟩ : ∃ G, G = (bankR p f M t s).foot := ⟨_, rfl⟩
  have ho : Hidd (Own w G w [storeR p f t, Res.pack (flashL f M s)]) := ⟨by rw [hG]; exact (Own.one (hO.get k hk)).with_out⟩
  have hend : Hidd (∀ w' v er M' t' s', Own w G w' [storeR p f t', Res.pack (flashL f M' s'), eres er v] → Own w0 S w' (eres er v :: L.set k (bankR p f M' t' s'))) := ⟨fun w' v er M' t' s' h => by
    rw [hG] at h
    exact hO.call2 k hk h.with_in⟩
  obtain ⟨x0, x1, x2, x3, x4, x5⟩ := storeR_cells ho.out 0 rfl ht.sum
  clear hG hO hk
  unfold commitX at hx
  by_cases hop : t.opn = false
  · rw [if_pos hop] at hx
    injection hx with e1 e2
    injection e2 with e2 e3
    subst e1 e2 e3
    rw [hop] at x3
    clear hop ht hs
    go_enter Try.func20, Try.ntmps20
    go_wp2_with (go_at_call 32; refine (fault_any 15 (-1) _ (by decide)).mono ?_; rintro e w1 ⟨v, rfl, hv⟩; have ho1 := Hidd.mk (ho.out.made hv); clear hv ho)
    go_ret
    exact ⟨v, rfl, M, hend.out _ _ _ _ _ _ (ho1.out.reorder [1, 2, 0] rfl (by decide))⟩
  · rw [if_neg hop] at hx
    have hop2 : t.opn = true := by simpa using hop
    rw [hop2] at x3
    clear hop
    by_cases hl : t.left ≠ 0
    · rw [if_pos hl] at hx
      injection hx with e1 e2
      injection e2 with e2 e3
      subst e1 e2 e3
      have d1 : (t.left == 0) = false := by rw [beq_eq_false_iff_ne]; exact hl
      have d2 : (t.left != 0) = true := by rw [bne_iff_ne]; exact hl
      have hft : Hidd (∀ W : World, Calls Try.prog 32 #[.int .i64 4, .int .i64 t.left] W fun e w' => ∃ v, e = .returned v ∧ Own W (fun _ => False) w' [eres (some (4, t.left)) v]) := ⟨fun W => by
        have := fault_any 4 t.left W (by decide)
        rw [if_neg (by have := ht.left; omega)] at this
        exact this⟩
      clear hop2 ht hs hl
      go_enter Try.func20, Try.ntmps20
      go_wp2_with (go_at_call 32; refine (hft.out _).mono ?_; rintro e w1 ⟨v, rfl, hv⟩; have ho1 := Hidd.mk (ho.out.made hv); clear hv ho)
      go_ret
      exact ⟨v, rfl, M, hend.out _ _ _ _ _ _ (ho1.out.reorder [1, 2, 0] rfl (by decide))⟩
    · rw [if_neg hl] at hx
      have hl0 : t.left = 0 := by simpa using hl
      rw [hl0] at x5
      obtain ⟨z, hz⟩ : ∃ z : Nat, t.total = z := ⟨t.total.toNat, by have := ht.total; omega⟩
      have hz5 : z ≤ 512 := by have := ht.total; omega
      have htn : t.total.toNat = z := by rw [hz]; rfl
      rw [htn] at hx
      have ha2 : ∃ o, o < 2 ∧ oth t = o ∧ (if t.active = 0 then 1 else 0) = o := by unfold oth; split <;> exact ⟨_, by decide, rfl, rfl⟩
      obtain ⟨o, hob, hoe, hae⟩ := ha2
      rw [hoe] at hx
      have ho0 := ho.out.set 0 rfl 35 (.bool false)
      rw [stV_opn f t false ht.sum] at ho0
      replace ho0 : Hidd (Own w G _ [storeR p f { t with opn := false }, Res.pack (flashL f M s)]) := ⟨ho0⟩
      have f3 := ho.out.frozen 0 rfl 35
      obtain ⟨iB, hIB⟩ := info_parts info_bs
      replace hIB := Hidd.mk hIB
      replace hae := Hidd.mk hae
      have hsum := Hidd.mk ht.sum
      obtain ⟨D, hD⟩ : ∃ D, D = readB (s.bank o) z := ⟨_, rfl⟩
      rw [← hD] at hx
      have hne : ∀ W : World, (binOp .neq 34 (.agg (nums .u8 (sha D)).toArray) (.agg (nums .u8 t.sum).toArray)).run Try.prog W = .ok (.bool (!decide (sha D = t.sum))) W := fun W => neq_sums 34 Try.underlying34 _ _ (sha_len D) ht.sum W
      have hDl : Hidd (D.length ≤ 100000) := ⟨by rw [hD]; unfold readB; rw [List.length_take]; omega⟩
      obtain ⟨m, hm⟩ : ∃ m, D.length = m := ⟨_, rfl⟩
      have hrd : Hidd (∀ W : World, Own w G W [storeR p f { t with opn := false }, Res.pack (flashL f M s)] → Calls Try.prog 38 #[.pointer (some ⟨p, 0, none⟩), .int .i64 o, .int .i64 z] W fun e w' => ∃ A' c', e = .returned (.slice A' m c') ∧ Own W (fun _ => False) w' [row 5 1 (.slice A' m c') m (nums .u8 D)]) := ⟨fun W hW => by
        obtain ⟨u0, u1, u2, u3, u4, u5⟩ := storeR_cells hW 0 rfl ht.sum
        have hf := hW.open_ 1 rfl
        obtain ⟨y0, y1, y2, y3⟩ := flash_cells hf 0 rfl
        have hlen1 : M.v0.length = M.n0 := by have := (show W.ownsRow 0 22 1 (.slice M.A0 M.n0 M.c0) M.n0 M.v0 from hf.get 1 rfl).1; simpa using this
        have hlen2 : M.v1.length = M.n1 := by have := (show W.ownsRow 0 22 1 (.slice M.A1 M.n1 M.c1) M.n1 M.v1 from hf.get 2 rfl).1; simpa using this
        have hl0 : M.v0.length = s.b0.length := (show (pgs M.v0 s.b0).holds W from hf.get 4 rfl).1
        have hl1 : M.v1.length = s.b1.length := (show (pgs M.v1 s.b1).holds W from hf.get 5 rfl).1
        rw [hD]
        obtain rfl | rfl : o = 0 ∨ o = 1 := by omega
        · exact read_raw p f 0 M.A0 M.n0 M.c0 M.v0 s.b0 z W u0 y0 (by decide) (row_cells hf 1 rfl) hlen1 (hf.get 4 rfl) hs.p0 (by have := hs.l0; omega) (by omega) m (by rw [← hm, hD]; rfl)
        · exact read_raw p f 1 M.A1 M.n1 M.c1 M.v1 s.b1 z W u0 y1 (by decide) (row_cells hf 2 rfl) hlen2 (hf.get 5 rfl) hs.p1 (by have := hs.l1; omega) (by omega) m (by rw [← hm, hD]; rfl)⟩
      rw [hz] at x4
      have hm5 : Hidd (m ≤ 1000000) := ⟨by have := hDl.out; omega⟩
      replace hm := Hidd.mk hm
      replace ht := Hidd.mk ht
      have hsl2 := hs.left
      have hmk9 : Hidd (s.mrk.length ≤ 9999) := ⟨h9⟩
      have hpl := ho.out.lt 0 rfl
      replace hs := Hidd.mk hs
      clear hop2 hl hl0 ho hD hoe h9 hDl htn
      obtain ⟨b, hbd⟩ : ∃ b, b = decide (sha D = t.sum) := ⟨_, rfl⟩
      simp only [← hbd] at hne
      have hzi : t.total = (z : Int) := hz
      replace hzi := Hidd.mk hzi
      clear hz
      cases b with
      | false =>
        rw [if_pos (by intro h; rw [decide_eq_true h] at hbd; cases hbd)] at hx
        injection hx with e1 e2
        injection e2 with e2 e3
        subst e1 e2 e3
        clear hbd
        replace hne : ∀ W : World, (binOp .neq 34 (.agg (nums .u8 (sha D)).toArray) (.agg (nums .u8 t.sum).toArray)).run Try.prog W = .ok (.bool true) W := hne
        replace hne := Hidd.mk hne
        go_enter Try.func20, Try.ntmps20
        go_upto_region 9 with (go_at_call 34; refine (other_raw p t.active _ o x1 hae.out).mono ?_; rintro e w3 ⟨rfl, rfl⟩)
        obtain ⟨w3, hw3⟩ : ∃ w3, w3 = w.setCell ⟨p, 35, none⟩ (.bool false) := ⟨_, rfl⟩
        rw [← hw3] at ho0 ⊢
        clear hw3 x0 x1 x2 x3 x4 x5 f3 hpl
        obtain ⟨W0, hW0⟩ : ∃ zz, zz = World.drew w3 := ⟨_, rfl⟩
        refine wp_region_flow [([0, 1, 2, 8, 3, 9, 4, 10, 5, 11], some (6, [true])), ([], some (7, [false, true])), ([12], none)] (by kernel_rfl) (by kernel_rfl) ?_
        rw [show ({ w3 with drawn := w3.drawn + 1 } : World) = W0 from hW0.symm]
        replace hW0 := Hidd.mk hW0
        simp only [opsF, List.map_cons, List.map_nil, List.getD_cons_succ, List.getD_cons_zero, Option.map]
        have ho2 := Hidd.mk (show Own w G W0 _ by rw [hW0.out]; exact ho0.out.drew)
        clear hW0 ho0
        obtain ⟨x0, x1, x2, x3, x4, x5⟩ := storeR_cells ho2.out 0 rfl hsum.out
        have x4' : W0.cell? ⟨p, 36, none⟩ = some (.int .i64 (z : Int)) := by rw [x4]; exact congrArg (fun q => some (Value.int .i64 q)) hzi.out
        clear x4
        have hpl := ho2.out.lt 0 rfl
        have hrg := Hidd.mk (storeR_range ho2.out 0 rfl)
        refine FlW.stage (fun zz => Kept (fun _ => False) W0 zz) (Kept.refl _ _) ?_
        repeat (first | (refine StQ.loadB _ rfl rfl (by rfl) (fun w' hS => sum_load (range_kept hrg.out hS (fun h => h)) hsum.out) ?_; simp only [Act.put, List.setIfInBounds_toArray, List.set_cons_zero, List.set_cons_succ]) | (refine StQ.skip (by rfl) ?_; simp only [Act.put, List.setIfInBounds_toArray, List.set_cons_zero, List.set_cons_succ]) | (refine StQ.go' (by rfl) (Exists.intro ?_ (And.intro (fun w' hS => ?_) ?_)); rotate_left; (focus (have hc := Kept.cell0 hS; go_simp; try with_reducible rfl)); simp only [Act.put, List.setIfInBounds_toArray, List.set_cons_zero, List.set_cons_succ]))
        refine StQ.nil ?_
        refine FlO.go (by rfl) (fun K hK => ?_)
        go_simp
        (refine (hrd.out _ ho2.out).mono ?_; rintro e w4 ⟨A4, c4, rfl, hr4⟩)
        refine hK.out _ _ (.inr ⟨hr4.kept, trivial⟩) ?_
        clear hK K
        have hk4 := hr4.kept
        have hC4 := Hidd.mk (row_cells hr4 0 rfl)
        have ho3 := Hidd.mk (ho2.out.ext (hr4.below fun _ => id))
        clear hr4 ho2 hrd
        refine FlW.stage (fun _ => True) trivial (StQ.nil ?_)
        refine FlO.go (by rfl) (fun K hK => ?_)
        go_simp
        (refine (digestOf_any _ A4 m c4 D hm.out hm5.out hC4.out).mono ?_; rintro e w5 ⟨rfl, hb5⟩)
        refine hK.out _ _ (.inr ⟨hk4.trans (Kept.below hb5), trivial⟩) ?_
        clear hK K
        have ho4 := Hidd.mk (ho3.out.ext hb5)
        clear ho3 hb5 hk4 hC4 x0 x1 x2 x3 x4' x5 hpl hrg
        have hne2 := hne.out
        refine FlW.heads (fun zz => zz = _) rfl ?_
        repeat (first | (refine StQ.skip (by rfl) ?_; simp only [Act.put, List.setIfInBounds_toArray, List.set_cons_zero, List.set_cons_succ]) | (refine StQ.go' (by rfl) (Exists.intro ?_ (And.intro (fun w' hS => ?_) ?_)); rotate_left; (focus (rw [hS]; go_simp; try with_reducible rfl)); simp only [Act.put, List.setIfInBounds_toArray, List.set_cons_zero, List.set_cons_succ]))
        refine StQ.nil ?_
        refine FlW.nil (Calm.normal ?_)
        clear hne2
        go_wp2_with (go_at_call 32; refine (fault_any 6 (-1) _ (by decide)).mono ?_; rintro e w5 ⟨v, rfl, hv⟩; have ho5 := Hidd.mk (ho4.out.made hv); clear hv ho4)
        go_ret
        exact ⟨v, rfl, M, hend.out _ _ _ _ _ _ (ho5.out.reorder [1, 2, 0] rfl (by decide))⟩
      | true =>
        rw [if_neg (by intro h; exact h (of_decide_eq_true hbd.symm))] at hx
        clear hbd
        replace hne : ∀ W : World, (binOp .neq 34 (.agg (nums .u8 (sha D)).toArray) (.agg (nums .u8 t.sum).toArray)).run Try.prog W = .ok (.bool false) W := hne
        replace hne := Hidd.mk hne
        have hob2 : (o : Int) ≤ 1 := by omega
        have hob0 : (0 : Int) ≤ (o : Int) := by omega
        have hz0 : (0 : Int) ≤ (z : Int) := by omega
        have hz1 : (z : Int) ≤ 512 := by omega
        have hmb := Hidd.mk (mark_bytes o z hob hz5)
        have hmn := Hidd.mk (mark_num2 o z hob hz5)
        have hsl7 : Hidd ((crcSeal [(o : Int), (z : Int) / 256, (z : Int) % 256]).length = 7) := ⟨by rw [crcSeal_length]; rfl⟩
        have hzb := Hidd.mk hz5
        have hobb := Hidd.mk hob
        clear hz5 hob
        by_cases h0 : s.left = 0
        · rw [if_pos h0] at hx
          injection hx with e1 e2
          injection e2 with e2 e3
          subst e1 e2 e3
          have hsE : Hidd (stepE s = some (16, -1)) := ⟨by unfold stepE; rw [if_pos h0]⟩
          have hsS : Hidd (stepS s = s) := ⟨by unfold stepS; rw [if_pos (by omega)]⟩
          have hbt : Hidd ((s.left == 0) = true) := ⟨by rw [beq_iff_eq]; exact h0⟩
          have hhp : Hidd (halfP true (markP o t.total) = (crcSeal [(o : Int), (z : Int) / 256, (z : Int) % 256]).take 3) := ⟨by unfold halfP markP; rw [hzi.out, if_pos rfl, hsl7.out]⟩
          obtain ⟨s1, hs1⟩ : ∃ s1, s1 = s := ⟨_, rfl⟩
          have hlen : Hidd (s1.mrk.length ≤ 9999) := ⟨by rw [hs1]; exact hmk9.out⟩
          rw [← hs1]
          clear h0
          replace hs1 := Hidd.mk hs1
          go_enter Try.func20, Try.ntmps20
          go_upto_region 9 with (go_at_call 34; refine (other_raw p t.active _ o x1 hae.out).mono ?_; rintro e w3 ⟨rfl, rfl⟩)
          obtain ⟨w3, hw3⟩ : ∃ w3, w3 = w.setCell ⟨p, 35, none⟩ (.bool false) := ⟨_, rfl⟩
          rw [← hw3] at ho0 ⊢
          clear hw3 x0 x1 x2 x3 x4 x5 f3 hpl
          obtain ⟨W0, hW0⟩ : ∃ zz, zz = World.drew w3 := ⟨_, rfl⟩
          refine wp_region_flow [([0, 1, 2, 8, 3, 9, 4, 10, 5, 11], some (6, [true])), ([], some (7, [false, true])), ([12], none)] (by kernel_rfl) (by kernel_rfl) ?_
          rw [show ({ w3 with drawn := w3.drawn + 1 } : World) = W0 from hW0.symm]
          replace hW0 := Hidd.mk hW0
          simp only [opsF, List.map_cons, List.map_nil, List.getD_cons_succ, List.getD_cons_zero, Option.map]
          have ho2 := Hidd.mk (show Own w G W0 _ by rw [hW0.out]; exact ho0.out.drew)
          clear hW0 ho0
          obtain ⟨x0, x1, x2, x3, x4, x5⟩ := storeR_cells ho2.out 0 rfl hsum.out
          have x4' : W0.cell? ⟨p, 36, none⟩ = some (.int .i64 (z : Int)) := by rw [x4]; exact congrArg (fun q => some (Value.int .i64 q)) hzi.out
          clear x4
          have hpl := ho2.out.lt 0 rfl
          have hrg := Hidd.mk (storeR_range ho2.out 0 rfl)
          refine FlW.stage (fun zz => Kept (fun _ => False) W0 zz) (Kept.refl _ _) ?_
          repeat (first | (refine StQ.loadB _ rfl rfl (by rfl) (fun w' hS => sum_load (range_kept hrg.out hS (fun h => h)) hsum.out) ?_; simp only [Act.put, List.setIfInBounds_toArray, List.set_cons_zero, List.set_cons_succ]) | (refine StQ.skip (by rfl) ?_; simp only [Act.put, List.setIfInBounds_toArray, List.set_cons_zero, List.set_cons_succ]) | (refine StQ.go' (by rfl) (Exists.intro ?_ (And.intro (fun w' hS => ?_) ?_)); rotate_left; (focus (have hc := Kept.cell0 hS; go_simp; try with_reducible rfl)); simp only [Act.put, List.setIfInBounds_toArray, List.set_cons_zero, List.set_cons_succ]))
          refine StQ.nil ?_
          refine FlO.go (by rfl) (fun K hK => ?_)
          go_simp
          (refine (hrd.out _ ho2.out).mono ?_; rintro e w4 ⟨A4, c4, rfl, hr4⟩)
          refine hK.out _ _ (.inr ⟨hr4.kept, trivial⟩) ?_
          clear hK K
          have hk4 := hr4.kept
          have hC4 := Hidd.mk (row_cells hr4 0 rfl)
          have ho3 := Hidd.mk (ho2.out.ext (hr4.below fun _ => id))
          clear hr4 ho2 hrd
          refine FlW.stage (fun _ => True) trivial (StQ.nil ?_)
          refine FlO.go (by rfl) (fun K hK => ?_)
          go_simp
          (refine (digestOf_any _ A4 m c4 D hm.out hm5.out hC4.out).mono ?_; rintro e w5 ⟨rfl, hb5⟩)
          refine hK.out _ _ (.inr ⟨hk4.trans (Kept.below hb5), trivial⟩) ?_
          clear hK K
          have ho4 := Hidd.mk (ho3.out.ext hb5)
          clear ho3 hb5 hk4 hC4 x0 x1 x2 x3 x4' x5 hpl hrg
          have hne2 := hne.out
          refine FlW.heads (fun zz => zz = _) rfl ?_
          repeat (first | (refine StQ.skip (by rfl) ?_; simp only [Act.put, List.setIfInBounds_toArray, List.set_cons_zero, List.set_cons_succ]) | (refine StQ.go' (by rfl) (Exists.intro ?_ (And.intro (fun w' hS => ?_) ?_)); rotate_left; (focus (rw [hS]; go_simp; try with_reducible rfl)); simp only [Act.put, List.setIfInBounds_toArray, List.set_cons_zero, List.set_cons_succ]))
          refine StQ.nil ?_
          refine FlW.nil (Calm.normal ?_)
          clear hne2
          go_upto_region 18 with (first
            | (go_at_call 40; have hq := ho4.out; clear hq; have ho5 := wtrK_new ho4.out; obtain ⟨u0, u1, u2, u3, u4, u5⟩ := storeR_cells ho4.out 0 rfl hsum.out; refine (put_own 0 ho5 rfl o 1 (by decide) (by have := hobb.out; omega) 1 (by decide)).mono ?_; rintro e w6 ⟨rfl, A6, c6, ho6⟩; replace ho6 := Hidd.mk ho6; clear ho5 ho4 u0 u1 u2 u3 u4 u5; obtain ⟨x0, x1, x2, x3, x4, x5⟩ := storeR_cells ho6.out 1 rfl hsum.out; have x4' : w6.cell? ⟨p, 36, none⟩ = some (.int .i64 (z : Int)) := (by rw [x4]; exact congrArg (fun q => some (Value.int .i64 q)) hzi.out); clear x4)
            | (go_at_call 40; have hq := ho6.out; clear hq; refine (put_own 0 ho6.out rfl z 2 (by decide) (by have := hzb.out; omega) 2 (by decide)).mono ?_; rintro e w7 ⟨rfl, A7, c7, ho7⟩; rw [hmn.out] at ho7; replace ho7 := Hidd.mk ho7; clear ho6 x0 x1 x2 x3 x4' x5)
            | (go_at_call 41; have hq := ho7.out; clear hq; refine (bytes_own 0 ho7.out rfl (by decide)).mono ?_; rintro e w8 ⟨A8, c8, rfl, ho8⟩; replace ho8 := Hidd.mk ho8; clear ho7)
            | (go_at_call 35; have hq := ho8.out; clear hq; refine (seal_at A8 3 c8 [(o : Int), (z : Int) / 256, (z : Int) % 256] _ (show WIn _ 5 1 A8 3 c8 _ from ho8.out.get 0 rfl).cells hmb.out (by decide) rfl).mono ?_; rintro e w1 ⟨A5, c5, rfl, hc5, hr5, _, hb5⟩; have ho0 := Hidd.mk ((own_newrow ho8.out hb5 hr5).reorder (M := [row 5 1 (.slice A5 7 c5) 7 (nums .u8 (crcSeal [(o : Int), (z : Int) / 256, (z : Int) % 256])), storeR p f { t with opn := false }, Res.pack (flashL f M s)]) [0, 3, 4] rfl (by decide)); replace hc5 : (7 : Int) ≤ (c5 : Int) := (by omega); clear ho8 hr5 hb5; obtain ⟨x0, x1, x2, x3, x4, x5⟩ := storeR_cells ho0.out 1 rfl hsum.out)
            | (go_at_call 33; have hq := ho0.out; clear hq; refine (step_own 2 ho0.out rfl hsl2).mono ?_; rintro e w9 ⟨v1, rfl, ho1⟩; rw [hsE.out, hsS.out, ← hs1.out] at ho1; rw [hbt.out]; obtain ⟨b9, rfl, _⟩ := (show IsE w9 (some (16, -1)) v1 from ho1.get 0 rfl); replace ho1 := Hidd.mk ho1; clear ho0 x0 x1 x2 x3 x4 x5))
          obtain ⟨W0, hW0⟩ : ∃ zz, zz = World.drew w9 := ⟨_, rfl⟩
          refine wp_region_flow [([0, 4, 11, 1, 5, 2, 6, 3, 7, 8, 9, 10], some (12, [true])), ([], some (13, [false, true])), ([14, 15], some (16, [false, false, false]))] (by kernel_rfl) (by kernel_rfl) ?_
          rw [show ({ w9 with drawn := w9.drawn + 1 } : World) = W0 from hW0.symm]
          replace hW0 := Hidd.mk hW0
          simp only [opsF, List.map_cons, List.map_nil, List.getD_cons_succ, List.getD_cons_zero, Option.map]
          have hX := Hidd.mk (show Own w G W0 [(row 5 1 (.slice A5 7 c5) 7 (nums .u8 (crcSeal [(o : Int), (z : Int) / 256, (z : Int) % 256]))).with (Res.pack (flashL f M s1)), eres (some (16, -1)) (.iface 86 (.pointer (some ⟨b9, 0, none⟩))), storeR p f { t with opn := false }] by rw [hW0.out]; exact (ho1.out.drew.reorder (M := [row 5 1 (.slice A5 7 c5) 7 (nums .u8 (crcSeal [(o : Int), (z : Int) / 256, (z : Int) % 256])), Res.pack (flashL f M s1), eres (some (16, -1)) (.iface 86 (.pointer (some ⟨b9, 0, none⟩))), storeR p f { t with opn := false }]) [1, 3, 0, 2] rfl (by decide)).with_in)
          clear hW0 ho1
          obtain ⟨GX, hGX⟩ : ∃ GX, GX = ((row 5 1 (.slice A5 7 c5) 7 (nums .u8 (crcSeal [(o : Int), (z : Int) / 256, (z : Int) % 256]))).with (Res.pack (flashL f M s1))).foot := ⟨_, rfl⟩
          have hL0 : Hidd (Own W0 GX W0 (flashL f M s1 ++ [row 5 1 (.slice A5 7 c5) 7 (nums .u8 (crcSeal [(o : Int), (z : Int) / 256, (z : Int) % 256]))])) := ⟨by rw [hGX]; exact ((Own.one (hX.out.get 0 rfl)).with_out.perm (List.Perm.swap ..)).pack_out⟩
          obtain ⟨x0, x1, x2, x3, x4, x5⟩ := storeR_cells hX.out 2 rfl hsum.out
          obtain ⟨y0, y1, y2, y3⟩ := flash_cells hL0.out 0 rfl
          have hfl := hL0.out.lt 0 rfl
          have hpl := hX.out.lt 2 rfl
          have hrow := (show W0.ownsRow 0 22 1 (.slice M.AM M.nm M.cm) M.nm M.vm from hL0.out.get 3 rfl).1
          have hpgl := (show (pgs M.vm s1.mrk).holds W0 from hL0.out.get 6 rfl).1
          have hn2 : Hidd (M.nm ≤ 10000) := ⟨by have h1 := hlen.out; rw [Nat.mul_one] at hrow; omega⟩
          have hTb : ¬ (Value.slice M.AM M.nm M.cm).ownBlock = some f := fun e => hL0.out.apart 0 3 rfl rfl (by decide) f rfl e
          have hTp : ¬ (Value.slice M.AM M.nm M.cm).ownBlock = some p := fun e => hX.out.apart 0 2 rfl rfl (by decide) p (.inr (pack_foot_3 f M s1 p e)) rfl
          obtain ⟨T, hT⟩ : ∃ T : Nat → Prop, T = (row 22 1 (.slice M.AM M.nm M.cm) M.nm M.vm).foot := ⟨_, rfl⟩
          replace hTb : ¬ T f := by rw [hT]; exact hTb
          replace hTp : ¬ T p := by rw [hT]; exact hTp
          have hloc : Hidd (Own W0 T W0 [row 22 1 (.slice M.AM M.nm M.cm) M.nm M.vm]) := ⟨by rw [hT]; exact Own.one (hL0.out.get 3 rfl)⟩
          replace hT := Hidd.mk hT
          clear hrow hpgl
          refine FlW.stage (fun zz => Kept T W0 zz) (Kept.refl _ _) ?_
          repeat (first | (refine StQ.skip (by rfl) ?_; simp only [Act.put, List.setIfInBounds_toArray, List.set_cons_zero, List.set_cons_succ]) | (refine StQ.go' (by rfl) (Exists.intro ?_ (And.intro (fun w' hS => ?_) ?_)); rotate_left; (focus (have hc := Kept.cellAt hS; go_simp; try with_reducible rfl)); simp only [Act.put, List.setIfInBounds_toArray, List.set_cons_zero, List.set_cons_succ]))
          refine StQ.nil ?_
          refine FlO.go (by rfl) (fun K hK => ?_); go_simp; refine hK.out _ _ (.inr ⟨Kept.alloc _ _ _, trivial⟩) ?_; clear hK K
          have hl5 := row_lit hloc.out 22 1 1 #[.slice A5 3 c5] [.slice A5 3 c5] rfl rfl (by decide)
          refine FlW.stage (fun _ => True) trivial (StQ.nil ?_)
          refine FlO.go (by rfl) (fun K hK => ?_)
          (refine wp_row _ _ 49 rfl 22 iB (.slice none 0 0) 1 24 Try.underlying49 hIB.out.1 hIB.out.2.1 hIB.out.2.2.1 hIB.out.2.2.2 (by rfl) (by decide) hl5 1 M.AM M.nm M.cm M.vm rfl rfl (some ⟨W0.heap.size, 0, none⟩) 1 1 [.slice A5 3 c5] rfl rfl (row_cells hl5 0 rfl) (by intro _ h; cases h) (pgF_one _ _ _) (by have := hn2.out; unfold maxLen; omega) (by have := hn2.out; omega) ?_; intro A6 c6 w6 hl6 _)
          refine hK.out _ _ (.inr ⟨hl6.kept, trivial⟩) ?_
          clear hK K
          clear hl5 hloc
          rw [hT.out] at hl6
          obtain ⟨⟨g0, g1⟩, hfin⟩ := flash_fin2 (M := M) (s := s1) ((hL0.out.frame 3 rfl hl6).reorder [2, 3, 4, 1, 5, 6, 7, 8] rfl (by decide)) (by decide)
          rw [hGX] at hfin
          have ho7 := Hidd.mk (hX.out.call 0 rfl (Own.pack_in (by rw [List.append_nil]; exact hfin)))
          clear hl6 hL0 hGX hfin hX x0 x1 x2 x3 x4 x5 y0 y1 y2 y3
          refine FlW.stage (fun zz => zz = _) rfl ?_
          repeat (first | (refine StQ.skip (by rfl) ?_; simp only [Act.put, List.setIfInBounds_toArray, List.set_cons_zero, List.set_cons_succ]) | (refine StQ.go' (by rfl) (Exists.intro ?_ (And.intro (fun w' hS => ?_) ?_)); rotate_left; (focus (rw [hS]; go_simp; try with_reducible rfl)); simp only [Act.put, List.setIfInBounds_toArray, List.set_cons_zero, List.set_cons_succ]))
          refine StQ.nil ?_
          refine FlO.go (by rfl) (fun K hK => ?_); go_simp; refine hK.out _ _ (.inr trivial) ?_; clear hK K
          refine FlW.nil (Calm.normal ?_)
          clear g0 g1 hfl hpl hTb hTp hT
          generalize World.setCell w6 _ _ = W7 at ho7 ⊢
          go_wp2
          go_ret
          rw [hhp.out]
          exact ⟨_, rfl, _, hend.out _ _ _ _ _ _ (ho7.out.reorder [2, 0, 1] rfl (by decide))⟩
        · rw [if_neg h0] at hx
          injection hx with e1 e2
          injection e2 with e2 e3
          subst e1 e2 e3
          have hsE : Hidd (stepE s = none) := ⟨by unfold stepE; rw [if_neg h0]⟩
          have hbt : Hidd ((s.left == 0) = false) := ⟨by rw [beq_eq_false_iff_ne]; exact h0⟩
          have hful : Hidd ((crcSeal [(o : Int), (z : Int) / 256, (z : Int) % 256]).take 7 = markP o t.total) := ⟨by rw [List.take_of_length_le (by rw [hsl7.out]; exact Nat.le_refl _)]; unfold markP; rw [hzi.out]⟩
          obtain ⟨s1, hs1⟩ : ∃ s1, s1 = stepS s := ⟨_, rfl⟩
          have hlen : Hidd (s1.mrk.length ≤ 9999) := ⟨by rw [hs1]; exact hmk9.out⟩
          have hbk : s.mrk = s1.mrk := by rw [hs1]; rfl
          rw [hbk, ← hs1]
          clear h0 hbk
          replace hs1 := Hidd.mk hs1
          go_enter Try.func20, Try.ntmps20
          go_upto_region 9 with (go_at_call 34; refine (other_raw p t.active _ o x1 hae.out).mono ?_; rintro e w3 ⟨rfl, rfl⟩)
          obtain ⟨w3, hw3⟩ : ∃ w3, w3 = w.setCell ⟨p, 35, none⟩ (.bool false) := ⟨_, rfl⟩
          rw [← hw3] at ho0 ⊢
          clear hw3 x0 x1 x2 x3 x4 x5 f3 hpl
          obtain ⟨W0, hW0⟩ : ∃ zz, zz = World.drew w3 := ⟨_, rfl⟩
          refine wp_region_flow [([0, 1, 2, 8, 3, 9, 4, 10, 5, 11], some (6, [true])), ([], some (7, [false, true])), ([12], none)] (by kernel_rfl) (by kernel_rfl) ?_
          rw [show ({ w3 with drawn := w3.drawn + 1 } : World) = W0 from hW0.symm]
          replace hW0 := Hidd.mk hW0
          simp only [opsF, List.map_cons, List.map_nil, List.getD_cons_succ, List.getD_cons_zero, Option.map]
          have ho2 := Hidd.mk (show Own w G W0 _ by rw [hW0.out]; exact ho0.out.drew)
          clear hW0 ho0
          obtain ⟨x0, x1, x2, x3, x4, x5⟩ := storeR_cells ho2.out 0 rfl hsum.out
          have x4' : W0.cell? ⟨p, 36, none⟩ = some (.int .i64 (z : Int)) := by rw [x4]; exact congrArg (fun q => some (Value.int .i64 q)) hzi.out
          clear x4
          have hpl := ho2.out.lt 0 rfl
          have hrg := Hidd.mk (storeR_range ho2.out 0 rfl)
          refine FlW.stage (fun zz => Kept (fun _ => False) W0 zz) (Kept.refl _ _) ?_
          repeat (first | (refine StQ.loadB _ rfl rfl (by rfl) (fun w' hS => sum_load (range_kept hrg.out hS (fun h => h)) hsum.out) ?_; simp only [Act.put, List.setIfInBounds_toArray, List.set_cons_zero, List.set_cons_succ]) | (refine StQ.skip (by rfl) ?_; simp only [Act.put, List.setIfInBounds_toArray, List.set_cons_zero, List.set_cons_succ]) | (refine StQ.go' (by rfl) (Exists.intro ?_ (And.intro (fun w' hS => ?_) ?_)); rotate_left; (focus (have hc := Kept.cell0 hS; go_simp; try with_reducible rfl)); simp only [Act.put, List.setIfInBounds_toArray, List.set_cons_zero, List.set_cons_succ]))
          refine StQ.nil ?_
          refine FlO.go (by rfl) (fun K hK => ?_)
          go_simp
          (refine (hrd.out _ ho2.out).mono ?_; rintro e w4 ⟨A4, c4, rfl, hr4⟩)
          refine hK.out _ _ (.inr ⟨hr4.kept, trivial⟩) ?_
          clear hK K
          have hk4 := hr4.kept
          have hC4 := Hidd.mk (row_cells hr4 0 rfl)
          have ho3 := Hidd.mk (ho2.out.ext (hr4.below fun _ => id))
          clear hr4 ho2 hrd
          refine FlW.stage (fun _ => True) trivial (StQ.nil ?_)
          refine FlO.go (by rfl) (fun K hK => ?_)
          go_simp
          (refine (digestOf_any _ A4 m c4 D hm.out hm5.out hC4.out).mono ?_; rintro e w5 ⟨rfl, hb5⟩)
          refine hK.out _ _ (.inr ⟨hk4.trans (Kept.below hb5), trivial⟩) ?_
          clear hK K
          have ho4 := Hidd.mk (ho3.out.ext hb5)
          clear ho3 hb5 hk4 hC4 x0 x1 x2 x3 x4' x5 hpl hrg
          have hne2 := hne.out
          refine FlW.heads (fun zz => zz = _) rfl ?_
          repeat (first | (refine StQ.skip (by rfl) ?_; simp only [Act.put, List.setIfInBounds_toArray, List.set_cons_zero, List.set_cons_succ]) | (refine StQ.go' (by rfl) (Exists.intro ?_ (And.intro (fun w' hS => ?_) ?_)); rotate_left; (focus (rw [hS]; go_simp; try with_reducible rfl)); simp only [Act.put, List.setIfInBounds_toArray, List.set_cons_zero, List.set_cons_succ]))
          refine StQ.nil ?_
          refine FlW.nil (Calm.normal ?_)
          clear hne2
          go_upto_region 18 with (first
            | (go_at_call 40; have hq := ho4.out; clear hq; have ho5 := wtrK_new ho4.out; obtain ⟨u0, u1, u2, u3, u4, u5⟩ := storeR_cells ho4.out 0 rfl hsum.out; refine (put_own 0 ho5 rfl o 1 (by decide) (by have := hobb.out; omega) 1 (by decide)).mono ?_; rintro e w6 ⟨rfl, A6, c6, ho6⟩; replace ho6 := Hidd.mk ho6; clear ho5 ho4 u0 u1 u2 u3 u4 u5; obtain ⟨x0, x1, x2, x3, x4, x5⟩ := storeR_cells ho6.out 1 rfl hsum.out; have x4' : w6.cell? ⟨p, 36, none⟩ = some (.int .i64 (z : Int)) := (by rw [x4]; exact congrArg (fun q => some (Value.int .i64 q)) hzi.out); clear x4)
            | (go_at_call 40; have hq := ho6.out; clear hq; refine (put_own 0 ho6.out rfl z 2 (by decide) (by have := hzb.out; omega) 2 (by decide)).mono ?_; rintro e w7 ⟨rfl, A7, c7, ho7⟩; rw [hmn.out] at ho7; replace ho7 := Hidd.mk ho7; clear ho6 x0 x1 x2 x3 x4' x5)
            | (go_at_call 41; have hq := ho7.out; clear hq; refine (bytes_own 0 ho7.out rfl (by decide)).mono ?_; rintro e w8 ⟨A8, c8, rfl, ho8⟩; replace ho8 := Hidd.mk ho8; clear ho7)
            | (go_at_call 35; have hq := ho8.out; clear hq; refine (seal_at A8 3 c8 [(o : Int), (z : Int) / 256, (z : Int) % 256] _ (show WIn _ 5 1 A8 3 c8 _ from ho8.out.get 0 rfl).cells hmb.out (by decide) rfl).mono ?_; rintro e w1 ⟨A5, c5, rfl, hc5, hr5, _, hb5⟩; have ho0 := Hidd.mk ((own_newrow ho8.out hb5 hr5).reorder (M := [row 5 1 (.slice A5 7 c5) 7 (nums .u8 (crcSeal [(o : Int), (z : Int) / 256, (z : Int) % 256])), storeR p f { t with opn := false }, Res.pack (flashL f M s)]) [0, 3, 4] rfl (by decide)); replace hc5 : (7 : Int) ≤ (c5 : Int) := (by omega); clear ho8 hr5 hb5; obtain ⟨x0, x1, x2, x3, x4, x5⟩ := storeR_cells ho0.out 1 rfl hsum.out)
            | (go_at_call 33; have hq := ho0.out; clear hq; refine (step_own 2 ho0.out rfl hsl2).mono ?_; rintro e w9 ⟨v1, rfl, ho1⟩; rw [hsE.out, ← hs1.out] at ho1; rw [hbt.out]; obtain rfl : v1 = .nilIface := (show IsE w9 none v1 from ho1.get 0 rfl); replace ho1 := Hidd.mk ho1; clear ho0 x0 x1 x2 x3 x4 x5))
          obtain ⟨W0, hW0⟩ : ∃ zz, zz = World.drew w9 := ⟨_, rfl⟩
          refine wp_region_flow [([0, 4, 11, 1, 5, 2, 6, 3, 7, 8, 9, 10], some (12, [true])), ([], some (13, [false, true])), ([14, 15], some (16, [false, false, false]))] (by kernel_rfl) (by kernel_rfl) ?_
          rw [show ({ w9 with drawn := w9.drawn + 1 } : World) = W0 from hW0.symm]
          replace hW0 := Hidd.mk hW0
          simp only [opsF, List.map_cons, List.map_nil, List.getD_cons_succ, List.getD_cons_zero, Option.map]
          have hX := Hidd.mk (show Own w G W0 [(row 5 1 (.slice A5 7 c5) 7 (nums .u8 (crcSeal [(o : Int), (z : Int) / 256, (z : Int) % 256]))).with (Res.pack (flashL f M s1)), eres none .nilIface, storeR p f { t with opn := false }] by rw [hW0.out]; exact (ho1.out.drew.reorder (M := [row 5 1 (.slice A5 7 c5) 7 (nums .u8 (crcSeal [(o : Int), (z : Int) / 256, (z : Int) % 256])), Res.pack (flashL f M s1), eres none .nilIface, storeR p f { t with opn := false }]) [1, 3, 0, 2] rfl (by decide)).with_in)
          clear hW0 ho1
          obtain ⟨GX, hGX⟩ : ∃ GX, GX = ((row 5 1 (.slice A5 7 c5) 7 (nums .u8 (crcSeal [(o : Int), (z : Int) / 256, (z : Int) % 256]))).with (Res.pack (flashL f M s1))).foot := ⟨_, rfl⟩
          have hL0 : Hidd (Own W0 GX W0 (flashL f M s1 ++ [row 5 1 (.slice A5 7 c5) 7 (nums .u8 (crcSeal [(o : Int), (z : Int) / 256, (z : Int) % 256]))])) := ⟨by rw [hGX]; exact ((Own.one (hX.out.get 0 rfl)).with_out.perm (List.Perm.swap ..)).pack_out⟩
          obtain ⟨x0, x1, x2, x3, x4, x5⟩ := storeR_cells hX.out 2 rfl hsum.out
          obtain ⟨y0, y1, y2, y3⟩ := flash_cells hL0.out 0 rfl
          have hfl := hL0.out.lt 0 rfl
          have hpl := hX.out.lt 2 rfl
          have hrow := (show W0.ownsRow 0 22 1 (.slice M.AM M.nm M.cm) M.nm M.vm from hL0.out.get 3 rfl).1
          have hpgl := (show (pgs M.vm s1.mrk).holds W0 from hL0.out.get 6 rfl).1
          have hn2 : Hidd (M.nm ≤ 10000) := ⟨by have h1 := hlen.out; rw [Nat.mul_one] at hrow; omega⟩
          have hTb : ¬ (Value.slice M.AM M.nm M.cm).ownBlock = some f := fun e => hL0.out.apart 0 3 rfl rfl (by decide) f rfl e
          have hTp : ¬ (Value.slice M.AM M.nm M.cm).ownBlock = some p := fun e => hX.out.apart 0 2 rfl rfl (by decide) p (.inr (pack_foot_3 f M s1 p e)) rfl
          obtain ⟨T, hT⟩ : ∃ T : Nat → Prop, T = (row 22 1 (.slice M.AM M.nm M.cm) M.nm M.vm).foot := ⟨_, rfl⟩
          replace hTb : ¬ T f := by rw [hT]; exact hTb
          replace hTp : ¬ T p := by rw [hT]; exact hTp
          have hloc : Hidd (Own W0 T W0 [row 22 1 (.slice M.AM M.nm M.cm) M.nm M.vm]) := ⟨by rw [hT]; exact Own.one (hL0.out.get 3 rfl)⟩
          replace hT := Hidd.mk hT
          clear hrow hpgl
          refine FlW.stage (fun zz => Kept T W0 zz) (Kept.refl _ _) ?_
          repeat (first | (refine StQ.skip (by rfl) ?_; simp only [Act.put, List.setIfInBounds_toArray, List.set_cons_zero, List.set_cons_succ]) | (refine StQ.go' (by rfl) (Exists.intro ?_ (And.intro (fun w' hS => ?_) ?_)); rotate_left; (focus (have hc := Kept.cellAt hS; go_simp; try with_reducible rfl)); simp only [Act.put, List.setIfInBounds_toArray, List.set_cons_zero, List.set_cons_succ]))
          refine StQ.nil ?_
          refine FlO.go (by rfl) (fun K hK => ?_); go_simp; refine hK.out _ _ (.inr ⟨Kept.alloc _ _ _, trivial⟩) ?_; clear hK K
          have hl5 := row_lit hloc.out 22 1 1 #[.slice A5 7 c5] [.slice A5 7 c5] rfl rfl (by decide)
          refine FlW.stage (fun _ => True) trivial (StQ.nil ?_)
          refine FlO.go (by rfl) (fun K hK => ?_)
          (refine wp_row _ _ 49 rfl 22 iB (.slice none 0 0) 1 24 Try.underlying49 hIB.out.1 hIB.out.2.1 hIB.out.2.2.1 hIB.out.2.2.2 (by rfl) (by decide) hl5 1 M.AM M.nm M.cm M.vm rfl rfl (some ⟨W0.heap.size, 0, none⟩) 1 1 [.slice A5 7 c5] rfl rfl (row_cells hl5 0 rfl) (by intro _ h; cases h) (pgF_one _ _ _) (by have := hn2.out; unfold maxLen; omega) (by have := hn2.out; omega) ?_; intro A6 c6 w6 hl6 _)
          refine hK.out _ _ (.inr ⟨hl6.kept, trivial⟩) ?_
          clear hK K
          clear hl5 hloc
          rw [hT.out] at hl6
          obtain ⟨⟨g0, g1⟩, hfin⟩ := flash_fin2 (M := M) (s := s1) ((hL0.out.frame 3 rfl hl6).reorder [2, 3, 4, 1, 5, 6, 7, 8] rfl (by decide)) (Nat.le_refl 7)
          rw [hGX] at hfin
          have ho7 := Hidd.mk (hX.out.call 0 rfl (Own.pack_in (by rw [List.append_nil]; exact hfin)))
          clear hl6 hL0 hGX hfin hX x0 x1 x2 x3 x4 x5 y0 y1 y2 y3
          refine FlW.stage (fun zz => zz = _) rfl ?_
          repeat (first | (refine StQ.skip (by rfl) ?_; simp only [Act.put, List.setIfInBounds_toArray, List.set_cons_zero, List.set_cons_succ]) | (refine StQ.go' (by rfl) (Exists.intro ?_ (And.intro (fun w' hS => ?_) ?_)); rotate_left; (focus (rw [hS]; go_simp; try with_reducible rfl)); simp only [Act.put, List.setIfInBounds_toArray, List.set_cons_zero, List.set_cons_succ]))
          refine StQ.nil ?_
          refine FlO.go (by rfl) (fun K hK => ?_); go_simp; refine hK.out _ _ (.inr trivial) ?_; clear hK K
          refine FlW.nil (Calm.normal ?_)
          clear g0 g1 hfl hpl hTb hTp hT
          generalize World.setCell w6 _ _ = W7 at ho7 ⊢
          rw [hful.out] at ho7
          obtain ⟨x0, x1, x2, x3, x4, x5⟩ := storeR_cells ho7.out 2 rfl hsum.out
          have x4' : W7.cell? ⟨p, 36, none⟩ = some (.int .i64 (z : Int)) := by rw [x4]; exact congrArg (fun q => some (Value.int .i64 q)) hzi.out
          clear x4
          have g1 := ho7.out.frozen 2 rfl 1
          have g2 := ho7.out.frozen 2 rfl 2
          have ho8 := (ho7.out.set 2 rfl 1 (.int .i64 (o : Int)))
          rw [stV_active] at ho8
          have ho9 := (show Own w G _ [_, _, storeR p f { t with opn := false, active := (o : Int) }] from ho8).set 2 rfl 2 (.int .i64 (z : Int))
          rw [stV_size] at ho9
          replace ho9 := Hidd.mk ho9
          clear ho7 ho8
          go_wp2
          go_ret
          have hse : storeR p f { t with opn := false, active := (o : Int), size := (z : Int) } = storeR p f { t with opn := false, active := (o : Int), size := t.total } := by rw [hzi.out]
          have ho10 := (show Own w G _ [_, _, storeR p f { t with opn := false, active := (o : Int), size := (z : Int) }] from ho9.out)
          rw [hse] at ho10
          exact ⟨_, rfl, _, hend.out _ _ _ _ _ _ (ho10.reorder [2, 0, 1] rfl (by decide))⟩
end Go.Proofs.Ytjbhcmkloamcmaa
