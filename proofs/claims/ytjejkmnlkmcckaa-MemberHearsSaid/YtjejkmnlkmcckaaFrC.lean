/- A frame with its own lists: Copied. -/
import Derived.Test.YtjejkmnlkmcckaaFrB
namespace Go.Proofs.Ytjejkmnlkmcckaa
open Go.RowKit

/-- Two things as one. -/
def Res.both (r1 r2 : Res) : Res := ⟨fun i => r1.foot i ∨ r2.foot i, fun w => r1.holds w ∧ r2.holds w, fun w h i hi => hi.elim (r1.lt w h.1 i) (r2.lt w h.2 i), fun w w' h k => ⟨r1.loc w w' h.1 fun i hi => k i (.inl hi), r2.loc w w' h.2 fun i hi => k i (.inr hi)⟩⟩
theorem Own.both {w0 w : World} {S : Nat → Prop} {L : List Res} {r1 r2 : Res} (h : Own w0 S w (r1 :: r2 :: L)) : Own w0 S w (r1.both r2 :: L) := h.join _ (fun h1 h2 _ => ⟨h1, h2⟩) fun _ hi => hi
theorem info_msg : (Try.prog.info? 106).map (fun i => (i.zero, i.size, i.bytes)) = some (some (.agg #[.int .i64 0, .slice none 0 0]), 2, 32) := by kernel_rfl
theorem info_rec : (Try.prog.info? 112).map (fun i => (i.zero, i.size, i.bytes)) = some (some (.agg #[.int .u32 0, .int .u8 0, .int .u8 0, .int .u8 0, .int .u8 0]), 5, 8) := by kernel_rfl
theorem head_any {w : World} {base : Nat} {e : TypeId} {size n c : Nat} {A : Option Addr} {xs : List Value} (h : w.ownsRow base e size (.slice A n c) n xs) (hn : 0 < n) : ∃ g, A = some ⟨g, 0, none⟩ ∧ g < w.heap.size := by
  rcases h.2 with ⟨_, h0⟩ | ⟨g', cap', cur, h', hb, hg, _⟩
  · omega
  · injection h' with h1 _ _
    exact ⟨g', h1, (Array.getElem?_eq_some_iff.1 hg).1⟩
theorem cells_at {w : World} {g : Nat} {xs : List Value} {j : Nat} {v : Value} (h : Cells w (some ⟨g, 0, none⟩) xs) (hj : xs[j]? = some v) : w.cell? ⟨g, j, none⟩ = some v := by
  obtain ⟨a, e, hc⟩ := h j v hj
  injection e with e
  subst e
  rwa [add_plain] at hc
theorem kept_fresh {w w' : World} {o : Obj} {n c : Nat} (h : Kept (fun k => (Value.slice (some ⟨w.heap.size, 0, none⟩) n c).ownBlock = some k) (w.alloc o) w') : Kept (fun _ => False) w w' :=
  (Kept.alloc (fun _ => False) w o).trans' h fun i hi h => by
    have h' : some w.heap.size = some i := h
    injection h' with h'
    omega
theorem set_get_self {α : Type} {l : List α} {k : Nat} {x : α} (h : l[k]? = some x) : l.set k x = l := by
  obtain ⟨h1, rfl⟩ := List.getElem?_eq_some_iff.1 h
  exact List.set_getElem_self h1
theorem cells_ne {α : Type} {f : α → List Value} {k : Nat} (hk : ∀ x, (f x).length = k) (h0 : 0 < k) {w : World} {A : Option Addr} {l : List α} (h : Cells w A (l.flatMap f)) (n : Nat) (hn : l.length = n) : 0 < n → A ≠ none := fun hp e => by
  subst e
  have := flat_nil hk h0 h
  subst this
  simp at hn
  omega

set_option maxRecDepth 100000 in
set_option maxHeartbeats 8000000 in
theorem copied_res (s r m k0 k1 k2 k3 : Int) (ma : Option Addr) (mn mc : Nat) (ra : Option Addr) (rn rc : Nat) (ms : List (Int × List Int)) (rs : List Rec5) (w : World) (hM : MsgsAt w ma mn ms) (hR : RecsAt w ra rn rs) (hok : ∀ q ∈ ms, q.2.length ≤ 140737488351232) (hmn : mn * 32 ≤ 140737488351232) (hrn : rn * 8 ≤ 140737488351232) :
    Calls Try.prog 34 #[.agg #[.int .u8 s, .int .u32 r, .int .u8 m, .slice ma mn mc, .int .u8 k0, .int .u8 k1, .int .u16 k2, .int .u16 k3, .slice ra rn rc]] w fun e w' =>
      ∃ A c B d R, e = .returned (.agg #[.int .u8 s, .int .u32 r, .int .u8 m, .slice A mn c, .int .u8 k0, .int .u8 k1, .int .u16 k2, .int .u16 k3, .slice B rn d]) ∧ Own w (fun _ => False) w' [R] ∧ ∀ W, R.holds W → MsgsAt W A mn ms ∧ RecsAt W B rn rs := by
  obtain ⟨qs, hqm, hql, hqc, hqo⟩ := msgs_open hM
  have hrc := Hidd.mk (recs_open hR)
  have hrl := Hidd.mk hR.1
  have hRB := Hidd.mk hR
  clear hM hR
  have hqo2 : ∀ q ∈ qs, q.1.2.length ≤ 140737488351232 := fun q hq => hok q.1 (by rw [← hqm]; exact List.mem_map_of_mem hq)
  have ho := ((Own.nil w (fun _ => False)).alloc (.cells #[.int .u8 s, .int .u32 r, .int .u8 m, .slice ma mn mc, .int .u8 k0, .int .u8 k1, .int .u16 k2, .int .u16 k3, .slice ra rn rc] 59)).alloc (.cells #[.int .u8 0, .int .u32 0, .int .u8 0, .slice none 0 0, .int .u8 0, .int .u8 0, .int .u16 0, .int .u16 0, .slice none 0 0] 59)
  rw [show (w.alloc (.cells #[.int .u8 s, .int .u32 r, .int .u8 m, .slice ma mn mc, .int .u8 k0, .int .u8 k1, .int .u16 k2, .int .u16 k3, .slice ra rn rc] 59)).heap.size = w.heap.size + 1 by simp] at ho
  have ho1 := Hidd.mk (row_lit' ho 106 2 0 #[] [] (w.heap.size + 1 + 1) (by simp) rfl rfl (by decide))
  have hB1 := Hidd.mk (hqc.below ((ho.alloc (.cells #[] 106)).below fun _ => id))
  clear ho
  replace hqm := Hidd.mk hqm
  replace hql := Hidd.mk hql
  replace hqc := Hidd.mk hqc
  replace hqo := Hidd.mk hqo
  replace hqo2 := Hidd.mk hqo2
  clear hok
  obtain ⟨iM, hIM⟩ := info_parts info_msg
  obtain ⟨iR, hIR⟩ := info_parts info_rec
  replace hIM := Hidd.mk hIM
  replace hIR := Hidd.mk hIR
  go_enter Try.func34, Try.ntmps34
  go_wp2_with (at_builtin; refine wpList_row rfl _ _ 52 rfl 106 iM (.agg #[.int .i64 0, .slice none 0 0]) 2 32 (by rfl) hIM.out.1 hIM.out.2.1 hIM.out.2.2.1 hIM.out.2.2.2 (by rfl) (by decide) ho1.out 0 _ 0 0 [] rfl rfl ma mn mc (qs.flatMap mval) rfl (by rw [flat_len mval_len, hql.out]) hB1.out (cells_ne mval_len (by decide) hqc.out _ hql.out) (one_flat mval_one _) (by unfold maxLen; omega) (by omega) ?_; intro A c w6 ho6; rw [Nat.zero_add, List.nil_append] at ho6; have f3 := ho6.frozen 2 rfl 3; have c3 := ho6.cell 2 rfl 3; simp at c3; replace ho6 := Hidd.mk (dres_nil (ho6.set 2 rfl 3 (.slice A mn c))))
  clear f3 c3 ho1 hB1
  generalize w.heap.size + 1 = p2 at ho6 ⊢
  generalize hp1 : w.heap.size = p1 at ho6 ⊢
  have hbw : Hidd (Below w.heap.size w (w6.setCell ⟨p1, 3, none⟩ (.slice A mn c))) := ⟨ho6.out.below fun _ => id⟩
  clear hp1
  go_loopw [3] (fun v3 wr => ∃ (i : Nat) (qz : List MQ), v3 = .int .i64 i ∧ i ≤ mn ∧ Hidd (qz.map (·.1) = ms ∧ qz.length = mn ∧ ∀ j, i ≤ j → qz[j]? = qs[j]?) ∧ Hidd (Own w (fun _ => False) wr [dres (qz.take i), row 106 2 (.slice A mn c) mn (qz.flatMap mval), blk p2 (.cells #[.int .u8 0, .int .u32 0, .int .u8 0, .slice none 0 0, .int .u8 0, .int .u8 0, .int .u16 0, .int .u16 0, .slice none 0 0] 59), blk p1 (.cells #[.int .u8 s, .int .u32 r, .int .u8 m, .slice A mn c, .int .u8 k0, .int .u8 k1, .int .u16 k2, .int .u16 k3, .slice ra rn rc] 59)])) (fun v3 _ => mn - (intOf v3).toNat)
  case atStart => exact ⟨0, qs, rfl, Nat.zero_le _, ⟨hqm.out, hql.out, fun _ _ => rfl⟩, ho6⟩
  case round =>
    clear ho6 hbw
    obtain ⟨i, qz, rfl, hi, hz, ho⟩ := hrel
    have c3 := ho.out.cell 3 rfl 3
    simp at c3
    by_cases hlt : i < mn
    · obtain ⟨q, hq⟩ : ∃ q, qz[i]? = some q := ⟨_, List.getElem?_eq_getElem (by rw [hz.out.2.1]; exact hlt)⟩
      have hqq : qs[i]? = some q := by rw [← hz.out.2.2 i (Nat.le_refl _)]; exact hq
      obtain ⟨d1, d2, d3, d4⟩ := hqo.out q (List.mem_of_getElem? hqq)
      have d5 := hqo2.out q (List.mem_of_getElem? hqq)
      replace d1 := Hidd.mk (d1.below (ho.out.below fun _ => id))
      obtain ⟨⟨p, d⟩, D, dl, dc⟩ := q
      simp only at d1 d2 d3 d4 d5
      obtain ⟨g, rfl, _⟩ := head_any (show wr.ownsRow 0 106 2 (.slice A mn c) mn (qz.flatMap mval) from ho.out.get 1 rfl) (by omega)
      have x1 := cells_at (row_cells ho.out 1 rfl) ((flat_get mval_len qz i 1 _ hq (by decide)).trans (show _ = some (Value.slice D dl dc) from rfl))
      have fx := (show wr.ownsRow 0 106 2 (.slice (some ⟨g, 0, none⟩) mn c) mn (qz.flatMap mval) from ho.out.get 1 rfl).frozenAt (i * 2 + 1)
      have bi0 : (0 : Int) ≤ (i : Int) := by omega
      have bi1 : (i : Int) < (mn : Int) := by omega
      have d6 : dl ≤ 140737488351232 := by omega
      replace d2 := Hidd.mk d2
      replace hq := Hidd.mk hq
      clear hqq
      go_wp2
      obtain ⟨W0, hW0⟩ : ∃ zz, zz = World.drew wr := ⟨_, rfl⟩
      refine wp_region_flow [([0, 2, 4, 6, 1, 5, 7, 8, 9], some (3, [true])), ([], some (10, [false, true])), ([11, 12], some (13, [false, false, false]))] (by kernel_rfl) (by kernel_rfl) ?_
      rw [show ({ wr with drawn := wr.drawn + 1 } : World) = W0 from hW0.symm]
      replace hW0 := Hidd.mk hW0
      simp only [opsF, List.map_cons, List.map_nil, List.getD_cons_succ, List.getD_cons_zero, Option.map_some, Option.map_none]
      have ho2 := Hidd.mk (show Own w (fun _ => False) W0 [dres (qz.take i), row 106 2 (.slice (some ⟨g, 0, none⟩) mn c) mn (qz.flatMap mval), blk p2 (.cells #[.int .u8 0, .int .u32 0, .int .u8 0, .slice none 0 0, .int .u8 0, .int .u8 0, .int .u16 0, .int .u16 0, .slice none 0 0] 59), blk p1 (.cells #[.int .u8 s, .int .u32 r, .int .u8 m, .slice (some ⟨g, 0, none⟩) mn c, .int .u8 k0, .int .u8 k1, .int .u16 k2, .int .u16 k3, .slice ra rn rc] 59)] by rw [hW0.out]; exact ho.out.drew)
      replace d1 : Hidd (Cells W0 D (nums .u8 d)) := ⟨by rw [hW0.out]; exact d1.out.drew⟩
      replace c3 : W0.cell? ⟨p1, 3, none⟩ = some (.slice (some ⟨g, 0, none⟩) mn c) := by rw [hW0.out]; exact c3
      replace x1 : W0.cell? ⟨g, i * 2 + 1, none⟩ = some (.slice D dl dc) := by rw [hW0.out]; exact x1
      have hgl := World.block_lt_of_cell? W0 _ x1
      have hpl := ho2.out.lt 3 rfl
      clear hW0 ho fx
      refine FlW.stage (fun zz => Kept (fun _ => False) W0 zz) (Kept.refl _ _) ?_
      repeat (first | (refine StQ.skip (by rfl) ?_; simp only [Act.put, List.setIfInBounds_toArray, List.set_cons_zero, List.set_cons_succ]) | (refine StQ.go' (by rfl) (Exists.intro ?_ (And.intro (fun w' hS => ?_) ?_)); rotate_left; (focus (have hc := Kept.cell0 hS; go_simp; try with_reducible rfl)); simp only [Act.put, List.setIfInBounds_toArray, List.set_cons_zero, List.set_cons_succ]))
      refine StQ.nil ?_
      refine FlO.go (by rfl) (fun K hK => ?_); go_simp; refine hK.out _ _ (.inr ⟨Kept.alloc _ _ _, trivial⟩) ?_; clear hK K
      refine FlW.stage (fun _ => True) trivial (StQ.nil ?_)
      refine FlO.go (by rfl) (fun K hK => ?_)
      (refine appb_op _ _ rfl (row_lit ho2.out 5 1 0 #[] [] rfl rfl (by decide)) 0 _ 0 0 [] rfl rfl D dl dc d rfl d2.out (d1.out.below (below_alloc (Below.refl _ _) _)) (by omega) ?_; intro A6 c6 w6 ho6 hk6)
      refine hK.out _ _ (.inr ⟨kept_fresh hk6, trivial⟩) ?_
      clear hK K
      replace ho6 : Own w (fun _ => False) w6 (row 5 1 (.slice A6 (0 + dl) c6) (0 + dl) (nums .u8 ([] ++ d)) :: dres (qz.take i) :: row 106 2 (.slice (some ⟨g, 0, none⟩) mn c) mn (qz.flatMap mval) :: blk p2 (.cells #[.int .u8 0, .int .u32 0, .int .u8 0, .slice none 0 0, .int .u8 0, .int .u8 0, .int .u16 0, .int .u16 0, .slice none 0 0] 59) :: blk p1 (.cells #[.int .u8 s, .int .u32 r, .int .u8 m, .slice (some ⟨g, 0, none⟩) mn c, .int .u8 k0, .int .u8 k1, .int .u16 k2, .int .u16 k3, .slice ra rn rc] 59) :: []) := ho6
      rw [Nat.zero_add, List.nil_append] at ho6
      have fx := (show w6.ownsRow 0 106 2 (.slice (some ⟨g, 0, none⟩) mn c) mn (qz.flatMap mval) from ho6.get 2 rfl).frozenAt (i * 2 + 1)
      have x6 := cells_at (row_cells ho6 2 rfl) ((flat_get mval_len qz i 1 _ hq.out (by decide)).trans (show _ = some (Value.slice D dl dc) from rfl))
      have hst := row_set ho6 2 rfl (i * 2 + 1) (.slice A6 dl c6)
      simp only [List.set_cons_succ, List.set_cons_zero] at hst
      rw [flat_set mval_len qz i 1 _ ((p, d), (A6, dl, c6)) _ hq.out (by decide) rfl] at hst
      have hend := dres_add p hst
      have htk : qz.take i ++ [((p, d), (A6, dl, c6))] = (qz.set i ((p, d), (A6, dl, c6))).take (i + 1) := by
        have hil : i < qz.length := by rw [hz.out.2.1]; exact hlt
        rw [List.take_add_one, List.take_set_of_le (Nat.le_refl _), List.getElem?_set_self hil]
        rfl
      rw [htk] at hend
      replace hend := Hidd.mk hend
      clear hst ho6 ho2 hk6 htk
      refine FlW.stage (fun zz => zz = _) rfl ?_
      repeat (first | (refine StQ.skip (by rfl) ?_; simp only [Act.put, List.setIfInBounds_toArray, List.set_cons_zero, List.set_cons_succ]) | (refine StQ.go' (by rfl) (Exists.intro ?_ (And.intro (fun w' hS => ?_) ?_)); rotate_left; (focus (rw [hS]; go_simp; try with_reducible rfl)); simp only [Act.put, List.setIfInBounds_toArray, List.set_cons_zero, List.set_cons_succ]))
      refine StQ.nil ?_
      refine FlO.go (by rfl) (fun K hK => ?_); go_simp; refine hK.out _ _ (.inr trivial) ?_; clear hK K
      refine FlW.nil (Calm.normal ?_)
      go_wp2
      go_roundw
      case rel =>
        refine ⟨i + 1, qz.set i ((p, d), (A6, dl, c6)), by go_num, by omega, ⟨?_, by rw [List.length_set]; exact hz.out.2.1, fun j hj => ?_⟩, hend⟩
        · rw [List.map_set, ← hz.out.1, set_get_self (by rw [List.getElem?_map, hq.out]; rfl)]
        · rw [List.getElem?_set_ne (by omega)]; exact hz.out.2.2 j (by omega)
      case measure => (simp [intOf]; try omega)
    · obtain rfl : i = mn := by omega
      have hrB := Hidd.mk (hrc.out.below ((ho.out.alloc (.cells #[] 112)).below fun _ => id))
      have c8 := ho.out.cell 3 rfl 8
      simp at c8
      have hpl := ho.out.lt 3 rfl
      go_wp2_with (at_builtin; refine wpList_row rfl _ _ 57 rfl 112 iR (.agg #[.int .u32 0, .int .u8 0, .int .u8 0, .int .u8 0, .int .u8 0]) 5 8 (by rfl) hIR.out.1 hIR.out.2.1 hIR.out.2.2.1 hIR.out.2.2.2 (by rfl) (by decide) (row_lit ho.out 112 5 0 #[] [] rfl rfl (by decide)) 0 _ 0 0 [] rfl rfl ra rn rc (rs.flatMap Rec5.cells) rfl (by rw [flat_len rcells_len, hrl.out]) hrB.out (cells_ne rcells_len (by decide) hrB.out _ hrl.out) (one_flat rval_one _) (by unfold maxLen; omega) (by omega) ?_; intro B e w7 ho7; rw [Nat.zero_add, List.nil_append] at ho7; have g8 := ho7.frozen 4 rfl 8; have e0 := ho7.cell 4 rfl 0; have e1 := ho7.cell 4 rfl 1; have e2 := ho7.cell 4 rfl 2; have e3 := ho7.cell 4 rfl 3; have e4 := ho7.cell 4 rfl 4; have e5 := ho7.cell 4 rfl 5; have e6 := ho7.cell 4 rfl 6; have e7 := ho7.cell 4 rfl 7; have e8 := ho7.cell 4 rfl 8; have q0 := ho7.cell 3 rfl 0; have r0 := ho7.frozen 3 rfl 0; have q1 := ho7.cell 3 rfl 1; have r1 := ho7.frozen 3 rfl 1; have q2 := ho7.cell 3 rfl 2; have r2 := ho7.frozen 3 rfl 2; have q3 := ho7.cell 3 rfl 3; have r3 := ho7.frozen 3 rfl 3; have q4 := ho7.cell 3 rfl 4; have r4 := ho7.frozen 3 rfl 4; have q5 := ho7.cell 3 rfl 5; have r5 := ho7.frozen 3 rfl 5; have q6 := ho7.cell 3 rfl 6; have r6 := ho7.frozen 3 rfl 6; have q7 := ho7.cell 3 rfl 7; have r7 := ho7.frozen 3 rfl 7; have q8 := ho7.cell 3 rfl 8; have r8 := ho7.frozen 3 rfl 8; simp at e0 e1 e2 e3 e4 e5 e6 e7 e8 q0 q1 q2 q3 q4 q5 q6 q7 q8; have hne : ¬ p2 = p1 := (fun h => ho7.apart 3 4 rfl rfl (by decide) p2 rfl h); have hne2 : ¬ p1 = p2 := (fun h => hne h.symm); replace ho7 := Hidd.mk (ho7.set 4 rfl 8 (.slice B rn e)))
      clear e0 q0 r0 e1 q1 r1 e2 q2 r2 e3 q3 r3 e4 q4 r4 e5 q5 r5 e6 q6 r6 e7 q7 r7 e8 q8 r8 g8 c8
      have hf0 := (ho7.out).set 3 rfl 0 (.int .u8 s)
      have hf1 := (hf0).set 3 rfl 1 (.int .u32 r)
      have hf2 := (hf1).set 3 rfl 2 (.int .u8 m)
      have hf3 := (hf2).set 3 rfl 3 (.slice A i c)
      have hf4 := (hf3).set 3 rfl 4 (.int .u8 k0)
      have hf5 := (hf4).set 3 rfl 5 (.int .u8 k1)
      have hf6 := (hf5).set 3 rfl 6 (.int .u16 k2)
      have hf7 := (hf6).set 3 rfl 7 (.int .u16 k3)
      have hf8 := (hf7).set 3 rfl 8 (.slice B rn e)
      have z0 := hf8.cell 3 rfl 0
      have z1 := hf8.cell 3 rfl 1
      have z2 := hf8.cell 3 rfl 2
      have z3 := hf8.cell 3 rfl 3
      have z4 := hf8.cell 3 rfl 4
      have z5 := hf8.cell 3 rfl 5
      have z6 := hf8.cell 3 rfl 6
      have z7 := hf8.cell 3 rfl 7
      have z8 := hf8.cell 3 rfl 8
      simp at z0 z1 z2 z3 z4 z5 z6 z7 z8
      clear hf0 hf1 hf2 hf3 hf4 hf5 hf6 hf7
      replace hf8 := Hidd.mk hf8
      refine bodyPost_ret (v := .agg #[.int .u8 s, .int .u32 r, .int .u8 m, .slice A i c, .int .u8 k0, .int .u8 k1, .int .u16 k2, .int .u16 k3, .slice B rn e]) (by simp [results, Try.results34, go_sem, z0, z1, z2, z3, z4, z5, z6, z7, z8]) rfl ⟨A, c, B, e, _, rfl, (hf8.out.sub (.cons_cons _ (.cons_cons _ (.cons_cons _ (List.nil_sublist _))))).both.both, fun W hW => ?_⟩
      obtain ⟨⟨h0, h2⟩, h1⟩ := hW
      refine ⟨?_, recs_close hrl.out (own_cells (show W.ownsRow 0 112 5 (.slice B rn e) rn (rs.flatMap Rec5.cells) from h0))⟩
      have h3 := msgs_close hz.out.2.1 (own_cells (show W.ownsRow 0 106 2 (.slice A i c) i (qz.flatMap mval) from h1)) (fun q hq => by
        have h2 : ∀ q ∈ qz.take i, SlOk W q := h2
        rw [List.take_of_length_le (by rw [hz.out.2.1]; exact Nat.le_refl _)] at h2
        exact h2 q hq)
      rw [hz.out.1] at h3
      exact h3
theorem copied_any (s r m k0 k1 k2 k3 : Int) (ma : Option Addr) (mn mc : Nat) (ra : Option Addr) (rn rc : Nat) (ms : List (Int × List Int)) (rs : List Rec5) (w : World) (hM : MsgsAt w ma mn ms) (hR : RecsAt w ra rn rs) (hok : ∀ q ∈ ms, q.2.length ≤ 140737488351232) (hmn : mn * 32 ≤ 140737488351232) (hrn : rn * 8 ≤ 140737488351232) :
    Calls Try.prog 34 #[.agg #[.int .u8 s, .int .u32 r, .int .u8 m, .slice ma mn mc, .int .u8 k0, .int .u8 k1, .int .u16 k2, .int .u16 k3, .slice ra rn rc]] w fun e w' =>
      ∃ A c B d, e = .returned (.agg #[.int .u8 s, .int .u32 r, .int .u8 m, .slice A mn c, .int .u8 k0, .int .u8 k1, .int .u16 k2, .int .u16 k3, .slice B rn d]) ∧ Below w.heap.size w w' ∧ MsgsAt w' A mn ms ∧ RecsAt w' B rn rs := by
  refine (copied_res s r m k0 k1 k2 k3 ma mn mc ra rn rc ms rs w hM hR hok hmn hrn).mono ?_
  rintro e w' ⟨A, c, B, d, R, rfl, ho, hv⟩
  exact ⟨A, c, B, d, rfl, ho.below fun _ => id, hv w' (ho.get 0 rfl)⟩
end Go.Proofs.Ytjejkmnlkmcckaa
