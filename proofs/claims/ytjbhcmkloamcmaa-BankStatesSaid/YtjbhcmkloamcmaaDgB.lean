/- One block of the digest: the program's. -/
import Derived.Test.YtjbhcmkloamcmaaDgA
import Derived.Test.YtjbhcmkloamcmaaPack
import Derived.Laws.CopyRow
import Derived.Lib.SlBuf
import Derived.BigRegion
namespace Go.Proofs.Ytjbhcmkloamcmaa
open Go.RowKit

def vals (l : List W32) : Array Value := (l.map u32v).toArray
theorem vals_set (l : List W32) (i : Nat) (x : W32) : (vals l).setIfInBounds i (u32v x) = vals (l.set i x) := by simp [vals]
theorem vals_set' (l : List W32) (i : Nat) (x : W32) : (vals l).setIfInBounds i (.int .u32 (x.toNat : Int)) = vals (l.set i x) := vals_set l i x
theorem vals_get {l : List W32} {i : Nat} {x : W32} (h : l[i]? = some x) : (vals l)[i]? = some (.int .u32 (x.toNat : Int)) := by simp [vals, h, u32v]
theorem getD_some {α : Type} {l : List α} {i : Nat} (d : α) (h : i < l.length) : l[i]? = some (l.getD i d) := by rw [List.getD_eq_getElem?_getD, List.getElem?_eq_getElem h]; rfl
/-- The words so far, and zeros. -/
def sw (bs : List Int) (t : Nat) : List W32 := sched bs t ++ List.replicate (64 - t) 0
theorem sw_len (bs : List Int) (t : Nat) (h : t ≤ 64) : (sw bs t).length = 64 := by simp [sw, sched_len]; omega
theorem sw_get {bs : List Int} {t i : Nat} (h : i < t) : (sw bs t)[i]? = some ((sched bs t).getD i 0) := by
  rw [sw, List.getElem?_append_left (by rw [sched_len]; exact h)]
  exact getD_some 0 (by rw [sched_len]; exact h)
theorem sw_set {bs : List Int} {t : Nat} {x : W32} (ht : t < 64) (hx : x = nextW bs (sched bs t)) : (sw bs t).set t x = sw bs (t + 1) := by
  subst hx
  simp only [sw, sched]
  rw [List.set_append_right _ _ (by rw [sched_len]; exact Nat.le_refl _), sched_len, Nat.sub_self, show 64 - t = (64 - (t + 1)) + 1 by omega, List.replicate_succ, List.set_cons_zero, List.append_assoc]
  rfl
theorem nextW_lo {bs : List Int} {t : Nat} (h : t < 16) : nextW bs (sched bs t) = wordAt bs t := by rw [nextW, sched_len, if_pos h]
theorem nextW_hi {bs : List Int} {t : Nat} (h : ¬ t < 16) : nextW bs (sched bs t) = (sched bs t).getD (t - 16) 0 + sg0 ((sched bs t).getD (t - 15) 0) + (sched bs t).getD (t - 7) 0 + sg1 ((sched bs t).getD (t - 2) 0) := by rw [nextW, sched_len, if_neg h]
theorem list8 {α : Type} {l : List α} (h : l.length = 8) : ∃ a0 a1 a2 a3 a4 a5 a6 a7, l = [a0, a1, a2, a3, a4, a5, a6, a7] := by
  rcases l with _ | ⟨a0, _ | ⟨a1, _ | ⟨a2, _ | ⟨a3, _ | ⟨a4, _ | ⟨a5, _ | ⟨a6, _ | ⟨a7, _ | ⟨a8, l⟩⟩⟩⟩⟩⟩⟩⟩⟩
  all_goals simp at h
  exact ⟨a0, a1, a2, a3, a4, a5, a6, a7, rfl⟩
/-- The sums of the first i words, the others as they were. -/
def hv (h v : List W32) (i : Nat) : List W32 := (List.zipWith (· + ·) h v).take i ++ h.drop i

theorem go_i64 (n : Int) : IntKind.i64.wrap n = (n + 9223372036854775808) % 18446744073709551616 - 9223372036854775808 := by unfold IntKind.wrap; simp [IntKind.signed, IntKind.bits]; split <;> omega
theorem hv_zero (h v : List W32) : hv h v 0 = h := by simp [hv]
theorem hv_get {h v : List W32} {i : Nat} (hh : i < h.length) (_ : i < v.length) : (hv h v i)[i]? = some (h.getD i 0) := by
  have hl : ((List.zipWith (· + ·) h v).take i).length = i := by simp; omega
  rw [hv, List.getElem?_append_right (by omega), hl, Nat.sub_self, List.getElem?_drop, Nat.add_zero]
  exact getD_some 0 hh
theorem hv_set {h v : List W32} {i : Nat} (hh : i < h.length) (hv' : i < v.length) : (hv h v i).set i (h.getD i 0 + v.getD i 0) = hv h v (i + 1) := by
  have hl : ((List.zipWith (· + ·) h v).take i).length = i := by simp; omega
  have hz : (List.zipWith (· + ·) h v).take (i + 1) = (List.zipWith (· + ·) h v).take i ++ [h.getD i 0 + v.getD i 0] := by
    rw [List.take_add_one]
    congr 1
    rw [List.getElem?_zipWith, getD_some 0 hh, getD_some 0 hv']
    rfl
  have hd : h.drop i = h.getD i 0 :: h.drop (i + 1) := by
    rw [List.drop_eq_getElem_cons hh]
    congr 1
    have := getD_some (0 : W32) hh
    rw [List.getElem?_eq_getElem hh] at this
    injection this
  rw [hv, hv, List.set_append_right _ _ (by omega), hl, Nat.sub_self, hd, List.set_cons_zero, hz, List.append_assoc]
  rfl
theorem hv_all {h v : List W32} (hh : h.length = 8) (hl : v.length = 8) : hv h v 8 = List.zipWith (· + ·) h v := by
  rw [hv, List.take_of_length_le (by simp; omega), List.drop_of_length_le (by omega), List.append_nil]
theorem cells_kept {S : Nat → Prop} {w w' : World} {A : Addr} {cs : List Value} (h : Cells w (some A) cs) (k : Kept S w w') (hS : ¬ S A.block) : Cells w' (some A) cs := fun j v hj => by
  obtain ⟨ad, e, hc⟩ := h j v hj
  injection e with e
  subst e
  refine ⟨A, rfl, k.cells ?_ hc⟩
  have hb : (A.add j).block = A.block := by unfold Addr.add; split <;> rfl
  rw [hb]
  exact hS
theorem info_u32' : (Try.prog.info? 75).map (fun i => (i.zero, i.size, i.bytes)) = some (some (.int .u32 0), 1, 4) := by kernel_rfl
theorem cells8v {w : World} {b : Nat} {p0 p1 p2 p3 p4 p5 p6 p7 : W32} {T : TypeId} {fr : Nat × Nat} (h : w.heap[b]? = some (.cells (vals [p0, p1, p2, p3, p4, p5, p6, p7]) T fr)) :
    w.cell? ⟨b, 0, none⟩ = some (.int .u32 (p0.toNat : Int)) ∧ w.cell? ⟨b, 1, none⟩ = some (.int .u32 (p1.toNat : Int)) ∧ w.cell? ⟨b, 2, none⟩ = some (.int .u32 (p2.toNat : Int)) ∧ w.cell? ⟨b, 3, none⟩ = some (.int .u32 (p3.toNat : Int)) ∧
    w.cell? ⟨b, 4, none⟩ = some (.int .u32 (p4.toNat : Int)) ∧ w.cell? ⟨b, 5, none⟩ = some (.int .u32 (p5.toNat : Int)) ∧ w.cell? ⟨b, 6, none⟩ = some (.int .u32 (p6.toNat : Int)) ∧ w.cell? ⟨b, 7, none⟩ = some (.int .u32 (p7.toNat : Int)) :=
  ⟨cell_of_row w b 0 _ T fr h, cell_of_row w b 1 _ T fr h, cell_of_row w b 2 _ T fr h, cell_of_row w b 3 _ T fr h, cell_of_row w b 4 _ T fr h, cell_of_row w b 5 _ T fr h, cell_of_row w b 6 _ T fr h, cell_of_row w b 7 _ T fr h⟩
/-- copy(v[1:], v[:7]) -/
theorem copy_own {w0 w : World} {S : Nat → Prop} {L : List Res} {b : Nat} {T : TypeId} {p0 p1 p2 p3 p4 p5 p6 p7 : W32} (k : Nat) (hO : Own w0 S w L) (hk : L[k]? = some (blk b (.cells (vals [p0, p1, p2, p3, p4, p5, p6, p7]) T (0, 0)))) :
    ∃ w', (∀ ty, (Builtin.copy_ #[81, 81] ty #[.slice (some ⟨b, 1, none⟩) 7 7, .slice (some ⟨b, 0, none⟩) 7 8]).run Try.prog w = .ok (goInt 7) w') ∧ Own w0 S w' (L.set k (blk b (.cells (vals [p0, p0, p1, p2, p3, p4, p5, p6]) T (0, 0)))) := by
  have hg : w.heap[b]? = some (.cells (vals [p0, p1, p2, p3, p4, p5, p6, p7]) T (0, 0)) := hO.get k hk
  obtain ⟨c0, c1, c2, c3, c4, c5, c6, c7⟩ := cells8v hg
  refine ⟨w.setRow b (vals [p0, p0, p1, p2, p3, p4, p5, p6]), fun ty => ?_, hO.step k hk _ ⟨rfl, rfl, rfl, by simp, fun i _ hi => setRow_other w b i _ hi⟩ (setRow_heap w b _ _ T _ hg) fun i hi => .inl hi⟩
  have := run_copy_row (P := Try.prog) w 81 81 ty 75 b 1 7 7 ⟨b, 0, none⟩ 7 8 _ T [.int .u32 (p0.toNat : Int), .int .u32 (p1.toNat : Int), .int .u32 (p2.toNat : Int), .int .u32 (p3.toNat : Int), .int .u32 (p4.toNat : Int), .int .u32 (p5.toNat : Int), .int .u32 (p6.toNat : Int)]
    Try.underlying81 (by have := info_u32'; cases h : Try.prog.info? 75 with
      | none => rw [h] at this; cases this
      | some i => rw [h] at this; simp at this; simp [this.2.1]) hg rfl (fun j v hj => by
        rw [add_plain]
        obtain rfl | rfl | rfl | rfl | rfl | rfl | rfl | h7 : j = 0 ∨ j = 1 ∨ j = 2 ∨ j = 3 ∨ j = 4 ∨ j = 5 ∨ j = 6 ∨ 7 ≤ j := by omega
        all_goals first
          | (simp at hj; subst hj; assumption)
          | (rw [List.getElem?_eq_none (by simpa using h7)] at hj; cases hj)) (by simp [vals]) (by intro v hv; simp at hv; rcases hv with rfl | rfl | rfl | rfl | rfl | rfl | rfl <;> rfl)
  exact this
set_option maxRecDepth 100000
set_option maxHeartbeats 8000000
theorem block_any (w : World) (hb kb : Nat) (hs : List W32) (A : Addr) (c : Nat) (bs : List Int) (hh : hs.length = 8) (Hh : w.heap[hb]? = some (.cells (vals hs) 98 (0, 0))) (Hk : w.heap[kb]? = some (.cells (vals kays) 99 (0, 0))) (hne : kb ≠ hb)
    (hl : bs.length = 64) (hA : Cells w (some A) (nums .u8 bs)) (hAb : A.block ≠ hb) :
    Calls Try.prog 48 #[.pointer (some ⟨hb, 0, none⟩), .pointer (some ⟨kb, 0, none⟩), .slice (some A) 64 c] w fun e w' => e = .returned (.tuple #[]) ∧ Own w (fun i => i = hb) w' [blk hb (.cells (vals (comp kays hs bs)) 98 (0, 0))] := by
  replace hA := Hidd.mk hA
  replace Hh := Hidd.mk Hh
  replace Hk := Hidd.mk Hk
  go_enter Try.func48, Try.ntmps48
  go_wp2
  go_loopw [19] (fun v19 wr => ∃ (i : Nat), v19 = .int .i64 i ∧ i ≤ 16 ∧ Hidd (Own w (fun i => i = hb) wr [blk w.heap.size (.cells (vals (sw bs i)) 99 (0, 0)), blk hb (.cells (vals hs) 98 (0, 0))])) (fun v19 _ => 16 - (intOf v19).toNat)
  case atStart => exact ⟨0, rfl, by omega, ⟨(Own.one (r := blk hb (.cells (vals hs) 98 (0, 0))) Hh.out).alloc _⟩⟩
  case round =>
    obtain ⟨i, rfl, hi, ho⟩ := hrel
    by_cases hlt : i < 16
    · have d1 : decide ((i : Int) < 16) = true := by rw [decide_eq_true_eq]; omega
      -- {A
      have bi0 : (0 : Int) ≤ (i : Int) := by omega
      have bi1 : (i : Int) < 64 := by omega
      go_wp2
      obtain ⟨W0, hW0⟩ : ∃ zz, zz = World.drew wr := ⟨_, rfl⟩
      refine wp_region_flow [([0, 1, 2, 8, 9, 17, 18, 26, 27, 3, 10, 19, 28, 4, 11, 20, 29, 5, 12, 21, 30, 6, 13, 22, 31, 7, 14, 23, 32, 15, 24, 16, 25, 33, 34], some (35, [false]))] (by kernel_rfl) (by kernel_rfl) ?_
      rw [show ({ wr with drawn := wr.drawn + 1 } : World) = W0 from hW0.symm]
      replace hW0 := Hidd.mk hW0
      simp only [opsF, List.map_cons, List.map_nil, List.getD_cons_succ, List.getD_cons_zero, Option.map]
      have ho2 := Hidd.mk (show Own w (fun i => i = hb) W0 _ by rw [hW0.out]; exact ho.out.drew)
      clear hW0 ho
      have hA2 := cells_kept hA.out ho2.out.kept hAb
      obtain ⟨j, hj⟩ : ∃ j, j = 4 * i := ⟨_, rfl⟩
      obtain ⟨j1, hj1⟩ : ∃ j, j = 4 * i + 1 := ⟨_, rfl⟩
      obtain ⟨j2, hj2⟩ : ∃ j, j = 4 * i + 2 := ⟨_, rfl⟩
      obtain ⟨j3, hj3⟩ : ∃ j, j = 4 * i + 3 := ⟨_, rfl⟩
      have m0 : IntKind.i64.wrap (4 * (i : Int)) = (j : Int) := by rw [go_i64]; omega
      have m1 : IntKind.i64.wrap ((j : Int) + 1) = (j1 : Int) := by rw [go_i64]; omega
      have m2 : IntKind.i64.wrap ((j : Int) + 2) = (j2 : Int) := by rw [go_i64]; omega
      have m3 : IntKind.i64.wrap ((j : Int) + 3) = (j3 : Int) := by rw [go_i64]; omega
      have n0 : (j : Int) < 64 := by omega
      have n1 : (j1 : Int) < 64 := by omega
      have n2 : (j2 : Int) < 64 := by omega
      have n3 : (j3 : Int) < 64 := by omega
      have ew : wordAt bs i = bw (bs.getD j 0) <<< 24 ||| bw (bs.getD j1 0) <<< 16 ||| bw (bs.getD j2 0) <<< 8 ||| bw (bs.getD j3 0) := by rw [hj, hj1, hj2, hj3]; rfl
      obtain ⟨b0, q0, e0⟩ : ∃ b, W0.cell? (A.add j) = some (.int .u8 b) ∧ bs.getD j 0 = b := by obtain ⟨ad, e, h⟩ := hA2.at j (by omega); injection e with e; exact ⟨_, by rw [e]; exact h, rfl⟩
      obtain ⟨b1, q1, e1⟩ : ∃ b, W0.cell? (A.add j1) = some (.int .u8 b) ∧ bs.getD j1 0 = b := by obtain ⟨ad, e, h⟩ := hA2.at j1 (by omega); injection e with e; exact ⟨_, by rw [e]; exact h, rfl⟩
      obtain ⟨b2, q2, e2⟩ : ∃ b, W0.cell? (A.add j2) = some (.int .u8 b) ∧ bs.getD j2 0 = b := by obtain ⟨ad, e, h⟩ := hA2.at j2 (by omega); injection e with e; exact ⟨_, by rw [e]; exact h, rfl⟩
      obtain ⟨b3, q3, e3⟩ : ∃ b, W0.cell? (A.add j3) = some (.int .u8 b) ∧ bs.getD j3 0 = b := by obtain ⟨ad, e, h⟩ := hA2.at j3 (by omega); injection e with e; exact ⟨_, by rw [e]; exact h, rfl⟩
      rw [e0, e1, e2, e3] at ew
      clear hj hj1 hj2 hj3 e0 e1 e2 e3 hA2
      replace ew := Hidd.mk ew
      have w0 := v_wrapI b0
      have w1 := v_wrapI b1
      have w2 := v_wrapI b2
      have w3 := v_wrapI b3
      obtain ⟨x, ex⟩ : ∃ x : W32, x = bw b0 <<< 24 ||| bw b1 <<< 16 ||| bw b2 <<< 8 ||| bw b3 := ⟨_, rfl⟩
      have ewv := word_v (bw b0) (bw b1) (bw b2) (bw b3)
      replace ew := Hidd.mk (show wordAt bs i = x from ew.out.trans ex.symm)
      rw [← ex] at ewv
      clear ex
      have f6 := ho2.out.frozen 0 rfl i
      have e6 := (ho2.out.cell 0 rfl i).trans (vals_get (getD_some 0 (by rw [sw_len _ _ (by omega)]; omega)))
      have ho3 := Hidd.mk (ho2.out.set 0 rfl i (u32v x))
      generalize (sw bs i).getD i 0 = x6 at e6
      refine FlW.stage (fun zz => zz = _) rfl ?_
      repeat (first | (refine StQ.skip (by rfl) ?_; simp only [Act.put, List.setIfInBounds_toArray, List.set_cons_zero, List.set_cons_succ]) | (refine StQ.go' (by rfl) (Exists.intro ?_ (And.intro (fun w' hS => ?_) ?_)); rotate_left; (focus (rw [hS]; go_simp; try with_reducible rfl)); simp only [Act.put, List.setIfInBounds_toArray, List.set_cons_zero, List.set_cons_succ]))
      refine StQ.nil ?_
      refine FlO.go (by rfl) (fun K hK => ?_); go_simp; refine hK.out _ _ (.inr trivial) ?_; clear hK K
      refine FlW.nil (Calm.normal ?_)
      go_wp2
      go_roundw
      case rel =>
        refine ⟨i + 1, by go_num, by omega, ⟨?_⟩⟩
        have h3 := ho3.out
        rw [List.set_cons_zero, vals_set, sw_set (by omega) ((nextW_lo hlt).trans ew.out).symm] at h3
        exact h3
      case measure => simp [intOf]; omega
      -- A}
    · have d1 : decide ((i : Int) < 16) = false := by rw [decide_eq_false_iff_not]; omega
      obtain rfl : i = 16 := by omega
      clear hlt hi
      go_wp2
      obtain ⟨wB, hwB⟩ : ∃ wB, wB = w.heap.size := ⟨_, rfl⟩
      rw [← hwB] at ho ⊢
      replace hwB := Hidd.mk hwB
      go_loopw [9] (fun v9 wx => ∃ (i : Nat), v9 = .int .i64 i ∧ 16 ≤ i ∧ i ≤ 64 ∧ Hidd (Own w (fun i => i = hb) wx [blk wB (.cells (vals (sw bs i)) 99 (0, 0)), blk hb (.cells (vals hs) 98 (0, 0))])) (fun v9 _ => 64 - (intOf v9).toNat)
      case atStart => exact ⟨16, rfl, by omega, by omega, ho⟩
      case round =>
        clear ho
        obtain ⟨i, rfl, hi0, hi, ho⟩ := hrel
        by_cases hlt : i < 64
        · have d1 : decide ((i : Int) < 64) = true := by rw [decide_eq_true_eq]; omega
          -- {B
          obtain ⟨a2, ha2⟩ : ∃ j, j = i - 2 := ⟨_, rfl⟩
          obtain ⟨a7, ha7⟩ : ∃ j, j = i - 7 := ⟨_, rfl⟩
          obtain ⟨a15, ha15⟩ : ∃ j, j = i - 15 := ⟨_, rfl⟩
          obtain ⟨a16, ha16⟩ : ∃ j, j = i - 16 := ⟨_, rfl⟩
          have en := nextW_hi (bs := bs) (t := i) (by omega)
          rw [← ha2, ← ha7, ← ha15, ← ha16] at en
          have x2 : (sw bs i)[a2]? = some ((sched bs i).getD a2 0) := sw_get (by omega)
          have x7 : (sw bs i)[a7]? = some ((sched bs i).getD a7 0) := sw_get (by omega)
          have x15 : (sw bs i)[a15]? = some ((sched bs i).getD a15 0) := sw_get (by omega)
          have x16 : (sw bs i)[a16]? = some ((sched bs i).getD a16 0) := sw_get (by omega)
          generalize (sched bs i).getD a2 0 = c2 at x2 en
          generalize (sched bs i).getD a7 0 = c7 at x7 en
          generalize (sched bs i).getD a15 0 = c15 at x15 en
          generalize (sched bs i).getD a16 0 = c16 at x16 en
          replace x2 := Hidd.mk x2
          have m2 : IntKind.i64.wrap ((i : Int) - 2) = (a2 : Int) := by rw [go_i64]; omega
          replace x7 := Hidd.mk x7
          have m7 : IntKind.i64.wrap ((i : Int) - 7) = (a7 : Int) := by rw [go_i64]; omega
          replace x15 := Hidd.mk x15
          have m15 : IntKind.i64.wrap ((i : Int) - 15) = (a15 : Int) := by rw [go_i64]; omega
          replace x16 := Hidd.mk x16
          have m16 : IntKind.i64.wrap ((i : Int) - 16) = (a16 : Int) := by rw [go_i64]; omega
          have n2 : (a2 : Int) < 64 := by omega
          have n7 : (a7 : Int) < 64 := by omega
          have n15 : (a15 : Int) < 64 := by omega
          have n16 : (a16 : Int) < 64 := by omega
          clear ha2 ha7 ha15 ha16
          have bi0 : (0 : Int) ≤ (i : Int) := by omega
          have bi1 : (i : Int) < 64 := by omega
          obtain ⟨z0, ez0⟩ : ∃ x : W32, x = sg0 c15 := ⟨_, rfl⟩
          obtain ⟨z1, ez1⟩ : ∃ x : W32, x = sg1 c2 := ⟨_, rfl⟩
          obtain ⟨z, ez⟩ : ∃ x : W32, x = c16 + z0 + c7 + z1 := ⟨_, rfl⟩
          have g0 := sg0_v c15
          have g1 := sg1_v c2
          have g2 := add4_v c16 z0 c7 z1
          rw [← ez0] at g0
          rw [← ez1] at g1
          rw [← ez] at g2
          replace en := Hidd.mk (show nextW bs (sched bs i) = z by rw [en, ez, ez0, ez1])
          clear ez ez0 ez1
          go_wp2
          have y15 := (ho.out.cell 0 rfl a15).trans (vals_get x15.out)
          go_quiet ((go_at_call 51; exact quiet_eq (turn_i _ _ (by decide) (by decide) _)))
          have ho1 := Hidd.mk (ho.out.ext (below_drewN' nq (Below.refl _ _)))
          clear y15 ho
          generalize World.drewN wr nq = W1 at ho1 ⊢
          go_wp2
          have y2 := (ho1.out.cell 0 rfl a2).trans (vals_get x2.out)
          go_quiet ((go_at_call 51; exact quiet_eq (turn_i _ _ (by decide) (by decide) _)))
          have ho2 := Hidd.mk (ho1.out.ext (below_drewN' nq (Below.refl _ _)))
          clear ho1 y2
          generalize World.drewN W1 nq = W2 at ho2 ⊢
          go_wp2
          obtain ⟨W0, hW0⟩ : ∃ zz, zz = World.drew W2 := ⟨_, rfl⟩
          refine wp_region_flow [([0, 1, 5, 7, 12, 2, 8, 3, 9, 4, 10, 6, 11, 13, 14], some (15, [false]))] (by kernel_rfl) (by kernel_rfl) ?_
          rw [show ({ W2 with drawn := W2.drawn + 1 } : World) = W0 from hW0.symm]
          replace hW0 := Hidd.mk hW0
          simp only [opsF, List.map_cons, List.map_nil, List.getD_cons_succ, List.getD_cons_zero, Option.map]
          have ho3 := Hidd.mk (show Own w _ W0 _ by rw [hW0.out]; exact ho2.out.drew)
          clear hW0 ho2
          have y16 := (ho3.out.cell 0 rfl a16).trans (vals_get x16.out)
          have y7 := (ho3.out.cell 0 rfl a7).trans (vals_get x7.out)
          have f6 := ho3.out.frozen 0 rfl i
          have e6 := (ho3.out.cell 0 rfl i).trans (vals_get (getD_some 0 (by rw [sw_len _ _ (by omega)]; omega)))
          have ho4 := Hidd.mk (ho3.out.set 0 rfl i (u32v z))
          generalize (sw bs i).getD i 0 = x6 at e6
          refine FlW.stage (fun zz => zz = _) rfl ?_
          repeat (first | (refine StQ.skip (by rfl) ?_; simp only [Act.put, List.setIfInBounds_toArray, List.set_cons_zero, List.set_cons_succ]) | (refine StQ.go' (by rfl) (Exists.intro ?_ (And.intro (fun w' hS => ?_) ?_)); rotate_left; (focus (rw [hS]; go_simp; try with_reducible rfl)); simp only [Act.put, List.setIfInBounds_toArray, List.set_cons_zero, List.set_cons_succ]))
          refine StQ.nil ?_
          refine FlO.go (by rfl) (fun K hK => ?_); go_simp; refine hK.out _ _ (.inr trivial) ?_; clear hK K
          refine FlW.nil (Calm.normal ?_)
          go_wp2
          go_roundw
          case rel =>
            (repeat apply Exists.intro)
            refine ⟨?_, rfl⟩
            refine ⟨i + 1, by go_num, by omega, by omega, ⟨?_⟩⟩
            have h4 := ho4.out
            rw [List.set_cons_zero, vals_set, sw_set hlt en.out.symm] at h4
            exact h4
          case measure => simp [intOf]; omega
          -- B}
        · have d1 : decide ((i : Int) < 64) = false := by rw [decide_eq_false_iff_not]; omega
          obtain rfl : i = 64 := by omega
          clear hlt hi hi0
          have esw : sw bs 64 = sched bs 64 := by simp [sw]
          rw [esw] at ho
          clear esw
          obtain ⟨W, hW⟩ : ∃ W, W = sched bs 64 := ⟨_, rfl⟩
          have hWl : W.length = 64 := by rw [hW, sched_len]
          have hcomp : Hidd (comp kays hs bs = List.zipWith (· + ·) hs (rnds kays W hs 64)) := ⟨by rw [hW]; rfl⟩
          rw [← hW] at ho
          replace hW := Hidd.mk hW
          replace hWl := Hidd.mk hWl
          have hh2 := Hidd.mk hh
          obtain ⟨p0, p1, p2, p3, p4, p5, p6, p7, ehs⟩ := list8 hh
          have hg1 := ho.out.get 1 rfl
          rw [ehs] at hg1
          obtain ⟨c0, c1, c2, c3, c4, c5, c6, c7⟩ := cells8v hg1
          clear hg1 hh
          have hbl := ho.out.lt 1 rfl
          have hoA := Hidd.mk (ho.out.alloc (.cells (vals hs) 98 (0, 0)))
          have evs : vals hs = #[.int .u32 (p0.toNat : Int), .int .u32 (p1.toNat : Int), .int .u32 (p2.toNat : Int), .int .u32 (p3.toNat : Int), .int .u32 (p4.toNat : Int), .int .u32 (p5.toNat : Int), .int .u32 (p6.toNat : Int), .int .u32 (p7.toNat : Int)] := by rw [ehs]; rfl
          replace evs := Hidd.mk evs
          replace ehs := Hidd.mk ehs
          go_wp2
          rw [← evs.out]
          clear c0 c1 c2 c3 c4 c5 c6 c7 hbl ho evs ehs p0 p1 p2 p3 p4 p5 p6 p7
          generalize wr.heap.size = vB at hoA ⊢
          generalize World.alloc wr _ = wa at hoA ⊢
          have hkB : Hidd (wa.heap[kb]? = some (.cells (vals kays) 99 (0, 0))) := ⟨hoA.out.kept.row hne Hk.out⟩
          go_loopw [118] (fun v118 wx => ∃ (i : Nat), v118 = .int .i64 i ∧ i ≤ 64 ∧ Hidd (Own w (fun i => i = hb) wx [blk vB (.cells (vals (rnds kays W hs i)) 98 (0, 0)), blk wB (.cells (vals W) 99 (0, 0)), blk hb (.cells (vals hs) 98 (0, 0))])) (fun v118 _ => 64 - (intOf v118).toNat)
          case atStart => exact ⟨0, rfl, by omega, hoA⟩
          case round =>
            clear hoA hkB
            obtain ⟨i, rfl, hi, ho⟩ := hrel
            by_cases hlt : i < 64
            · have d1 : decide ((i : Int) < 64) = true := by rw [decide_eq_true_eq]; omega
              -- {C
              have bi0 : (0 : Int) ≤ (i : Int) := by omega
              have bi1 : (i : Int) < 64 := by omega
              obtain ⟨v0, v1, v2, v3, v4, v5, v6, v7, ev⟩ := list8 (rnds_len (ks := kays) (ws := W) hh2.out i)
              have xk : kays[i]? = some (kays.getD i 0) := getD_some 0 (by show i < 64; exact hlt)
              have xw : W[i]? = some (W.getD i 0) := getD_some 0 (by rw [hWl.out]; exact hlt)
              have en : rnds kays W hs (i + 1) = rnd [v0, v1, v2, v3, v4, v5, v6, v7] (kays.getD i 0) (W.getD i 0) := by rw [rnds, ev]
              rw [ev] at ho
              generalize kays.getD i 0 = kx at xk en
              generalize W.getD i 0 = wx at xw en
              clear ev
              replace xk := Hidd.mk xk
              replace xw := Hidd.mk xw
              obtain ⟨s1, es1⟩ : ∃ x : W32, x = rr v4 6 ^^^ rr v4 11 ^^^ rr v4 25 := ⟨_, rfl⟩
              obtain ⟨nv, env⟩ : ∃ x : W32, x = ~~~v4 := ⟨_, rfl⟩
              obtain ⟨ch, ech⟩ : ∃ x : W32, x = v4 &&& v5 ^^^ nv &&& v6 := ⟨_, rfl⟩
              obtain ⟨ta, eta⟩ : ∃ x : W32, x = v7 + s1 := ⟨_, rfl⟩
              obtain ⟨tb, etb⟩ : ∃ x : W32, x = ta + ch := ⟨_, rfl⟩
              obtain ⟨tc, etc⟩ : ∃ x : W32, x = tb + kx := ⟨_, rfl⟩
              obtain ⟨t, et⟩ : ∃ x : W32, x = tc + wx := ⟨_, rfl⟩
              obtain ⟨u, eu⟩ : ∃ x : W32, x = rr v0 2 ^^^ rr v0 13 ^^^ rr v0 22 := ⟨_, rfl⟩
              obtain ⟨m, em⟩ : ∃ x : W32, x = v0 &&& v1 ^^^ v0 &&& v2 ^^^ v1 &&& v2 := ⟨_, rfl⟩
              obtain ⟨n4, en4⟩ : ∃ x : W32, x = v3 + t := ⟨_, rfl⟩
              obtain ⟨tu, etu⟩ : ∃ x : W32, x = t + u := ⟨_, rfl⟩
              obtain ⟨n0, en0⟩ : ∃ x : W32, x = tu + m := ⟨_, rfl⟩
              have g1 := xor3_v (rr v4 6) (rr v4 11) (rr v4 25)
              rw [← es1] at g1
              have gn := v_not' v4
              rw [← env] at gn
              have g2 := ch2_v v4 v5 nv v6
              rw [← ech] at g2
              have ga := v_addm v7 s1
              rw [← eta] at ga
              have gaw := v_add v7 s1
              rw [← eta] at gaw
              have gb := v_addm ta ch
              rw [← etb] at gb
              have gbw := v_add ta ch
              rw [← etb] at gbw
              have gc := v_addm tb kx
              rw [← etc] at gc
              have gcw := v_add tb kx
              rw [← etc] at gcw
              have gd := v_addm tc wx
              rw [← et] at gd
              have gdw := v_add tc wx
              rw [← et] at gdw
              have g4 := xor3_v (rr v0 2) (rr v0 13) (rr v0 22)
              rw [← eu] at g4
              have g5 := maj_v v0 v1 v2
              rw [← em] at g5
              have g6 := v_addm v3 t
              rw [← en4] at g6
              have g6w := v_add v3 t
              rw [← en4] at g6w
              have ge := v_addm t u
              rw [← etu] at ge
              have gew := v_add t u
              rw [← etu] at gew
              have g7 := v_addm tu m
              rw [← en0] at g7
              have g7w := v_add tu m
              rw [← en0] at g7w
              replace en := Hidd.mk (show rnds kays W hs (i + 1) = [n0, v0, v1, v2, n4, v4, v5, v6] by
                rw [en, en0, en4, etu, em, eu, et, etc, etb, eta, ech, env, es1]
                simp [rnd, tOf, uOf, BitVec.add_assoc])
              clear en0 en4 etu em eu et etc etb eta ech env es1
              go_wp2
              obtain ⟨c0, c1, c2, c3, c4, c5, c6, c7⟩ := cells8v (ho.out.get 0 rfl)
              go_quiet ((go_at_call 51; exact quiet_eq (turn_i _ _ (by decide) (by decide) _)))
              have ho1 := Hidd.mk (ho.out.ext (below_drewN' nq (Below.refl _ _)))
              clear c0 c1 c2 c3 c4 c5 c6 c7 ho
              generalize World.drewN wr nq = W1 at ho1 ⊢
              go_wp2
              obtain ⟨c0, c1, c2, c3, c4, c5, c6, c7⟩ := cells8v (ho1.out.get 0 rfl)
              have yk := (cell_of_row W1 kb i _ _ _ (ho1.out.kept.row hne Hk.out)).trans (vals_get xk.out)
              have yw := (ho1.out.cell 1 rfl i).trans (vals_get xw.out)
              go_quiet (fail)
              have ho2 := Hidd.mk (ho1.out.ext (below_drewN' nq (Below.refl _ _)))
              clear c0 c1 c2 c3 c4 c5 c6 c7 ho1 yk yw
              generalize World.drewN W1 nq = W2 at ho2 ⊢
              -- {D
              go_wp2
              obtain ⟨c0, c1, c2, c3, c4, c5, c6, c7⟩ := cells8v (ho2.out.get 0 rfl)
              go_quiet ((go_at_call 51; exact quiet_eq (turn_i _ _ (by decide) (by decide) _)))
              have ho3 := Hidd.mk (ho2.out.ext (below_drewN' nq (Below.refl _ _)))
              clear c0 c1 c2 c3 c4 c5 c6 c7 ho2
              generalize World.drewN W2 nq = W3 at ho3 ⊢
              obtain ⟨c0, c1, c2, c3, c4, c5, c6, c7⟩ := cells8v (ho3.out.get 0 rfl)
              go_wp2
              clear c0 c1 c2 c3 c4 c5 c6 c7
              obtain ⟨W4, hW4⟩ : ∃ zz, zz = World.drew W3 := ⟨_, rfl⟩
              refine wp_region_flow [([0, 1], some (2, [false]))] (by kernel_rfl) (by kernel_rfl) ?_
              rw [show ({ W3 with drawn := W3.drawn + 1 } : World) = W4 from hW4.symm]
              replace hW4 := Hidd.mk hW4
              simp only [opsF, List.map_cons, List.map_nil, List.getD_cons_succ, List.getD_cons_zero, Option.map]
              have ho4 := Hidd.mk (show Own w _ W4 _ by rw [hW4.out]; exact ho3.out.drew)
              clear hW4 ho3
              obtain ⟨W5, hcp, ho5⟩ := copy_own 0 ho4.out rfl
              replace ho5 := Hidd.mk ho5
              replace hcp := Hidd.mk hcp
              clear ho4
              refine FlW.stage (fun zz => zz = _) rfl ?_
              repeat (first | (refine StQ.skip (by rfl) ?_; simp only [Act.put, List.setIfInBounds_toArray, List.set_cons_zero, List.set_cons_succ]) | (refine StQ.go' (by rfl) (Exists.intro ?_ (And.intro (fun w' hS => ?_) ?_)); rotate_left; (focus (rw [hS]; go_simp; try with_reducible rfl)); simp only [Act.put, List.setIfInBounds_toArray, List.set_cons_zero, List.set_cons_succ]))
              refine StQ.nil ?_
              refine FlO.go (by rfl) (fun K hK => ?_)
              (refine Lib.wp_copy_run _ _ _ 81 81 rfl _ _ rfl rfl (hcp.out _) ?_)
              refine hK.out _ _ (.inr trivial) ?_
              clear hK K
              refine FlW.nil (Calm.normal ?_)
              clear hcp
              obtain ⟨c0, c1, c2, c3, c4, c5, c6, c7⟩ := cells8v (ho5.out.get 0 rfl)
              have f0 := ho5.out.frozen 0 rfl 0
              have f4 := ho5.out.frozen 0 rfl 4
              have ho6 := Hidd.mk ((ho5.out.set 0 rfl 4 (u32v n4)).set 0 rfl 0 (u32v n0))
              clear ho5
              go_wp2
              go_roundw
              case rel =>
                (repeat apply Exists.intro)
                refine ⟨?_, rfl⟩
                refine ⟨i + 1, by go_num, by omega, ⟨?_⟩⟩
                have h6 := ho6.out
                simp only [List.set_cons_zero, vals_set] at h6
                rw [en.out]
                exact h6
              case measure => simp [intOf]; omega
              -- D}
              -- C}
            · have d1 : decide ((i : Int) < 64) = false := by rw [decide_eq_false_iff_not]; omega
              obtain rfl : i = 64 := by omega
              clear hlt hi
              go_wp2
              obtain ⟨V, hV⟩ : ∃ V, V = rnds kays W hs 64 := ⟨_, rfl⟩
              have hVl : V.length = 8 := by rw [hV]; exact rnds_len hh2.out 64
              rw [← hV] at ho hcomp
              replace hV := Hidd.mk hV
              go_loopw [208] (fun v208 wx => ∃ (i : Nat), v208 = .int .i64 i ∧ i ≤ 8 ∧ Hidd (Own w (fun i => i = hb) wx [blk vB (.cells (vals V) 98 (0, 0)), blk hb (.cells (vals (hv hs V i)) 98 (0, 0))])) (fun v208 _ => 8 - (intOf v208).toNat)
              case atStart => exact ⟨0, rfl, by omega, ⟨by rw [hv_zero]; exact ho.out.sub (by simp)⟩⟩
              case round =>
                clear ho
                obtain ⟨i, rfl, hi, ho⟩ := hrel
                by_cases hlt : i < 8
                · have d1 : decide ((i : Int) < 8) = true := by rw [decide_eq_true_eq]; omega
                  have bi0 : (0 : Int) ≤ (i : Int) := by omega
                  have bi1 : (i : Int) < 8 := by omega
                  go_wp2
                  obtain ⟨W0, hW0⟩ : ∃ zz, zz = World.drew wr := ⟨_, rfl⟩
                  refine wp_region_flow [([0, 1, 5, 2, 6, 9, 3, 7, 4, 8, 10], some (11, [false]))] (by kernel_rfl) (by kernel_rfl) ?_
                  rw [show ({ wr with drawn := wr.drawn + 1 } : World) = W0 from hW0.symm]
                  replace hW0 := Hidd.mk hW0
                  simp only [opsF, List.map_cons, List.map_nil, List.getD_cons_succ, List.getD_cons_zero, Option.map]
                  have ho2 := Hidd.mk (show Own w _ W0 _ by rw [hW0.out]; exact ho.out.drew)
                  clear hW0 ho
                  have xh : (hv hs V i)[i]? = some (hs.getD i 0) := hv_get (by rw [hh2.out]; exact hlt) (by rw [hVl]; exact hlt)
                  have xV : V[i]? = some (V.getD i 0) := getD_some 0 (by rw [hVl]; exact hlt)
                  have es := hv_set (i := i) (by rw [hh2.out]; exact hlt) (by rw [hVl]; exact hlt)
                  have ga := v_add (hs.getD i 0) (V.getD i 0)
                  generalize hs.getD i 0 = ph at xh es ga
                  generalize V.getD i 0 = pv at xV es ga
                  obtain ⟨z, ez⟩ : ∃ z, z = ph + pv := ⟨_, rfl⟩
                  rw [← ez] at es ga
                  clear ez
                  have y0 := (ho2.out.cell 1 rfl i).trans (vals_get xh)
                  have y1 := (ho2.out.cell 0 rfl i).trans (vals_get xV)
                  have f1 := ho2.out.frozen 1 rfl i
                  have ho3 := Hidd.mk (ho2.out.set 1 rfl i (u32v z))
                  clear xh xV
                  refine FlW.stage (fun zz => zz = _) rfl ?_
                  repeat (first | (refine StQ.skip (by rfl) ?_; simp only [Act.put, List.setIfInBounds_toArray, List.set_cons_zero, List.set_cons_succ]) | (refine StQ.go' (by rfl) (Exists.intro ?_ (And.intro (fun w' hS => ?_) ?_)); rotate_left; (focus (rw [hS]; go_simp; try with_reducible rfl)); simp only [Act.put, List.setIfInBounds_toArray, List.set_cons_zero, List.set_cons_succ]))
                  refine StQ.nil ?_
                  refine FlO.go (by rfl) (fun K hK => ?_); go_simp; refine hK.out _ _ (.inr trivial) ?_; clear hK K
                  refine FlW.nil (Calm.normal ?_)
                  go_wp2
                  go_roundw
                  case rel =>
                    (repeat apply Exists.intro)
                    refine ⟨?_, rfl⟩
                    refine ⟨i + 1, by go_num, by omega, ⟨?_⟩⟩
                    have h3 := ho3.out
                    simp only [List.set_cons_zero, List.set_cons_succ, vals_set, es] at h3
                    exact h3
                  case measure => simp [intOf]; omega
                · have d1 : decide ((i : Int) < 8) = false := by rw [decide_eq_false_iff_not]; omega
                  obtain rfl : i = 8 := by omega
                  clear hlt hi
                  go_wp2
                  refine bodyPost_end (v := .tuple #[]) (by simp [results, Try.results48, go_sem]) rfl ⟨rfl, ?_⟩
                  rw [hcomp.out, ← hv_all (by rw [hh2.out]) hVl]
                  exact ho.out.tail
end Go.Proofs.Ytjbhcmkloamcmaa
