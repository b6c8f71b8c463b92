/- sound.Reach. -/
import Derived.Test.YtcamoldjljfbeaaSoP0
import Derived.Test.YtcamoldjljfbeaaSoL
import Derived.Test.YtcamoldjljfbeaaAppR
import Derived.Deep.OwnRows
import Derived.Deep.DeepCutAuto
namespace Go.Proofs.Ytcamoldjljfbeaa
open Go.RowKit

def bools (X : List Bool) : List Value := X.map Value.bool
theorem bools_get {X : List Bool} {k : Nat} {b : Bool} (h : X[k]? = some b) : (bools X)[k]? = some (.bool b) := by
  unfold bools
  rw [List.getElem?_map, h]
  rfl
theorem bools_set (X : List Bool) (k : Nat) (b : Bool) : (bools X).set k (.bool b) = bools (X.set k b) := by
  unfold bools
  rw [List.map_set]
theorem made_bools (n : Nat) : (madeCells #[.bool false] n).toList = bools (List.replicate n false) := by
  have h : madeCells #[.bool false] n = (bools (List.replicate n false)).toArray := by
    simp only [madeCells, bools]
    apply Array.ext
    · simp
    · intro i h1 h2
      simp [Nat.mod_one]
  rw [h]
theorem made_bsize (n : Nat) : (madeCells #[.bool false] n).size = n * 1 := by
  have := congrArg List.length (made_bools n)
  simp only [bools, List.length_map, List.length_replicate] at this
  simpa using this
theorem info_bool : (Try.prog.info? 4).map (fun i => (i.zero, i.size, i.bytes)) = some (some (.bool false), 1, 1) := by kernel_rfl
def edgesL (qs : List Qt) (rs : List Rt) : List (Nat × Nat) := rs.map fun r => ((qat qs r.src).part.toNat, (qat qs r.dst).part.toNat)
theorem qt_part {q : Qt} {n : Nat} (h : qtB q (n : Int) = true) : ∃ a : Nat, q.part = (a : Int) ∧ a < n := by
  unfold qtB inB at h
  simp only [Bool.and_eq_true, decide_eq_true_eq] at h
  exact ⟨q.part.toNat, by omega, by omega⟩
theorem take_foldl {es : List (Nat × Nat)} {j : Nat} {e : Nat × Nat} (h : es[j]? = some e) (X : List Bool) : (es.take (j + 1)).foldl edge X = edge ((es.take j).foldl edge X) e := by
  rw [List.take_add_one, h, List.foldl_append]
  rfl
theorem foldl_len (es : List (Nat × Nat)) (X : List Bool) (j : Nat) : ((es.take j).foldl edge X).length = X.length := ((pass_le (es.take j) X).len).symm
theorem get_some {X : List Bool} {n k : Nat} (h : X.length = n) (hk : k < n) : ∃ b, X[k]? = some b := ⟨_, List.getElem?_eq_getElem (by omega)⟩
set_option maxRecDepth 100000
set_option maxHeartbeats 8000000
theorem reach_any (n f sl gp rh d0 d1 mg : Int) (PA : Option Addr) (pn pc : Nat) (OA : Option Addr) (on oc : Nat) (RA : Option Addr) (rn rc : Nat) (qs : List Qt) (rs : List Rt) (p : Nat) (w : World) (hQ : At Qt.cells w OA on qs) (hR : At Rt.cells w RA rn rs) (hi : ∀ r ∈ rs, rtB r (on : Int) = true) (hq : ∀ q ∈ qs, qtB q (pn : Int) = true)
    (hp : p < pn) (hpn : pn ≤ 12) (_hon : on ≤ 24) (hrn : rn ≤ 24) :
    Calls Try.prog 26 #[.agg #[.int .i64 n, .int .i64 f, .int .i64 sl, .int .i64 gp, .int .i64 rh, .int .i64 d0, .int .i64 d1, .int .i64 mg, .slice PA pn pc, .slice OA on oc, .slice RA rn rc], .int .i64 (p : Int)] w fun e w' => ∃ A c, e = .returned (.slice A pn c) ∧ Own w (fun _ => False) w' [row 4 1 (.slice A pn c) pn (bools (reachL (edgesL qs rs) pn p))] := by
  have hm1 : ∀ W : World, (Instr.makeSlice 48 (.int .i64 (pn : Int)) (.int .i64 (pn : Int))).run Try.prog W = _ := run_make_row' 48 4 (.bool false) 1 (by rfl) info_bool rfl .i64 .i64 pn (by omega) (by omega)
  have ho := (Own.nil w (fun _ => False)).alloc (.cells #[.int .i64 n, .int .i64 f, .int .i64 sl, .int .i64 gp, .int .i64 rh, .int .i64 d0, .int .i64 d1, .int .i64 mg, .slice PA pn pc, .slice OA on oc, .slice RA rn rc] 26)
  have ho1 := Hidd.mk (row_lit' ho 4 1 pn (madeCells #[.bool false] pn) _ (w.heap.size + 1) (by simp) (made_bools pn) (made_bsize pn) (by unfold maxLen; omega))
  clear ho
  have hrl := Hidd.mk hR.1
  have hql := Hidd.mk hQ.1
  obtain ⟨es, hes⟩ : ∃ es, edgesL qs rs = es := ⟨_, rfl⟩
  have hel : es.length = rn := by rw [← hes]; unfold edgesL; rw [List.length_map, hR.1]
  rw [hes]
  replace hes := Hidd.mk hes
  replace hel := Hidd.mk hel
  replace hQ := Hidd.mk hQ
  replace hR := Hidd.mk hR
  replace hi := Hidd.mk hi
  replace hq := Hidd.mk hq
  have dp0 : decide ((p : Int) < 0) = false := by rw [decide_eq_false_iff_not]; omega
  have dp1 : decide ((pn : Int) ≤ (p : Int)) = false := by rw [decide_eq_false_iff_not]; omega
  have bp0 : (0 : Int) ≤ (p : Int) := by omega
  have bp1 : (p : Int) < (pn : Int) := by omega
  go_enter Try.func26, Try.ntmps26
  go_upto_region 4 with fail
  generalize World.alloc (World.alloc w _) _ = W1 at ho1 ⊢
  generalize w.heap.size + 1 = g at ho1 ⊢
  generalize w.heap.size = p1 at ho1 ⊢
  have hy := cells_at (row_cells ho1.out 0 rfl) (bools_get (show (List.replicate pn false)[p]? = some false by rw [List.getElem?_replicate, if_pos hp]))
  have fy := (show W1.ownsRow 0 4 1 (.slice (some ⟨g, 0, none⟩) pn pn) pn (bools (List.replicate pn false)) from ho1.out.get 0 rfl).frozenAt p
  obtain ⟨x0, x1, x2, x3, x4, x5, x6, x7, x8, x9, xA⟩ := cells11 ho1.out 1 rfl
  go_wp2
  have ho2 := row_set ho1.out 0 rfl p (.bool true)
  rw [bools_set, show (List.replicate pn false).set p true = startL pn p from rfl] at ho2
  simp only [List.set_cons_zero] at ho2
  generalize World.setCell _ _ _ = W2 at ho2 ⊢
  replace ho2 := Hidd.mk ho2
  clear ho1 hy fy dp0 dp1 bp0 bp1 x0 x1 x2 x3 x4 x5 x6 x7 x8 x9 xA hm1
  go_loopw [26] (fun v26 wr => ∃ i : Nat, v26 = .int .i64 i ∧ i ≤ pn ∧ Hidd (Own w (fun _ => False) wr [row 4 1 (.slice (some ⟨g, 0, none⟩) pn pn) pn (bools (passes es i (startL pn p))), blk p1 (.cells #[.int .i64 n, .int .i64 f, .int .i64 sl, .int .i64 gp, .int .i64 rh, .int .i64 d0, .int .i64 d1, .int .i64 mg, .slice PA pn pc, .slice OA on oc, .slice RA rn rc] 26)])) (fun v26 _ => pn - (intOf v26).toNat)
  case atStart => exact ⟨0, rfl, Nat.zero_le _, ho2⟩
  case round =>
    clear ho2
    obtain ⟨i, rfl, hil, ho⟩ := hrel
    obtain ⟨x0, x1, x2, x3, x4, x5, x6, x7, x8, x9, xA⟩ := cells11 ho.out 1 rfl
    by_cases hlt : i < pn
    · have bi0 : (0 : Int) ≤ (i : Int) := by omega
      have bi1 : (i : Int) < (pn : Int) := by omega
      go_wp2
      clear x0 x1 x2 x3 x4 x5 x6 x7 x8 x9 xA
      go_loopw [31] (fun v31 wz => ∃ j : Nat, v31 = .int .i64 j ∧ j ≤ rn ∧ Hidd (Own w (fun _ => False) wz [row 4 1 (.slice (some ⟨g, 0, none⟩) pn pn) pn (bools ((es.take j).foldl edge (passes es i (startL pn p)))), blk p1 (.cells #[.int .i64 n, .int .i64 f, .int .i64 sl, .int .i64 gp, .int .i64 rh, .int .i64 d0, .int .i64 d1, .int .i64 mg, .slice PA pn pc, .slice OA on oc, .slice RA rn rc] 26)])) (fun v31 _ => rn - (intOf v31).toNat)
      case atStart => exact ⟨0, rfl, Nat.zero_le _, ho⟩
      case round =>
        clear ho
        obtain ⟨j, rfl, hjl, ho4⟩ := hrel
        by_cases hlj : j < rn
        · obtain ⟨r, hr⟩ : ∃ x, rs[j]? = some x := ⟨_, List.getElem?_eq_getElem (by rw [hrl.out]; exact hlj)⟩
          obtain ⟨s, t, rfl, hs, ht⟩ := rt_nat (hi.out r (List.mem_of_getElem? hr))
          obtain ⟨qa, hqa⟩ : ∃ x, qs[s]? = some x := ⟨_, List.getElem?_eq_getElem (by rw [hql.out]; exact hs)⟩
          obtain ⟨qb, hqb⟩ : ∃ x, qs[t]? = some x := ⟨_, List.getElem?_eq_getElem (by rw [hql.out]; exact ht)⟩
          obtain ⟨a', ea, ha'⟩ := qt_part (hq.out qa (List.mem_of_getElem? hqa))
          obtain ⟨b', eb, hb'⟩ := qt_part (hq.out qb (List.mem_of_getElem? hqb))
          have hej : es[j]? = some (a', b') := by
            rw [← hes.out]
            unfold edgesL
            rw [List.getElem?_map, hr]
            show some ((qat qs (s : Int)).part.toNat, (qat qs (t : Int)).part.toNat) = some (a', b')
            rw [qat_nat _ _ _ hqa, qat_nat _ _ _ hqb, ea, eb]
            rfl
          have hst := take_foldl hej (passes es i (startL pn p))
          obtain ⟨X, hX⟩ : ∃ X, (es.take j).foldl edge (passes es i (startL pn p)) = X := ⟨_, rfl⟩
          have hXl : X.length = pn := by rw [← hX, foldl_len, passes_len]
          rw [hX] at hst ho4
          obtain ⟨b, hb⟩ := get_some hXl ha'
          obtain ⟨c, hc⟩ := get_some hXl hb'
          have z0 := cells_at (row_cells ho4.out 0 rfl) (bools_get hb)
          have z1 := cells_at (row_cells ho4.out 0 rfl) (bools_get hc)
          have fz := (show wr.ownsRow 0 4 1 (.slice (some ⟨g, 0, none⟩) pn pn) pn (bools X) from ho4.out.get 0 rfl).frozenAt b'
          obtain ⟨x0, x1, x2, x3, x4, x5, x6, x7, x8, x9, xA⟩ := cells11 ho4.out 1 rfl
          obtain ⟨a, rfl, y0, y1⟩ := (hR.out.below (ho4.out.below fun _ => id)).route hr
          (try simp only at y0 y1)
          obtain ⟨aq, rfl, u0, _, _, _, _, _⟩ := (hQ.out.below (ho4.out.below fun _ => id)).port hqa
          obtain ⟨aq', eq, v0, _, _, _, _, _⟩ := (hQ.out.below (ho4.out.below fun _ => id)).port hqb
          injection eq with eq
          subst eq
          rw [ea] at u0
          rw [eb] at v0
          have hpl := ho4.out.lt 1 rfl
          have hgl := World.block_lt_of_cell? wr _ z0
          have hyl := World.block_lt_of_cell? wr _ y0
          have hul := World.block_lt_of_cell? wr _ u0
          have hvl := World.block_lt_of_cell? wr _ v0
          simp only at hgl
          have hgn : ¬ wr.heap.size = g := by omega
          have hgn2 : ¬ g = wr.heap.size := by omega
          have bj0 : (0 : Int) ≤ (j : Int) := by omega
          have bj1 : (j : Int) < (rn : Int) := by omega
          have bs0 : (0 : Int) ≤ (s : Int) := by omega
          have bs1 : (s : Int) < (on : Int) := by omega
          have bt0 : (0 : Int) ≤ (t : Int) := by omega
          have bt1 : (t : Int) < (on : Int) := by omega
          have ba0 : (0 : Int) ≤ (a' : Int) := by omega
          have ba1 : (a' : Int) < (pn : Int) := by omega
          have bb0 : (0 : Int) ≤ (b' : Int) := by omega
          have bb1 : (b' : Int) < (pn : Int) := by omega
          have ho5 := ho4.out.alloc (.cells #[.int .i64 (s : Int), .int .i64 (t : Int)] 41)
          rcases b with _ | _
          · have hE : edge X (a', b') = X := by unfold edge; rw [hb, if_neg (by simp)]
            have hend := Hidd.mk ho5.tail
            rw [hE] at hst
            rw [← hst] at hend
            clear hr hqa hqb ea eb hej hX hb hc hE hst
            replace ho5 := Hidd.mk ho5
            go_wp2
            go_roundw
            case rel => exact ⟨j + 1, by go_num, by omega, hend⟩
            case measure => (simp [intOf]; try omega)
          · have hE : edge X (a', b') = X.set b' true := by unfold edge; rw [hb, if_pos rfl]
            have ho6 := row_set ho4.out 0 rfl b' (.bool true)
            simp only [List.set_cons_zero] at ho6
            rw [bools_set, ← hE, ← hst] at ho6
            have hend := Hidd.mk (ho6.alloc (.cells #[.int .i64 (s : Int), .int .i64 (t : Int)] 41)).tail
            clear hr hqa hqb ea eb hej hX hb hc hE hst ho6
            replace ho5 := Hidd.mk ho5
            go_wp2
            go_roundw
            case rel => exact ⟨j + 1, by go_num, by omega, hend⟩
            case measure => (simp [intOf]; try omega)
        · obtain rfl : j = rn := by omega
          have h := ho4.out
          rw [List.take_of_length_le (by rw [hel.out]; exact Nat.le_refl _)] at h
          have hend := Hidd.mk (show Own w (fun _ => False) wr [row 4 1 (.slice (some ⟨g, 0, none⟩) pn pn) pn (bools (passes es (i + 1) (startL pn p))), _] from h)
          clear h
          go_wp2
          go_roundw
          case rel => exact ⟨i + 1, by go_num, by omega, hend⟩
          case measure => (simp [intOf]; try omega)
    · obtain rfl : i = pn := by omega
      go_wp2
      go_ret
      exact ⟨_, _, rfl, ho.out.reorder [0] rfl (by decide)⟩
end Go.Proofs.Ytcamoldjljfbeaa
