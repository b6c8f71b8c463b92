/- HealthLogs walked. -/
import Derived.Test.YtpiahnecpbalhaaHeK
import Derived.Test.YtpiahnecpbalhaaHeF
import Derived.Deep.LoopGhost
import Derived.Deep.DeepCutAuto
namespace Go.Proofs.Ytpiahnecpbalhaa
open Go.RowKit

def lastR (l : List Rec5) (i : Nat) : List Rec5 := (l.take i).drop (i - 16)
theorem lastR_len {l : List Rec5} {i : Nat} (h : i ≤ l.length) : (lastR l i).length = min i 16 := by
  rw [lastR, List.length_drop, List.length_take]; omega
theorem lastR_step {l : List Rec5} {i : Nat} {x : Rec5} (h : l[i]? = some x) : lst (lastR l i) x = lastR l (i + 1) := by
  have hi : i < l.length := (List.getElem?_eq_some_iff.1 h).1
  have ht : l.take (i + 1) = l.take i ++ [x] := by rw [List.take_add_one, h]; rfl
  have hl := lastR_len (l := l) (i := i) (by omega)
  unfold lst
  rw [List.length_append, hl, List.length_singleton]
  by_cases h16 : i < 16
  · rw [if_neg (by omega), lastR, lastR, ht, show i - 16 = 0 by omega, show i + 1 - 16 = 0 by omega]; rfl
  · rw [if_pos (by omega), lastR, lastR, ht, show i + 1 - 16 = (i - 16) + 1 by omega, ← List.drop_drop, show (l.take i ++ [x]).drop (i - 16) = (l.take i).drop (i - 16) ++ [x] from List.drop_append_of_le_length (by rw [List.length_take]; omega)]
theorem flat_takeR (l : List Rec5) (n : Nat) : (l.flatMap Rec5.cells).take (n * 5) = (l.take n).flatMap Rec5.cells := by
  induction l generalizing n with
  | nil => simp
  | cons x l ih =>
    rcases n with _ | n
    · simp
    · rw [List.flatMap_cons, List.take_succ_cons, List.flatMap_cons, ← ih n, show (n + 1) * 5 = x.cells.length + n * 5 by rw [rcells_len]; omega, List.take_length_add_append]
theorem flat_dropR (l : List Rec5) (n : Nat) : (l.flatMap Rec5.cells).drop (n * 5) = (l.drop n).flatMap Rec5.cells := by
  induction l generalizing n with
  | nil => simp
  | cons x l ih =>
    rcases n with _ | n
    · simp
    · rw [List.flatMap_cons, List.drop_succ_cons, ← ih n, show (n + 1) * 5 = x.cells.length + n * 5 by rw [rcells_len]; omega, List.drop_length_add_append]
theorem rec_cells5 {w : World} {g : Nat} {out : List Rec5} {j : Nat} {x : Rec5} (h : Cells w (some ⟨g, 0, none⟩) (out.flatMap Rec5.cells)) (hx : out[j]? = some x) :
    w.cell? ⟨g, j * 5, none⟩ = some (.int .u32 x.r) ∧ w.cell? ⟨g, j * 5 + 1, none⟩ = some (.int .u8 x.n) ∧ w.cell? ⟨g, j * 5 + 2, none⟩ = some (.int .u8 x.p) ∧ w.cell? ⟨g, j * 5 + 3, none⟩ = some (.int .u8 x.k) ∧ w.cell? ⟨g, j * 5 + 4, none⟩ = some (.int .u8 x.d) :=
  ⟨cells_at h ((flat_get rcells_len out j 0 x hx (by decide)).trans rfl), cells_at h ((flat_get rcells_len out j 1 x hx (by decide)).trans rfl), cells_at h ((flat_get rcells_len out j 2 x hx (by decide)).trans rfl), cells_at h ((flat_get rcells_len out j 3 x hx (by decide)).trans rfl), cells_at h ((flat_get rcells_len out j 4 x hx (by decide)).trans rfl)⟩
theorem rec_set {ys : List Rec5} {k : Nat} {x : Rec5} (hx : ys[k]? = some x) : (((((ys.flatMap Rec5.cells).set (k * 5) (.int .u32 ((99 : Nat) : Int))).set (k * 5 + 1) (.int .u8 ((0 : Nat) : Int))).set (k * 5 + 2) (.int .u8 ((0 : Nat) : Int))).set (k * 5 + 3) (.int .u8 ((0 : Nat) : Int))).set (k * 5 + 4) (.int .u8 ((0 : Nat) : Int)) = (ys.set k ⟨99, 0, 0, 0, 0⟩).flatMap Rec5.cells := by
  have hk : k < ys.length := (List.getElem?_eq_some_iff.1 hx).1
  have s0 := flat_set rcells_len ys k 0 x ⟨99, x.n, x.p, x.k, x.d⟩ (.int .u32 ((99 : Nat) : Int)) hx (by decide) rfl
  have s1 := flat_set rcells_len (ys.set k ⟨99, x.n, x.p, x.k, x.d⟩) k 1 ⟨99, x.n, x.p, x.k, x.d⟩ ⟨99, 0, x.p, x.k, x.d⟩ (.int .u8 ((0 : Nat) : Int)) (by rw [List.getElem?_set_self hk]) (by decide) rfl
  have s2 := flat_set rcells_len (ys.set k ⟨99, 0, x.p, x.k, x.d⟩) k 2 ⟨99, 0, x.p, x.k, x.d⟩ ⟨99, 0, 0, x.k, x.d⟩ (.int .u8 ((0 : Nat) : Int)) (by rw [List.getElem?_set_self hk]) (by decide) rfl
  have s3 := flat_set rcells_len (ys.set k ⟨99, 0, 0, x.k, x.d⟩) k 3 ⟨99, 0, 0, x.k, x.d⟩ ⟨99, 0, 0, 0, x.d⟩ (.int .u8 ((0 : Nat) : Int)) (by rw [List.getElem?_set_self hk]) (by decide) rfl
  have s4 := flat_set rcells_len (ys.set k ⟨99, 0, 0, 0, x.d⟩) k 4 ⟨99, 0, 0, 0, x.d⟩ ⟨99, 0, 0, 0, 0⟩ (.int .u8 ((0 : Nat) : Int)) (by rw [List.getElem?_set_self hk]) (by decide) rfl
  rw [List.set_set] at s1 s2 s3 s4
  rw [Nat.add_zero] at s0
  rw [s0, s1, s2, s3, s4]
theorem i64_in' (n : Int) (h1 : -9223372036854775808 ≤ n) (h2 : n ≤ 9223372036854775807) : IntKind.i64.wrap n = n := by unfold IntKind.wrap; simp [IntKind.signed, IntKind.bits]; split <;> omega
set_option maxRecDepth 100000
set_option maxHeartbeats 8000000
theorem healthLogs_walk (A0 : Option Addr) (len0 cap0 : Nat) (z0 : List (List Value)) (w : World) (hr : Rows' w 8 [.int .u32, .int .u8, .int .u8, .int .u8, .int .u8] A0 len0 cap0 z0) :
    Calls Try.prog 8 #[.slice A0 len0 cap0] w fun e w' => e = .returned (.bool true) ∧ Below w.heap.size w w' := by
  obtain ⟨rs, hR, _⟩ := recs_of hr
  have hcap := hr.cap
  clear hr
  have hlen := hR.1
  replace hR := Hidd.mk hR
  replace hlen := Hidd.mk hlen
  unfold maxLen at hcap
  by_cases h5 : 500 < len0
  · have d1 : decide (500 < len0) = true := decide_eq_true h5
    go_enter Try.func8, Try.ntmps8
    go_wp2_with (go_at_call 14; refine (awake_any _).mono ?_; rintro e w1 ⟨rfl, hb1⟩)
    go_ret
    exact ⟨rfl, hb1⟩
  · have d1 : decide (500 < len0) = false := decide_eq_false h5
    go_enter Try.func8, Try.ntmps8
    go_wp2_with (go_at_call 14; refine (awake_any _).mono ?_; rintro e w1 ⟨rfl, hb1⟩)
    have ho := Hidd.mk (show Own w (fun _ => False) (w1.alloc (.cells #[.slice none 0 0] 63 (0, 0))) [Res.pack (logL w1.heap.size none 0 0 (lastR rs 0))] from (Own.pack_in (by
      rw [List.append_nil]
      exact ((row_nil (((Own.nil w (fun _ => False)).ext hb1).alloc (.cells #[.slice none 0 0] 63 (0, 0))) 54 5).reorder [1, 0] rfl (by decide) : Own w (fun _ => False) _ (logL w1.heap.size none 0 0 [])))))
    clear hb1
    generalize w1.heap.size = b at ho ⊢
    generalize World.alloc w1 _ = wa at ho ⊢
    go_loopg [16] len0 (fun g v16 wx => ∃ (i : Nat) (A : Option Addr) (n c : Nat), i + g = len0 ∧ v16 = .int .i64 i ∧ Hidd ((lastR rs i).length = n) ∧ Hidd (Own w (fun _ => False) wx [Res.pack (logL b A n c (lastR rs i))]))
    case atStart => exact ⟨0, none, 0, 0, by omega, rfl, ⟨rfl⟩, ho⟩
    case round =>
      clear ho
      obtain ⟨i, A, n, c, hg, rfl, hn, ho⟩ := hrel
      cases gk with
      | succ g =>
        have hi : i < len0 := by omega
        have d2 : decide (i < len0) = true := decide_eq_true hi
        have bi0 : (0 : Int) ≤ (i : Int) := by omega
        have bi1 : (i : Int) < (len0 : Int) := by omega
        have hgi : i + 1 + g = len0 := by omega
        clear hg
        obtain ⟨x, hx⟩ : ∃ x, rs[i]? = some x := ⟨_, List.getElem?_eq_getElem (by rw [hlen.out]; exact hi)⟩
        obtain ⟨a, rfl, y0, y1, y2, y3, y4⟩ := (hR.out.below (ho.out.below fun _ => id)).2 i x hx
        have hst := Hidd.mk (lastR_step hx)
        have hab : (a.add (i * 5)).block < wr.heap.size := World.block_lt_of_cell? wr _ y0
        have hln := lastR_len (l := rs) (i := i) (by rw [hlen.out]; omega)
        have hn16 : n ≤ 16 := by rw [← hn.out, hln]; omega
        have hl1 := lastR_len (l := rs) (i := i + 1) (by rw [hlen.out]; omega)
        obtain ⟨lo, m, e1, hm, hlo⟩ : ∃ lo m, i + 1 = lo + m ∧ m = min (i + 1) 16 ∧ lo = i + 1 - 16 := ⟨i + 1 - 16, min (i + 1) 16, by omega, rfl, rfl⟩
        rw [← hm] at hl1
        have hoA := Hidd.mk (ho.out.alloc (.cells #[.int .u32 x.r, .int .u8 x.n, .int .u8 x.p, .int .u8 x.k, .int .u8 x.d] 54 (0, 0)))
        clear ho hx hln
        go_upto_region 10 with (go_at_call 24; refine (put_own 1 hoA.out rfl x hn.out hn16).mono ?_; rintro e w4 ⟨rfl, A4, c4, ho4⟩; replace ho4 := Hidd.mk ho4.tail; clear hoA)
        rw [hst.out] at ho4
        obtain ⟨rs1, hrs1⟩ : ∃ r, r = lastR rs (i + 1) := ⟨_, rfl⟩
        rw [← hrs1] at ho4 hl1
        rw [hl1] at ho4
        have hRs : Hidd (RecsAt w (some (a.add (lo * 5))) m rs1) := ⟨by
          refine recs_close hl1 ?_
          have := ((recs_open hR.out).take ((lo + m) * 5)).drop (lo * 5)
          rw [show (((rs.flatMap Rec5.cells).take ((lo + m) * 5)).drop (lo * 5)) = rs1.flatMap Rec5.cells by rw [hrs1, lastR, ← e1, flat_takeR, flat_dropR, hlo]] at this
          exact this⟩
        have z1 : (i : Int) + 1 = (lo : Int) + (m : Int) := by omega
        have z1w : IntKind.i64.wrap ((lo : Int) + (m : Int)) = (lo : Int) + (m : Int) := i64_in' _ (by omega) (by omega)
        obtain ⟨z, ez⟩ : ∃ z : Int, z = (lo : Int) + (m : Int) - 16 := ⟨_, rfl⟩
        have z2 : IntKind.i64.wrap ((lo : Int) + (m : Int) - 16) = z := by rw [i64_in' _ (by omega) (by omega)]; exact ez.symm
        have hmx : (if 0 < z then z else 0) = (lo : Int) := by split <;> omega
        have bl0 : (0 : Int) ≤ (lo : Int) := by omega
        have bl1 : (lo : Int) ≤ (lo : Int) + (m : Int) := by omega
        have bl2 : (lo : Int) + (m : Int) ≤ (cap0 : Int) := by omega
        have bl3 : (0 : Int) ≤ (lo : Int) + (m : Int) := by omega
        have bl4 : ((lo : Int) + (m : Int)).toNat = lo + m := by omega
        have bl5 : ¬ cap0 - lo = 0 := by omega
        have bl7 : ¬ cap0 = lo := by omega
        have bl6 : lo + m - lo = m := by omega
        have hm16 : m ≤ 16 := by omega
        clear hm e1 hlo ez hst
        obtain ⟨W0, hW0⟩ : ∃ zz, zz = World.drew w4 := ⟨_, rfl⟩
        refine wp_region_flow [([1, 2, 6, 3, 7, 4, 5, 8], some (0, [true])), ([], some (9, [false, false])), ([10], none)] (by kernel_rfl) (by kernel_rfl) ?_
        rw [show ({ w4 with drawn := w4.drawn + 1 } : World) = W0 from hW0.symm]
        replace hW0 := Hidd.mk hW0
        simp only [opsF, List.map_cons, List.map_nil, List.getD_cons_succ, List.getD_cons_zero, Option.map]
        have ho5 := Hidd.mk (show Own w _ W0 _ by rw [hW0.out]; exact ho4.out.drew)
        clear hW0 ho4
        refine FlW.stage (fun zz => Kept (fun _ => False) W0 zz) (Kept.refl _ _) ?_
        repeat (first | (refine StQ.skip (by rfl) ?_; simp only [Act.put, List.setIfInBounds_toArray, List.set_cons_zero, List.set_cons_succ]) | (refine StQ.go' (by rfl) (Exists.intro ?_ (And.intro (fun w' hS => ?_) ?_)); rotate_left; (focus (skip; go_simp; try with_reducible rfl)); simp only [Act.put, List.setIfInBounds_toArray, List.set_cons_zero, List.set_cons_succ]))
        refine StQ.nil ?_
        refine FlO.go (by rfl) (fun K hK => ?_)
        go_simp
        (refine (list_own 0 ho5.out rfl hl1 (by omega)).mono ?_; rintro e w6 ⟨A6, c6, rfl, ho6⟩)
        refine hK.out _ _ (.inr ⟨ho6.kept, trivial⟩) ?_
        clear hK K
        refine FlW.stage (fun _ => True) trivial (StQ.nil ?_)
        have hA6 := Hidd.mk (recs_close hl1 (row_cells ho6 0 rfl))
        have ho7 := Hidd.mk (ho5.out.ext (ho6.below fun _ => id))
        clear ho5 ho6
        refine FlO.go (by rfl) (fun K hK => ?_)
        go_simp
        (refine (sameRecs_any A6 _ m c6 _ rs1 _ hA6.out (hRs.out.below (ho7.out.below fun _ => id)) (by omega)).mono ?_; rintro e w8 ⟨rfl, hb8⟩)
        refine hK.out _ _ (.inr trivial) ?_
        clear hK K
        have ho8 := Hidd.mk (ho7.out.ext hb8)
        clear ho7 hb8 hA6
        refine FlW.heads (fun zz => zz = _) rfl ?_
        repeat (first | (refine StQ.skip (by rfl) ?_; simp only [Act.put, List.setIfInBounds_toArray, List.set_cons_zero, List.set_cons_succ]) | (refine StQ.go' (by rfl) (Exists.intro ?_ (And.intro (fun w' hS => ?_) ?_)); rotate_left; (focus (rw [hS]; go_simp; try with_reducible rfl)); simp only [Act.put, List.setIfInBounds_toArray, List.set_cons_zero, List.set_cons_succ]))
        refine StQ.nil ?_
        refine FlW.nil (Calm.normal ?_)
        go_wp2
        go_roundg g
        case rel => exact ⟨i + 1, A4, m, c4, hgi, by go_num, ⟨by rw [← hrs1]; exact hl1⟩, ⟨by rw [← hrs1]; exact ho8.out⟩⟩
        case measure => omega
      | zero =>
        obtain rfl : i = len0 := by omega
        have d2 : decide (i < i) = false := by simp
        have hln := lastR_len (l := rs) (i := i) (by rw [hlen.out]; omega)
        have hn16 : n ≤ 16 := by rw [← hn.out, hln]; omega
        have hnm := Hidd.mk (show n = min i 16 by rw [← hn.out, hln])
        obtain ⟨rs1, hrs1⟩ : ∃ r, r = lastR rs i := ⟨_, rfl⟩
        rw [← hrs1] at ho hn
        have hRs : Hidd (RecsAt w (A0.map (·.add ((i - n) * 5))) n rs1) := ⟨by
          refine recs_close hn.out ?_
          have := ((recs_open hR.out).drop ((i - n) * 5))
          rw [flat_dropR] at this
          rw [hrs1, lastR, List.take_of_length_le (by rw [hlen.out]; exact Nat.le_refl _), show i - 16 = i - n by have := hnm.out; omega]
          exact this⟩
        replace hrs1 := Hidd.mk hrs1
        go_wp2_with (go_at_call 25; refine (list_own 0 ho.out rfl hn.out (by omega)).mono ?_; rintro e w6 ⟨A6, c6, rfl, ho6⟩; have ho7 := Hidd.mk (ho.out.made ho6); clear ho ho6)
        go_loopg [38] n (fun g v38 wx => ∃ (k : Nat) (ys : List Rec5), k + g = n ∧ v38 = .int .i64 k ∧ Hidd (ys.length = n) ∧ Hidd (Own w (fun _ => False) wx [row 54 5 (.slice A6 n c6) n (ys.flatMap Rec5.cells), Res.pack (logL b A n c rs1)]))
        case atStart => exact ⟨0, rs1, by omega, rfl, hn, ho7⟩
        case round =>
          clear ho7
          obtain ⟨k, ys, hg2, rfl, hys, ho⟩ := hrel
          cases gk with
          | succ g2 =>
            have hk : k < n := by omega
            have d3 : decide (k < n) = true := decide_eq_true hk
            have bk0 : (0 : Int) ≤ (k : Int) := by omega
            have bk1 : (k : Int) < (n : Int) := by omega
            have hgk : k + 1 + g2 = n := by omega
            clear hg2
            obtain ⟨g6, rfl, _⟩ := head_any (show wr.ownsRow 0 54 5 (.slice A6 n c6) n (ys.flatMap Rec5.cells) from ho.out.get 0 rfl) (by omega)
            obtain ⟨x, hx⟩ : ∃ x, ys[k]? = some x := ⟨_, List.getElem?_eq_getElem (by rw [hys.out]; exact hk)⟩
            obtain ⟨y0, y1, y2, y3, y4⟩ := rec_cells5 (row_cells ho.out 0 rfl) hx
            have f0 := (show wr.ownsRow 0 54 5 (.slice (some ⟨g6, 0, none⟩) n c6) n (ys.flatMap Rec5.cells) from ho.out.get 0 rfl).frozenAt (k * 5)
            have f1 := (show wr.ownsRow 0 54 5 (.slice (some ⟨g6, 0, none⟩) n c6) n (ys.flatMap Rec5.cells) from ho.out.get 0 rfl).frozenAt (k * 5 + 1)
            have f2 := (show wr.ownsRow 0 54 5 (.slice (some ⟨g6, 0, none⟩) n c6) n (ys.flatMap Rec5.cells) from ho.out.get 0 rfl).frozenAt (k * 5 + 2)
            have f3 := (show wr.ownsRow 0 54 5 (.slice (some ⟨g6, 0, none⟩) n c6) n (ys.flatMap Rec5.cells) from ho.out.get 0 rfl).frozenAt (k * 5 + 3)
            have f4 := (show wr.ownsRow 0 54 5 (.slice (some ⟨g6, 0, none⟩) n c6) n (ys.flatMap Rec5.cells) from ho.out.get 0 rfl).frozenAt (k * 5 + 4)
            have ho2 := Hidd.mk (row_set (row_set (row_set (row_set (row_set ho.out 0 rfl (k * 5) (.int .u32 ((99 : Nat) : Int))) 0 rfl (k * 5 + 1) (.int .u8 ((0 : Nat) : Int))) 0 rfl (k * 5 + 2) (.int .u8 ((0 : Nat) : Int))) 0 rfl (k * 5 + 3) (.int .u8 ((0 : Nat) : Int))) 0 rfl (k * 5 + 4) (.int .u8 ((0 : Nat) : Int)))
            have hset := Hidd.mk (rec_set hx)
            have hyl : Hidd ((ys.set k ⟨99, 0, 0, 0, 0⟩).length = n) := ⟨by rw [List.length_set]; exact hys.out⟩
            clear hx
            go_wp2
            go_roundg g2
            case rel =>
              refine ⟨k + 1, ys.set k ⟨99, 0, 0, 0, 0⟩, hgk, by go_num, hyl, ⟨?_⟩⟩
              have h2 := ho2.out
              simp only [List.set_cons_zero] at h2
              rw [hset.out] at h2
              exact h2
            case measure => omega
          | zero =>
            obtain rfl : k = n := by omega
            have d3 : decide (k < k) = false := by simp
            have ho2 : Hidd (Own w (fun _ => False) wr [Res.pack (logL b A k c rs1)]) := ⟨ho.out.tail⟩
            clear ho hg2 hys
            go_upto_region 21 with (go_at_call 24; refine (put_nil _ _ ⟨0, 0, 0, 0, 0⟩ rfl).mono ?_; rintro e w7 ⟨rfl, hb7⟩; have ho3 := Hidd.mk (ho2.out.ext hb7); clear ho2 hb7)
            obtain ⟨lo, hlo⟩ : ∃ lo, lo = i - k := ⟨_, rfl⟩
            rw [← hlo] at hRs
            have hkm := hnm.out
            have hany : k = 0 → ∀ X, RecsAt w X k rs1 := fun h X => by
              have h1 : rs1 = [] := List.length_eq_zero_iff.1 (by rw [hn.out]; exact h)
              rw [h1, h]
              exact ⟨rfl, fun i x hx => by simp at hx⟩
            have hAc : (A0 = none ∧ k = 0 ∧ lo = 0) ∨ ∃ a, A0 = some a := by
              rcases A0 with _ | a
              · refine .inl ⟨rfl, ?_⟩
                have : rs.length = 0 := by
                  rcases hrs : rs with _ | ⟨x, t⟩
                  · rfl
                  · obtain ⟨a, e, _⟩ := hR.out.2 0 x (by rw [hrs]; rfl)
                    cases e
                rw [hlen.out] at this
                omega
              · exact .inr ⟨a, rfl⟩
            obtain ⟨z, ez⟩ : ∃ z : Int, z = (i : Int) - 16 := ⟨_, rfl⟩
            have z2 : IntKind.i64.wrap ((i : Int) - 16) = z := by rw [i64_in' _ (by omega) (by omega)]; exact ez.symm
            have hmx : (if 0 < z then z else 0) = (lo : Int) := by split <;> omega
            have bl0 : (0 : Int) ≤ (lo : Int) := by omega
            have bl1 : (lo : Int) ≤ (i : Int) := by omega
            have bl6 : i - lo = k := by omega
            have hk16 : k ≤ 16 := by omega
            have hkz : lo = i → k = 0 := by omega
            have hic : i ≤ cap0 := hcap.1
            clear hkm hlo ez
            replace hRs := Hidd.mk hRs
            have hB : Hidd (∀ X, (k = 0 ∨ ∃ a, A0 = some a ∧ X = some (a.add (lo * 5))) → RecsAt w X k rs1) := ⟨fun X hX => by
              rcases hX with h | ⟨a, h1, h2⟩
              · exact hany h X
              · have := hRs.out.out
                rw [h1] at this
                rw [h2]
                exact this⟩
            replace hany := Hidd.mk hany
            replace hkz := Hidd.mk hkz
            clear hRs
            rcases hAc with ⟨rfl, rfl, rfl⟩ | ⟨a, rfl⟩
            · obtain ⟨W0, hW0⟩ : ∃ zz, zz = World.drew w7 := ⟨_, rfl⟩
              refine wp_region_flow [([0], some (1, [false])), ([2, 3, 4, 6, 7, 8, 9, 10, 11], some (5, [true, false])), ([], some (12, [false, false, false])), ([13, 14], none)] (by kernel_rfl) (by kernel_rfl) ?_
              rw [show ({ w7 with drawn := w7.drawn + 1 } : World) = W0 from hW0.symm]
              replace hW0 := Hidd.mk hW0
              simp only [opsF, List.map_cons, List.map_nil, List.getD_cons_succ, List.getD_cons_zero, Option.map]
              have ho4 := Hidd.mk (show Own w _ W0 _ by rw [hW0.out]; exact ho3.out.drew)
              clear hW0 ho3
              refine FlW.stage (fun zz => Kept (fun _ => False) W0 zz) (Kept.refl _ _) ?_
              repeat (first | (refine StQ.skip (by rfl) ?_; simp only [Act.put, List.setIfInBounds_toArray, List.set_cons_zero, List.set_cons_succ]) | (refine StQ.go' (by rfl) (Exists.intro ?_ (And.intro (fun w' hS => ?_) ?_)); rotate_left; (focus (skip; go_simp; try with_reducible rfl)); simp only [Act.put, List.setIfInBounds_toArray, List.set_cons_zero, List.set_cons_succ]))
              refine StQ.nil ?_
              refine FlO.go (by rfl) (fun K hK => ?_)
              go_simp
              (refine (list_nil _).mono ?_; rintro e w8 ⟨rfl, rfl⟩)
              refine hK.out _ _ (.inr trivial) ?_
              clear hK K
              refine FlW.stage (fun zz => Kept (fun _ => False) W0 zz) (Kept.refl _ _) ?_
              repeat (first | (refine StQ.skip (by rfl) ?_; simp only [Act.put, List.setIfInBounds_toArray, List.set_cons_zero, List.set_cons_succ]) | (refine StQ.go' (by rfl) (Exists.intro ?_ (And.intro (fun w' hS => ?_) ?_)); rotate_left; (focus (skip; go_simp; try with_reducible rfl)); simp only [Act.put, List.setIfInBounds_toArray, List.set_cons_zero, List.set_cons_succ]))
              refine StQ.nil ?_
              refine FlO.go (by rfl) (fun K hK => ?_)
              go_simp
              (refine (list_own 0 ho4.out rfl hn.out (by omega)).mono ?_; rintro e w9 ⟨A9, c9, rfl, ho9⟩)
              refine hK.out _ _ (.inr ⟨ho9.kept, trivial⟩) ?_
              clear hK K
              refine FlW.stage (fun _ => True) trivial (StQ.nil ?_)
              have hA9 := Hidd.mk (recs_close hn.out (row_cells ho9 0 rfl))
              have ho10 := Hidd.mk (ho4.out.ext (ho9.below fun _ => id))
              clear ho4 ho9
              refine FlO.go (by rfl) (fun K hK => ?_)
              go_simp
              (refine (sameRecs_any A9 _ _ c9 _ rs1 _ hA9.out ((hB.out _ (.inl rfl)).below (ho10.out.below fun _ => id)) (by omega)).mono ?_; rintro e wA ⟨rfl, hbA⟩)
              refine hK.out _ _ (.inr trivial) ?_
              clear hK K
              refine FlW.heads (fun zz => zz = _) rfl ?_
              repeat (first | (refine StQ.skip (by rfl) ?_; simp only [Act.put, List.setIfInBounds_toArray, List.set_cons_zero, List.set_cons_succ]) | (refine StQ.go' (by rfl) (Exists.intro ?_ (And.intro (fun w' hS => ?_) ?_)); rotate_left; (focus (rw [hS]; go_simp; try with_reducible rfl)); simp only [Act.put, List.setIfInBounds_toArray, List.set_cons_zero, List.set_cons_succ]))
              refine StQ.nil ?_
              refine FlW.nil (Calm.normal ?_)
              go_wp2
              go_ret
              exact ⟨rfl, (ho10.out.ext hbA).below fun _ => id⟩
            · by_cases hcl : cap0 = lo
              · obtain rfl : k = 0 := hkz.out (by omega)
                obtain rfl : cap0 = lo := hcl
                obtain ⟨W0, hW0⟩ : ∃ zz, zz = World.drew w7 := ⟨_, rfl⟩
                refine wp_region_flow [([0], some (1, [false])), ([2, 3, 4, 6, 7, 8, 9, 10, 11], some (5, [true, false])), ([], some (12, [false, false, false])), ([13, 14], none)] (by kernel_rfl) (by kernel_rfl) ?_
                rw [show ({ w7 with drawn := w7.drawn + 1 } : World) = W0 from hW0.symm]
                replace hW0 := Hidd.mk hW0
                simp only [opsF, List.map_cons, List.map_nil, List.getD_cons_succ, List.getD_cons_zero, Option.map]
                have ho4 := Hidd.mk (show Own w _ W0 _ by rw [hW0.out]; exact ho3.out.drew)
                clear hW0 ho3
                refine FlW.stage (fun zz => Kept (fun _ => False) W0 zz) (Kept.refl _ _) ?_
                repeat (first | (refine StQ.skip (by rfl) ?_; simp only [Act.put, List.setIfInBounds_toArray, List.set_cons_zero, List.set_cons_succ]) | (refine StQ.go' (by rfl) (Exists.intro ?_ (And.intro (fun w' hS => ?_) ?_)); rotate_left; (focus (skip; go_simp; try with_reducible rfl)); simp only [Act.put, List.setIfInBounds_toArray, List.set_cons_zero, List.set_cons_succ]))
                refine StQ.nil ?_
                refine FlO.go (by rfl) (fun K hK => ?_)
                go_simp
                (refine (list_nil _).mono ?_; rintro e w8 ⟨rfl, rfl⟩)
                refine hK.out _ _ (.inr trivial) ?_
                clear hK K
                refine FlW.stage (fun zz => Kept (fun _ => False) W0 zz) (Kept.refl _ _) ?_
                repeat (first | (refine StQ.skip (by rfl) ?_; simp only [Act.put, List.setIfInBounds_toArray, List.set_cons_zero, List.set_cons_succ]) | (refine StQ.go' (by rfl) (Exists.intro ?_ (And.intro (fun w' hS => ?_) ?_)); rotate_left; (focus (skip; go_simp; try with_reducible rfl)); simp only [Act.put, List.setIfInBounds_toArray, List.set_cons_zero, List.set_cons_succ]))
                refine StQ.nil ?_
                refine FlO.go (by rfl) (fun K hK => ?_)
                go_simp
                (refine (list_own 0 ho4.out rfl hn.out (by omega)).mono ?_; rintro e w9 ⟨A9, c9, rfl, ho9⟩)
                refine hK.out _ _ (.inr ⟨ho9.kept, trivial⟩) ?_
                clear hK K
                refine FlW.stage (fun _ => True) trivial (StQ.nil ?_)
                have hA9 := Hidd.mk (recs_close hn.out (row_cells ho9 0 rfl))
                have ho10 := Hidd.mk (ho4.out.ext (ho9.below fun _ => id))
                clear ho4 ho9
                refine FlO.go (by rfl) (fun K hK => ?_)
                go_simp
                (refine (sameRecs_any A9 _ _ c9 _ rs1 _ hA9.out ((hB.out _ (.inl rfl)).below (ho10.out.below fun _ => id)) (by omega)).mono ?_; rintro e wA ⟨rfl, hbA⟩)
                refine hK.out _ _ (.inr trivial) ?_
                clear hK K
                refine FlW.heads (fun zz => zz = _) rfl ?_
                repeat (first | (refine StQ.skip (by rfl) ?_; simp only [Act.put, List.setIfInBounds_toArray, List.set_cons_zero, List.set_cons_succ]) | (refine StQ.go' (by rfl) (Exists.intro ?_ (And.intro (fun w' hS => ?_) ?_)); rotate_left; (focus (rw [hS]; go_simp; try with_reducible rfl)); simp only [Act.put, List.setIfInBounds_toArray, List.set_cons_zero, List.set_cons_succ]))
                refine StQ.nil ?_
                refine FlW.nil (Calm.normal ?_)
                go_wp2
                go_ret
                exact ⟨rfl, (ho10.out.ext hbA).below fun _ => id⟩
              · obtain ⟨W0, hW0⟩ : ∃ zz, zz = World.drew w7 := ⟨_, rfl⟩
                refine wp_region_flow [([0], some (1, [false])), ([2, 3, 4, 6, 7, 8, 9, 10, 11], some (5, [true, false])), ([], some (12, [false, false, false])), ([13, 14], none)] (by kernel_rfl) (by kernel_rfl) ?_
                rw [show ({ w7 with drawn := w7.drawn + 1 } : World) = W0 from hW0.symm]
                replace hW0 := Hidd.mk hW0
                simp only [opsF, List.map_cons, List.map_nil, List.getD_cons_succ, List.getD_cons_zero, Option.map]
                have ho4 := Hidd.mk (show Own w _ W0 _ by rw [hW0.out]; exact ho3.out.drew)
                clear hW0 ho3
                refine FlW.stage (fun zz => Kept (fun _ => False) W0 zz) (Kept.refl _ _) ?_
                repeat (first | (refine StQ.skip (by rfl) ?_; simp only [Act.put, List.setIfInBounds_toArray, List.set_cons_zero, List.set_cons_succ]) | (refine StQ.go' (by rfl) (Exists.intro ?_ (And.intro (fun w' hS => ?_) ?_)); rotate_left; (focus (skip; go_simp; try with_reducible rfl)); simp only [Act.put, List.setIfInBounds_toArray, List.set_cons_zero, List.set_cons_succ]))
                refine StQ.nil ?_
                refine FlO.go (by rfl) (fun K hK => ?_)
                go_simp
                (refine (list_nil _).mono ?_; rintro e w8 ⟨rfl, rfl⟩)
                refine hK.out _ _ (.inr trivial) ?_
                clear hK K
                refine FlW.stage (fun zz => Kept (fun _ => False) W0 zz) (Kept.refl _ _) ?_
                repeat (first | (refine StQ.skip (by rfl) ?_; simp only [Act.put, List.setIfInBounds_toArray, List.set_cons_zero, List.set_cons_succ]) | (refine StQ.go' (by rfl) (Exists.intro ?_ (And.intro (fun w' hS => ?_) ?_)); rotate_left; (focus (skip; go_simp; try with_reducible rfl)); simp only [Act.put, List.setIfInBounds_toArray, List.set_cons_zero, List.set_cons_succ]))
                refine StQ.nil ?_
                refine FlO.go (by rfl) (fun K hK => ?_)
                go_simp
                (refine (list_own 0 ho4.out rfl hn.out (by omega)).mono ?_; rintro e w9 ⟨A9, c9, rfl, ho9⟩)
                refine hK.out _ _ (.inr ⟨ho9.kept, trivial⟩) ?_
                clear hK K
                refine FlW.stage (fun _ => True) trivial (StQ.nil ?_)
                have hA9 := Hidd.mk (recs_close hn.out (row_cells ho9 0 rfl))
                have ho10 := Hidd.mk (ho4.out.ext (ho9.below fun _ => id))
                clear ho4 ho9
                refine FlO.go (by rfl) (fun K hK => ?_)
                go_simp
                (refine (sameRecs_any A9 _ _ c9 _ rs1 _ hA9.out ((hB.out _ (.inr ⟨_, rfl, rfl⟩)).below (ho10.out.below fun _ => id)) (by omega)).mono ?_; rintro e wA ⟨rfl, hbA⟩)
                refine hK.out _ _ (.inr trivial) ?_
                clear hK K
                refine FlW.heads (fun zz => zz = _) rfl ?_
                repeat (first | (refine StQ.skip (by rfl) ?_; simp only [Act.put, List.setIfInBounds_toArray, List.set_cons_zero, List.set_cons_succ]) | (refine StQ.go' (by rfl) (Exists.intro ?_ (And.intro (fun w' hS => ?_) ?_)); rotate_left; (focus (rw [hS]; go_simp; try with_reducible rfl)); simp only [Act.put, List.setIfInBounds_toArray, List.set_cons_zero, List.set_cons_succ]))
                refine StQ.nil ?_
                refine FlW.nil (Calm.normal ?_)
                go_wp2
                go_ret
                exact ⟨rfl, (ho10.out.ext hbA).below fun _ => id⟩
end Go.Proofs.Ytpiahnecpbalhaa
